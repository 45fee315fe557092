/-
  No cell of these rows narrows 'for every input' (looked for: loops, veiled, ifaces, maps, wideKeys, modest, calm, conditions, laid).
  DERIVED. THE GIVEN ROWS OF THIS SEAT. 9 by the template 'for every input the law returns true; each argument reads behind the call as it read before'; 0 by the template 'total and deterministic' (their statements: YtminnkihcohflaaTotals.lean).
  GIVEN WITH THE SEED: the statements are not yours to turn. If you find one false, say at which input.
  Laid BY PROGRAM, IN A SANDBOX (cutbox-rows.mjs): the forced cells as the released guide's own fill.sh prints them over the translation a42d7ba037d63c5f… (all of the seat's roots in one cut). By AI agents, Wed Nov 11 2026. No macro, syntax, notation, axiom, sorry.
-/
import Derived.Test.YtminnkihcohflaaChecked
import GoSem.Claim
import GoSem.ClaimJoined
import GoSem.ClaimMapViews
import Derived.JoinedTies
import Derived.KernelRfl
namespace Go.Proofs.Ytminnkihcohflaa
/- THE CELL 'sum', in the pinned program and in every row, IS THE sha256 OF THE DUMP (.gsa) THAT YtminnkihcohflaaProg.lean LOADS. Nothing in Lean hashes anything: it is a label: what it is worth is what the hold of that sum in a sandbox is worth. -/
noncomputable def Try.pinned : Pinned := { name := "ytminnkihcohflaa", sum := "a42d7ba037d63c5f4f24b4658d89967452600f49397472497bac50911948713f", checked := Try.checked }
namespace Rows
def none {H : Type} : Left H := { results := [], args := [] }

/-- 'annalistlaw12.SplitterTwice': WHATEVER THE INPUT: true; the input reads as it did. -/
def splitterTwiceSpec : ChangeSpec := { name := "splitterTwice", fn := fun _ => fun
  | [d1, d2, d3] => { results := [.lit (.bool true)], args := [d1, d2, d3] }
  | _ => none }
def splitterTwiceRow : OpenClaim := { program := "ytminnkihcohflaa", sum := "a42d7ba037d63c5f4f24b4658d89967452600f49397472497bac50911948713f", func := "annalist/annalistlaw12.SplitterTwice", spec := "splitterTwice", unfollowed := true, recurses := true, apart := false }
def SplitterTwiceSaid : Prop := splitterTwiceRow.holds Try.pinned (OpenSpec.ofChange splitterTwiceSpec)

/-- ITS FALSE NEIGHBOUR: 'it returns false'. Refute it at one input. -/
def splitterTwiceWrong : ChangeSpec := { name := "splitterTwice", fn := fun _ => fun
  | [d1, d2, d3] => { results := [.lit (.bool false)], args := [d1, d2, d3] }
  | _ => none }
def SplitterTwiceWrongFalsely : Prop := splitterTwiceRow.holds Try.pinned (OpenSpec.ofChange splitterTwiceWrong)

/-- 'annalistlaw19.PortionEdits': WHATEVER THE INPUT: true; the input reads as it did. -/
def portionEditsSpec : ChangeSpec := { name := "portionEdits", fn := fun _ => fun
  | [d1, d2, d3, d4, d5, d6] => { results := [.lit (.bool true)], args := [d1, d2, d3, d4, d5, d6] }
  | _ => none }
def portionEditsRow : OpenClaim := { program := "ytminnkihcohflaa", sum := "a42d7ba037d63c5f4f24b4658d89967452600f49397472497bac50911948713f", func := "annalist/annalistlaw19.PortionEdits", spec := "portionEdits", inPlace := ["internal/bytealg.abigen_runtime_cmpstring"], unfollowed := true, recurses := true, apart := false }
def PortionEditsSaid : Prop := portionEditsRow.holds Try.pinned (OpenSpec.ofChange portionEditsSpec)

/-- ITS FALSE NEIGHBOUR: 'it returns false'. Refute it at one input. -/
def portionEditsWrong : ChangeSpec := { name := "portionEdits", fn := fun _ => fun
  | [d1, d2, d3, d4, d5, d6] => { results := [.lit (.bool false)], args := [d1, d2, d3, d4, d5, d6] }
  | _ => none }
def PortionEditsWrongFalsely : Prop := portionEditsRow.holds Try.pinned (OpenSpec.ofChange portionEditsWrong)

/-- 'annalistlaw19.PortionApply': WHATEVER THE INPUT: true; the input reads as it did. -/
def portionApplySpec : ChangeSpec := { name := "portionApply", fn := fun _ => fun
  | [d1, d2, d3, d4] => { results := [.lit (.bool true)], args := [d1, d2, d3, d4] }
  | _ => none }
def portionApplyRow : OpenClaim := { program := "ytminnkihcohflaa", sum := "a42d7ba037d63c5f4f24b4658d89967452600f49397472497bac50911948713f", func := "annalist/annalistlaw19.PortionApply", spec := "portionApply", inPlace := ["internal/bytealg.abigen_runtime_cmpstring"], unfollowed := true, recurses := true, apart := false }
def PortionApplySaid : Prop := portionApplyRow.holds Try.pinned (OpenSpec.ofChange portionApplySpec)

/-- ITS FALSE NEIGHBOUR: 'it returns false'. Refute it at one input. -/
def portionApplyWrong : ChangeSpec := { name := "portionApply", fn := fun _ => fun
  | [d1, d2, d3, d4] => { results := [.lit (.bool false)], args := [d1, d2, d3, d4] }
  | _ => none }
def PortionApplyWrongFalsely : Prop := portionApplyRow.holds Try.pinned (OpenSpec.ofChange portionApplyWrong)

/-- 'annalistlaw19.PortionPast': WHATEVER THE INPUT: true; the input reads as it did. -/
def portionPastSpec : ChangeSpec := { name := "portionPast", fn := fun _ => fun
  | [d1, d2, d3, d4, d5, d6] => { results := [.lit (.bool true)], args := [d1, d2, d3, d4, d5, d6] }
  | _ => none }
def portionPastRow : OpenClaim := { program := "ytminnkihcohflaa", sum := "a42d7ba037d63c5f4f24b4658d89967452600f49397472497bac50911948713f", func := "annalist/annalistlaw19.PortionPast", spec := "portionPast", inPlace := ["internal/bytealg.abigen_runtime_cmpstring"], unfollowed := true, recurses := true, apart := false }
def PortionPastSaid : Prop := portionPastRow.holds Try.pinned (OpenSpec.ofChange portionPastSpec)

/-- ITS FALSE NEIGHBOUR: 'it returns false'. Refute it at one input. -/
def portionPastWrong : ChangeSpec := { name := "portionPast", fn := fun _ => fun
  | [d1, d2, d3, d4, d5, d6] => { results := [.lit (.bool false)], args := [d1, d2, d3, d4, d5, d6] }
  | _ => none }
def PortionPastWrongFalsely : Prop := portionPastRow.holds Try.pinned (OpenSpec.ofChange portionPastWrong)

/-- 'annalistlaw19.PortionSame': WHATEVER THE INPUT: true; the input reads as it did. -/
def portionSameSpec : ChangeSpec := { name := "portionSame", fn := fun _ => fun
  | [d1, d2, d3, d4] => { results := [.lit (.bool true)], args := [d1, d2, d3, d4] }
  | _ => none }
def portionSameRow : OpenClaim := { program := "ytminnkihcohflaa", sum := "a42d7ba037d63c5f4f24b4658d89967452600f49397472497bac50911948713f", func := "annalist/annalistlaw19.PortionSame", spec := "portionSame", inPlace := ["internal/bytealg.abigen_runtime_cmpstring"], unfollowed := true, recurses := true, apart := false }
def PortionSameSaid : Prop := portionSameRow.holds Try.pinned (OpenSpec.ofChange portionSameSpec)

/-- ITS FALSE NEIGHBOUR: 'it returns false'. Refute it at one input. -/
def portionSameWrong : ChangeSpec := { name := "portionSame", fn := fun _ => fun
  | [d1, d2, d3, d4] => { results := [.lit (.bool false)], args := [d1, d2, d3, d4] }
  | _ => none }
def PortionSameWrongFalsely : Prop := portionSameRow.holds Try.pinned (OpenSpec.ofChange portionSameWrong)

/-- 'annalistlaw12.SplitterSplit': WHATEVER THE INPUT: true; the input reads as it did. -/
def splitterSplitSpec : ChangeSpec := { name := "splitterSplit", fn := fun _ => fun
  | [d1, d2, d3] => { results := [.lit (.bool true)], args := [d1, d2, d3] }
  | _ => none }
def splitterSplitRow : OpenClaim := { program := "ytminnkihcohflaa", sum := "a42d7ba037d63c5f4f24b4658d89967452600f49397472497bac50911948713f", func := "annalist/annalistlaw12.SplitterSplit", spec := "splitterSplit", unfollowed := true, recurses := true, apart := false }
def SplitterSplitSaid : Prop := splitterSplitRow.holds Try.pinned (OpenSpec.ofChange splitterSplitSpec)

/-- ITS FALSE NEIGHBOUR: 'it returns false'. Refute it at one input. -/
def splitterSplitWrong : ChangeSpec := { name := "splitterSplit", fn := fun _ => fun
  | [d1, d2, d3] => { results := [.lit (.bool false)], args := [d1, d2, d3] }
  | _ => none }
def SplitterSplitWrongFalsely : Prop := splitterSplitRow.holds Try.pinned (OpenSpec.ofChange splitterSplitWrong)

/-- 'annalistlaw12.SplitterAligned': WHATEVER THE INPUT: true; the input reads as it did. -/
def splitterAlignedSpec : ChangeSpec := { name := "splitterAligned", fn := fun _ => fun
  | [d1, d2] => { results := [.lit (.bool true)], args := [d1, d2] }
  | _ => none }
def splitterAlignedRow : OpenClaim := { program := "ytminnkihcohflaa", sum := "a42d7ba037d63c5f4f24b4658d89967452600f49397472497bac50911948713f", func := "annalist/annalistlaw12.SplitterAligned", spec := "splitterAligned", unfollowed := true, recurses := true, apart := false }
def SplitterAlignedSaid : Prop := splitterAlignedRow.holds Try.pinned (OpenSpec.ofChange splitterAlignedSpec)

/-- ITS FALSE NEIGHBOUR: 'it returns false'. Refute it at one input. -/
def splitterAlignedWrong : ChangeSpec := { name := "splitterAligned", fn := fun _ => fun
  | [d1, d2] => { results := [.lit (.bool false)], args := [d1, d2] }
  | _ => none }
def SplitterAlignedWrongFalsely : Prop := splitterAlignedRow.holds Try.pinned (OpenSpec.ofChange splitterAlignedWrong)

/-- 'annalistlaw12.SplitterGranule': WHATEVER THE INPUT: true; the input reads as it did. -/
def splitterGranuleSpec : ChangeSpec := { name := "splitterGranule", fn := fun _ => fun
  | [d1, d2] => { results := [.lit (.bool true)], args := [d1, d2] }
  | _ => none }
def splitterGranuleRow : OpenClaim := { program := "ytminnkihcohflaa", sum := "a42d7ba037d63c5f4f24b4658d89967452600f49397472497bac50911948713f", func := "annalist/annalistlaw12.SplitterGranule", spec := "splitterGranule", unfollowed := true, recurses := true, apart := false }
def SplitterGranuleSaid : Prop := splitterGranuleRow.holds Try.pinned (OpenSpec.ofChange splitterGranuleSpec)

/-- ITS FALSE NEIGHBOUR: 'it returns false'. Refute it at one input. -/
def splitterGranuleWrong : ChangeSpec := { name := "splitterGranule", fn := fun _ => fun
  | [d1, d2] => { results := [.lit (.bool false)], args := [d1, d2] }
  | _ => none }
def SplitterGranuleWrongFalsely : Prop := splitterGranuleRow.holds Try.pinned (OpenSpec.ofChange splitterGranuleWrong)

/-- 'annalistlaw19.PortionOutside': WHATEVER THE INPUT: true; the input reads as it did. -/
def portionOutsideSpec : ChangeSpec := { name := "portionOutside", fn := fun _ => fun
  | [d1, d2, d3, d4, d5, d6] => { results := [.lit (.bool true)], args := [d1, d2, d3, d4, d5, d6] }
  | _ => none }
def portionOutsideRow : OpenClaim := { program := "ytminnkihcohflaa", sum := "a42d7ba037d63c5f4f24b4658d89967452600f49397472497bac50911948713f", func := "annalist/annalistlaw19.PortionOutside", spec := "portionOutside", inPlace := ["internal/bytealg.abigen_runtime_cmpstring"], unfollowed := true, recurses := true, apart := false }
def PortionOutsideSaid : Prop := portionOutsideRow.holds Try.pinned (OpenSpec.ofChange portionOutsideSpec)

/-- ITS FALSE NEIGHBOUR: 'it returns false'. Refute it at one input. -/
def portionOutsideWrong : ChangeSpec := { name := "portionOutside", fn := fun _ => fun
  | [d1, d2, d3, d4, d5, d6] => { results := [.lit (.bool false)], args := [d1, d2, d3, d4, d5, d6] }
  | _ => none }
def PortionOutsideWrongFalsely : Prop := portionOutsideRow.holds Try.pinned (OpenSpec.ofChange portionOutsideWrong)

/- THE SECOND FORM. 'bulk': how many values and letters a reading holds, each counted each time it is reached (what is shared counts as often as it is met; a slice's spare places count too). A statement '..UptoSaid' is the law's where the arguments, and the package variables that the reading takes, are together of bulk at most 1048576: NARROWER than '..Said'. Prove '..Said' where nothing that the law and all that it calls make is longer than what came in: it says more and counts as full. Else prove '..UptoSaid'. A law counts once. -/
mutual
def uptoBulk {H : Type} : DataW H → Nat
  | .lit (.string bytes) => bytes.length + 1
  | .lit _ => 1
  | .nil => 1
  | .ptr d => uptoBulk d + 1
  | .slice elems spare => uptoBulkAll elems + uptoBulkAll spare + 1
  | .agg parts => uptoBulkAll parts + 1
  | .iface _ d => uptoBulk d + 1
  | .map entries => uptoBulkEntries entries + 1
  | .held _ => 1
def uptoBulkAll {H : Type} : List (DataW H) → Nat
  | [] => 0
  | d :: r => uptoBulk d + uptoBulkAll r
def uptoBulkEntries {H : Type} : List (Lit × DataW H) → Nat
  | [] => 0
  | x :: r => uptoBulkEntry x + uptoBulkEntries r
def uptoBulkEntry {H : Type} : Lit × DataW H → Nat
  | (.string bytes, d) => bytes.length + uptoBulk d + 1
  | (_, d) => uptoBulk d + 1
 end
def uptoSmall : (H : Type) → List (DataW H) → Bool := fun _ ds => decide (uptoBulkAll ds ≤ 1048576)
def OpenSpec.upto (s : _root_.Go.ChangeSpec) : _root_.Go.OpenSpec := { _root_.Go.OpenSpec.ofChange s with cond := some uptoSmall }

/-- 'annalistlaw12.SplitterTwice', WHERE WHAT IT READS IS OF BULK AT MOST 1048576: true; the input reads as it did. -/
def splitterTwiceUptoRow : OpenClaim := { program := "ytminnkihcohflaa", sum := "a42d7ba037d63c5f4f24b4658d89967452600f49397472497bac50911948713f", func := "annalist/annalistlaw12.SplitterTwice", spec := "splitterTwice", unfollowed := true, recurses := true, apart := false, narrowed := true }
def SplitterTwiceUptoSaid : Prop := splitterTwiceUptoRow.holds Try.pinned (OpenSpec.upto splitterTwiceSpec)

/-- 'annalistlaw19.PortionEdits', WHERE WHAT IT READS IS OF BULK AT MOST 1048576: true; the input reads as it did. -/
def portionEditsUptoRow : OpenClaim := { program := "ytminnkihcohflaa", sum := "a42d7ba037d63c5f4f24b4658d89967452600f49397472497bac50911948713f", func := "annalist/annalistlaw19.PortionEdits", spec := "portionEdits", inPlace := ["internal/bytealg.abigen_runtime_cmpstring"], unfollowed := true, recurses := true, apart := false, narrowed := true }
def PortionEditsUptoSaid : Prop := portionEditsUptoRow.holds Try.pinned (OpenSpec.upto portionEditsSpec)

/-- 'annalistlaw19.PortionApply', WHERE WHAT IT READS IS OF BULK AT MOST 1048576: true; the input reads as it did. -/
def portionApplyUptoRow : OpenClaim := { program := "ytminnkihcohflaa", sum := "a42d7ba037d63c5f4f24b4658d89967452600f49397472497bac50911948713f", func := "annalist/annalistlaw19.PortionApply", spec := "portionApply", inPlace := ["internal/bytealg.abigen_runtime_cmpstring"], unfollowed := true, recurses := true, apart := false, narrowed := true }
def PortionApplyUptoSaid : Prop := portionApplyUptoRow.holds Try.pinned (OpenSpec.upto portionApplySpec)

/-- 'annalistlaw19.PortionPast', WHERE WHAT IT READS IS OF BULK AT MOST 1048576: true; the input reads as it did. -/
def portionPastUptoRow : OpenClaim := { program := "ytminnkihcohflaa", sum := "a42d7ba037d63c5f4f24b4658d89967452600f49397472497bac50911948713f", func := "annalist/annalistlaw19.PortionPast", spec := "portionPast", inPlace := ["internal/bytealg.abigen_runtime_cmpstring"], unfollowed := true, recurses := true, apart := false, narrowed := true }
def PortionPastUptoSaid : Prop := portionPastUptoRow.holds Try.pinned (OpenSpec.upto portionPastSpec)

/-- 'annalistlaw19.PortionSame', WHERE WHAT IT READS IS OF BULK AT MOST 1048576: true; the input reads as it did. -/
def portionSameUptoRow : OpenClaim := { program := "ytminnkihcohflaa", sum := "a42d7ba037d63c5f4f24b4658d89967452600f49397472497bac50911948713f", func := "annalist/annalistlaw19.PortionSame", spec := "portionSame", inPlace := ["internal/bytealg.abigen_runtime_cmpstring"], unfollowed := true, recurses := true, apart := false, narrowed := true }
def PortionSameUptoSaid : Prop := portionSameUptoRow.holds Try.pinned (OpenSpec.upto portionSameSpec)

/-- 'annalistlaw12.SplitterSplit', WHERE WHAT IT READS IS OF BULK AT MOST 1048576: true; the input reads as it did. -/
def splitterSplitUptoRow : OpenClaim := { program := "ytminnkihcohflaa", sum := "a42d7ba037d63c5f4f24b4658d89967452600f49397472497bac50911948713f", func := "annalist/annalistlaw12.SplitterSplit", spec := "splitterSplit", unfollowed := true, recurses := true, apart := false, narrowed := true }
def SplitterSplitUptoSaid : Prop := splitterSplitUptoRow.holds Try.pinned (OpenSpec.upto splitterSplitSpec)

/-- 'annalistlaw12.SplitterAligned', WHERE WHAT IT READS IS OF BULK AT MOST 1048576: true; the input reads as it did. -/
def splitterAlignedUptoRow : OpenClaim := { program := "ytminnkihcohflaa", sum := "a42d7ba037d63c5f4f24b4658d89967452600f49397472497bac50911948713f", func := "annalist/annalistlaw12.SplitterAligned", spec := "splitterAligned", unfollowed := true, recurses := true, apart := false, narrowed := true }
def SplitterAlignedUptoSaid : Prop := splitterAlignedUptoRow.holds Try.pinned (OpenSpec.upto splitterAlignedSpec)

/-- 'annalistlaw12.SplitterGranule', WHERE WHAT IT READS IS OF BULK AT MOST 1048576: true; the input reads as it did. -/
def splitterGranuleUptoRow : OpenClaim := { program := "ytminnkihcohflaa", sum := "a42d7ba037d63c5f4f24b4658d89967452600f49397472497bac50911948713f", func := "annalist/annalistlaw12.SplitterGranule", spec := "splitterGranule", unfollowed := true, recurses := true, apart := false, narrowed := true }
def SplitterGranuleUptoSaid : Prop := splitterGranuleUptoRow.holds Try.pinned (OpenSpec.upto splitterGranuleSpec)

/-- 'annalistlaw19.PortionOutside', WHERE WHAT IT READS IS OF BULK AT MOST 1048576: true; the input reads as it did. -/
def portionOutsideUptoRow : OpenClaim := { program := "ytminnkihcohflaa", sum := "a42d7ba037d63c5f4f24b4658d89967452600f49397472497bac50911948713f", func := "annalist/annalistlaw19.PortionOutside", spec := "portionOutside", inPlace := ["internal/bytealg.abigen_runtime_cmpstring"], unfollowed := true, recurses := true, apart := false, narrowed := true }
def PortionOutsideUptoSaid : Prop := portionOutsideUptoRow.holds Try.pinned (OpenSpec.upto portionOutsideSpec)

end Rows
end Go.Proofs.Ytminnkihcohflaa
