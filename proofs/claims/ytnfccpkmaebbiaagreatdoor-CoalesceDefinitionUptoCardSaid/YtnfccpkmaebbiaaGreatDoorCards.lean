/-
  DERIVED. GIVEN WITH THE SEED: THE CARDS: each row of YtnfccpkmaebbiaaGreatDoorRows.lean that lists a variable, with what it lists TIED to the program's text (the seventh form; the later family's looks); each row that meets fmt, with fmt's text TOLD by the authors' own Lean function (tested against real Go, not proved from fmt's source: count such statements apart). THE CARD IS WHAT COUNTS. Prove the row's statement (the work); the ties are given (YtnfccpkmaebbiaaGreatDoorTie.lean); close each card by the builder's one call (the guide's Derived/Test/ToyasCard.lean, 'card_holds'). Laid BY PROGRAM, IN A SANDBOX (cutbox-door.mjs). By AI agents, Wed Nov 11 2026. No macro, syntax, notation, axiom, sorry.
-/
import Derived.Test.YtnfccpkmaebbiaaGreatDoorRows
import GoSem.ClaimSeven
namespace Go.Proofs.YtnfccpkmaebbiaaGreatDoor
namespace Rows

/-- THE TIED CARD OF 'annalistlaw11.CoalesceDefinition'. -/
def coalesceDefinitionCard : Claim7 := { stood := { row := coalesceDefinitionRow, standIns := [], harness := (true, "c6ce797135d2de5484d324e51b84bccb81a2bd4ce675a6db62b094cf531027bf"), looks := false }, kinds := [], alts := [], laidByText := true, laidKinds := [.data, .data, .data], laidTests := true, laidLooks := .later }
def CoalesceDefinitionCardSaid : Prop := Claim7.holds Tryz.pinned (.plain (OpenSpec.ofChange coalesceDefinitionSpec)) coalesceDefinitionCard

/-- THE TIED CARD OF 'annalistlaw11.CoalesceCounts'. -/
def coalesceCountsCard : Claim7 := { stood := { row := coalesceCountsRow, standIns := [], harness := (true, "c6ce797135d2de5484d324e51b84bccb81a2bd4ce675a6db62b094cf531027bf"), looks := false }, kinds := [], alts := [], laidByText := true, laidKinds := [.data, .data, .data], laidTests := true, laidLooks := .later }
def CoalesceCountsCardSaid : Prop := Claim7.holds Tryz.pinned (.plain (OpenSpec.ofChange coalesceCountsSpec)) coalesceCountsCard

/-- THE TIED CARD OF 'annalistlaw10.TupleNormalize'. -/
def tupleNormalizeCard : Claim7 := { stood := { row := tupleNormalizeRow, standIns := [], harness := (true, "c6ce797135d2de5484d324e51b84bccb81a2bd4ce675a6db62b094cf531027bf"), looks := false }, kinds := [], alts := [], laidByText := true, laidKinds := [.data, .data, .data], laidTests := true, laidLooks := .later }
def TupleNormalizeCardSaid : Prop := Claim7.holds Tryz.pinned (.plain (OpenSpec.ofChange tupleNormalizeSpec)) tupleNormalizeCard

/-- THE TIED CARD OF 'annalistlaw10.TuplePreserves'. -/
def tuplePreservesCard : Claim7 := { stood := { row := tuplePreservesRow, standIns := [], harness := (true, "c6ce797135d2de5484d324e51b84bccb81a2bd4ce675a6db62b094cf531027bf"), looks := false }, kinds := [], alts := [], laidByText := true, laidKinds := [.data, .data, .data], laidTests := true, laidLooks := .later }
def TuplePreservesCardSaid : Prop := Claim7.holds Tryz.pinned (.plain (OpenSpec.ofChange tuplePreservesSpec)) tuplePreservesCard

/-- THE TIED CARD OF 'annalistlaw10.TupleConstant'. -/
def tupleConstantCard : Claim7 := { stood := { row := tupleConstantRow, standIns := [], harness := (true, "c6ce797135d2de5484d324e51b84bccb81a2bd4ce675a6db62b094cf531027bf"), looks := false }, kinds := [], alts := [], laidByText := true, laidKinds := [.data, .data, .data], laidTests := true, laidLooks := .later }
def TupleConstantCardSaid : Prop := Claim7.holds Tryz.pinned (.plain (OpenSpec.ofChange tupleConstantSpec)) tupleConstantCard

/-- THE TIED CARD OF 'annalistlaw10.TupleKeepsChanges'. -/
def tupleKeepsChangesCard : Claim7 := { stood := { row := tupleKeepsChangesRow, standIns := [], harness := (true, "c6ce797135d2de5484d324e51b84bccb81a2bd4ce675a6db62b094cf531027bf"), looks := false }, kinds := [], alts := [], laidByText := true, laidKinds := [.data, .data, .data], laidTests := true, laidLooks := .later }
def TupleKeepsChangesCardSaid : Prop := Claim7.holds Tryz.pinned (.plain (OpenSpec.ofChange tupleKeepsChangesSpec)) tupleKeepsChangesCard

/-- THE TIED CARD OF 'annalistlaw10.TupleSlices'. -/
def tupleSlicesCard : Claim7 := { stood := { row := tupleSlicesRow, standIns := [], harness := (true, "c6ce797135d2de5484d324e51b84bccb81a2bd4ce675a6db62b094cf531027bf"), looks := false }, kinds := [], alts := [], laidByText := true, laidKinds := [.data, .data, .data], laidTests := true, laidLooks := .later }
def TupleSlicesCardSaid : Prop := Claim7.holds Tryz.pinned (.plain (OpenSpec.ofChange tupleSlicesSpec)) tupleSlicesCard

/-- THE TIED CARD OF 'annalistlaw10.TupleEquivalent'. -/
def tupleEquivalentCard : Claim7 := { stood := { row := tupleEquivalentRow, standIns := [], harness := (true, "c6ce797135d2de5484d324e51b84bccb81a2bd4ce675a6db62b094cf531027bf"), looks := false }, kinds := [], alts := [], laidByText := true, laidKinds := [.data, .data, .data], laidTests := true, laidLooks := .later }
def TupleEquivalentCardSaid : Prop := Claim7.holds Tryz.pinned (.plain (OpenSpec.ofChange tupleEquivalentSpec)) tupleEquivalentCard

/-- THE TIED CARD OF 'annalistlaw10.TupleIdempotent'. -/
def tupleIdempotentCard : Claim7 := { stood := { row := tupleIdempotentRow, standIns := [], harness := (true, "c6ce797135d2de5484d324e51b84bccb81a2bd4ce675a6db62b094cf531027bf"), looks := false }, kinds := [], alts := [], laidByText := true, laidKinds := [.data, .data, .data], laidTests := true, laidLooks := .later }
def TupleIdempotentCardSaid : Prop := Claim7.holds Tryz.pinned (.plain (OpenSpec.ofChange tupleIdempotentSpec)) tupleIdempotentCard

/-- THE TIED CARD OF 'annalistlaw10.TupleUnique'. -/
def tupleUniqueCard : Claim7 := { stood := { row := tupleUniqueRow, standIns := [], harness := (true, "c6ce797135d2de5484d324e51b84bccb81a2bd4ce675a6db62b094cf531027bf"), looks := false }, kinds := [], alts := [], laidByText := true, laidKinds := [.data, .data, .data], laidTests := true, laidLooks := .later }
def TupleUniqueCardSaid : Prop := Claim7.holds Tryz.pinned (.plain (OpenSpec.ofChange tupleUniqueSpec)) tupleUniqueCard

/-- THE SECOND FORM's CARD OF 'annalistlaw11.CoalesceDefinition'. -/
def coalesceDefinitionUptoCard : Claim7 := { stood := { row := coalesceDefinitionUptoRow, standIns := [], harness := (true, "c6ce797135d2de5484d324e51b84bccb81a2bd4ce675a6db62b094cf531027bf"), looks := false }, kinds := [], alts := [], laidByText := true, laidKinds := [.data, .data, .data], laidTests := true, laidLooks := .later }
def CoalesceDefinitionUptoCardSaid : Prop := Claim7.holds Tryz.pinned (.plain (OpenSpec.upto coalesceDefinitionSpec)) coalesceDefinitionUptoCard

/-- THE SECOND FORM's CARD OF 'annalistlaw11.CoalesceCounts'. -/
def coalesceCountsUptoCard : Claim7 := { stood := { row := coalesceCountsUptoRow, standIns := [], harness := (true, "c6ce797135d2de5484d324e51b84bccb81a2bd4ce675a6db62b094cf531027bf"), looks := false }, kinds := [], alts := [], laidByText := true, laidKinds := [.data, .data, .data], laidTests := true, laidLooks := .later }
def CoalesceCountsUptoCardSaid : Prop := Claim7.holds Tryz.pinned (.plain (OpenSpec.upto coalesceCountsSpec)) coalesceCountsUptoCard

/-- THE SECOND FORM's CARD OF 'annalistlaw10.TupleNormalize'. -/
def tupleNormalizeUptoCard : Claim7 := { stood := { row := tupleNormalizeUptoRow, standIns := [], harness := (true, "c6ce797135d2de5484d324e51b84bccb81a2bd4ce675a6db62b094cf531027bf"), looks := false }, kinds := [], alts := [], laidByText := true, laidKinds := [.data, .data, .data], laidTests := true, laidLooks := .later }
def TupleNormalizeUptoCardSaid : Prop := Claim7.holds Tryz.pinned (.plain (OpenSpec.upto tupleNormalizeSpec)) tupleNormalizeUptoCard

/-- THE SECOND FORM's CARD OF 'annalistlaw10.TuplePreserves'. -/
def tuplePreservesUptoCard : Claim7 := { stood := { row := tuplePreservesUptoRow, standIns := [], harness := (true, "c6ce797135d2de5484d324e51b84bccb81a2bd4ce675a6db62b094cf531027bf"), looks := false }, kinds := [], alts := [], laidByText := true, laidKinds := [.data, .data, .data], laidTests := true, laidLooks := .later }
def TuplePreservesUptoCardSaid : Prop := Claim7.holds Tryz.pinned (.plain (OpenSpec.upto tuplePreservesSpec)) tuplePreservesUptoCard

/-- THE SECOND FORM's CARD OF 'annalistlaw10.TupleConstant'. -/
def tupleConstantUptoCard : Claim7 := { stood := { row := tupleConstantUptoRow, standIns := [], harness := (true, "c6ce797135d2de5484d324e51b84bccb81a2bd4ce675a6db62b094cf531027bf"), looks := false }, kinds := [], alts := [], laidByText := true, laidKinds := [.data, .data, .data], laidTests := true, laidLooks := .later }
def TupleConstantUptoCardSaid : Prop := Claim7.holds Tryz.pinned (.plain (OpenSpec.upto tupleConstantSpec)) tupleConstantUptoCard

/-- THE SECOND FORM's CARD OF 'annalistlaw10.TupleKeepsChanges'. -/
def tupleKeepsChangesUptoCard : Claim7 := { stood := { row := tupleKeepsChangesUptoRow, standIns := [], harness := (true, "c6ce797135d2de5484d324e51b84bccb81a2bd4ce675a6db62b094cf531027bf"), looks := false }, kinds := [], alts := [], laidByText := true, laidKinds := [.data, .data, .data], laidTests := true, laidLooks := .later }
def TupleKeepsChangesUptoCardSaid : Prop := Claim7.holds Tryz.pinned (.plain (OpenSpec.upto tupleKeepsChangesSpec)) tupleKeepsChangesUptoCard

/-- THE SECOND FORM's CARD OF 'annalistlaw10.TupleSlices'. -/
def tupleSlicesUptoCard : Claim7 := { stood := { row := tupleSlicesUptoRow, standIns := [], harness := (true, "c6ce797135d2de5484d324e51b84bccb81a2bd4ce675a6db62b094cf531027bf"), looks := false }, kinds := [], alts := [], laidByText := true, laidKinds := [.data, .data, .data], laidTests := true, laidLooks := .later }
def TupleSlicesUptoCardSaid : Prop := Claim7.holds Tryz.pinned (.plain (OpenSpec.upto tupleSlicesSpec)) tupleSlicesUptoCard

/-- THE SECOND FORM's CARD OF 'annalistlaw10.TupleEquivalent'. -/
def tupleEquivalentUptoCard : Claim7 := { stood := { row := tupleEquivalentUptoRow, standIns := [], harness := (true, "c6ce797135d2de5484d324e51b84bccb81a2bd4ce675a6db62b094cf531027bf"), looks := false }, kinds := [], alts := [], laidByText := true, laidKinds := [.data, .data, .data], laidTests := true, laidLooks := .later }
def TupleEquivalentUptoCardSaid : Prop := Claim7.holds Tryz.pinned (.plain (OpenSpec.upto tupleEquivalentSpec)) tupleEquivalentUptoCard

/-- THE SECOND FORM's CARD OF 'annalistlaw10.TupleIdempotent'. -/
def tupleIdempotentUptoCard : Claim7 := { stood := { row := tupleIdempotentUptoRow, standIns := [], harness := (true, "c6ce797135d2de5484d324e51b84bccb81a2bd4ce675a6db62b094cf531027bf"), looks := false }, kinds := [], alts := [], laidByText := true, laidKinds := [.data, .data, .data], laidTests := true, laidLooks := .later }
def TupleIdempotentUptoCardSaid : Prop := Claim7.holds Tryz.pinned (.plain (OpenSpec.upto tupleIdempotentSpec)) tupleIdempotentUptoCard

/-- THE SECOND FORM's CARD OF 'annalistlaw10.TupleUnique'. -/
def tupleUniqueUptoCard : Claim7 := { stood := { row := tupleUniqueUptoRow, standIns := [], harness := (true, "c6ce797135d2de5484d324e51b84bccb81a2bd4ce675a6db62b094cf531027bf"), looks := false }, kinds := [], alts := [], laidByText := true, laidKinds := [.data, .data, .data], laidTests := true, laidLooks := .later }
def TupleUniqueUptoCardSaid : Prop := Claim7.holds Tryz.pinned (.plain (OpenSpec.upto tupleUniqueSpec)) tupleUniqueUptoCard
end Rows
end Go.Proofs.YtnfccpkmaebbiaaGreatDoor
