/-
  DERIVED. GIVEN WITH THE SEED: THE CARDS: each row of YtngigmpaabmngaaGreatDoorRows.lean that lists a variable, with what it lists TIED to the program's text (the seventh form; the later family's looks); each row that meets fmt, with fmt's text TOLD by the authors' own Lean function (tested against real Go, not proved from fmt's source: count such statements apart). THE CARD IS WHAT COUNTS. Prove the row's statement (the work); the ties are given (YtngigmpaabmngaaGreatDoorTie.lean); close each card by the builder's one call (the guide's Derived/Test/ToyasCard.lean, 'card_holds'). Laid BY PROGRAM, IN A SANDBOX (cutbox-door.mjs). By AI agents, Wed Nov 11 2026. No macro, syntax, notation, axiom, sorry.
-/
import Derived.Test.YtngigmpaabmngaaGreatDoorRows
import GoSem.ClaimSeven
namespace Go.Proofs.YtngigmpaabmngaaGreatDoor
namespace Rows

/-- THE TIED CARD OF 'annalistlaw12.SplitterEquivalent'. -/
def splitterEquivalentCard : Claim7 := { stood := { row := splitterEquivalentRow, standIns := [], harness := (true, "30fcd60d9ab5a778b53ea9eee8bc0278a62552468c15d4ebb43cd7c7a5a205e5"), looks := false }, kinds := [], alts := [], laidByText := true, laidKinds := [.data, .data, .data], laidTests := true, laidLooks := .later }
def SplitterEquivalentCardSaid : Prop := Claim7.holds Tryz.pinned (.plain (OpenSpec.ofChange splitterEquivalentSpec)) splitterEquivalentCard

/-- THE TIED CARD OF 'annalistlaw15.SetopUnion'. -/
def setopUnionCard : Claim7 := { stood := { row := setopUnionRow, standIns := [], harness := (true, "30fcd60d9ab5a778b53ea9eee8bc0278a62552468c15d4ebb43cd7c7a5a205e5"), looks := false }, kinds := [], alts := [], laidByText := true, laidKinds := [.data, .data, .data], laidTests := true, laidLooks := .later }
def SetopUnionCardSaid : Prop := Claim7.holds Tryz.pinned (.plain (OpenSpec.ofChange setopUnionSpec)) setopUnionCard

/-- THE TIED CARD OF 'annalistlaw15.SetopDifference'. -/
def setopDifferenceCard : Claim7 := { stood := { row := setopDifferenceRow, standIns := [], harness := (true, "30fcd60d9ab5a778b53ea9eee8bc0278a62552468c15d4ebb43cd7c7a5a205e5"), looks := false }, kinds := [], alts := [], laidByText := true, laidKinds := [.data, .data, .data], laidTests := true, laidLooks := .later }
def SetopDifferenceCardSaid : Prop := Claim7.holds Tryz.pinned (.plain (OpenSpec.ofChange setopDifferenceSpec)) setopDifferenceCard

/-- THE TIED CARD OF 'annalistlaw15.SetopOverlapping'. -/
def setopOverlappingCard : Claim7 := { stood := { row := setopOverlappingRow, standIns := [], harness := (true, "30fcd60d9ab5a778b53ea9eee8bc0278a62552468c15d4ebb43cd7c7a5a205e5"), looks := false }, kinds := [], alts := [], laidByText := true, laidKinds := [.data, .data, .data], laidTests := true, laidLooks := .later }
def SetopOverlappingCardSaid : Prop := Claim7.holds Tryz.pinned (.plain (OpenSpec.ofChange setopOverlappingSpec)) setopOverlappingCard

/-- THE TIED CARD OF 'annalistlaw15.SetopBalance'. -/
def setopBalanceCard : Claim7 := { stood := { row := setopBalanceRow, standIns := [], harness := (true, "30fcd60d9ab5a778b53ea9eee8bc0278a62552468c15d4ebb43cd7c7a5a205e5"), looks := false }, kinds := [], alts := [], laidByText := true, laidKinds := [.data, .data, .data], laidTests := true, laidLooks := .later }
def SetopBalanceCardSaid : Prop := Claim7.holds Tryz.pinned (.plain (OpenSpec.ofChange setopBalanceSpec)) setopBalanceCard

/-- THE TIED CARD OF 'annalistlaw15.SetopDistinctOnce'. -/
def setopDistinctOnceCard : Claim7 := { stood := { row := setopDistinctOnceRow, standIns := [], harness := (true, "30fcd60d9ab5a778b53ea9eee8bc0278a62552468c15d4ebb43cd7c7a5a205e5"), looks := false }, kinds := [], alts := [], laidByText := true, laidKinds := [.data, .data, .data], laidTests := true, laidLooks := .later }
def SetopDistinctOnceCardSaid : Prop := Claim7.holds Tryz.pinned (.plain (OpenSpec.ofChange setopDistinctOnceSpec)) setopDistinctOnceCard

/-- THE TIED CARD OF 'annalistlaw15.SetopSelf'. -/
def setopSelfCard : Claim7 := { stood := { row := setopSelfRow, standIns := [], harness := (true, "30fcd60d9ab5a778b53ea9eee8bc0278a62552468c15d4ebb43cd7c7a5a205e5"), looks := false }, kinds := [], alts := [], laidByText := true, laidKinds := [.data, .data, .data], laidTests := true, laidLooks := .later }
def SetopSelfCardSaid : Prop := Claim7.holds Tryz.pinned (.plain (OpenSpec.ofChange setopSelfSpec)) setopSelfCard

/-- THE TIED CARD OF 'annalistlaw15.SetopSplits'. -/
def setopSplitsCard : Claim7 := { stood := { row := setopSplitsRow, standIns := [], harness := (true, "30fcd60d9ab5a778b53ea9eee8bc0278a62552468c15d4ebb43cd7c7a5a205e5"), looks := false }, kinds := [], alts := [], laidByText := true, laidKinds := [.data, .data, .data], laidTests := true, laidLooks := .later }
def SetopSplitsCardSaid : Prop := Claim7.holds Tryz.pinned (.plain (OpenSpec.ofChange setopSplitsSpec)) setopSplitsCard

/-- THE SECOND FORM's CARD OF 'annalistlaw12.SplitterEquivalent'. -/
def splitterEquivalentUptoCard : Claim7 := { stood := { row := splitterEquivalentUptoRow, standIns := [], harness := (true, "30fcd60d9ab5a778b53ea9eee8bc0278a62552468c15d4ebb43cd7c7a5a205e5"), looks := false }, kinds := [], alts := [], laidByText := true, laidKinds := [.data, .data, .data], laidTests := true, laidLooks := .later }
def SplitterEquivalentUptoCardSaid : Prop := Claim7.holds Tryz.pinned (.plain (OpenSpec.upto splitterEquivalentSpec)) splitterEquivalentUptoCard

/-- THE SECOND FORM's CARD OF 'annalistlaw15.SetopUnion'. -/
def setopUnionUptoCard : Claim7 := { stood := { row := setopUnionUptoRow, standIns := [], harness := (true, "30fcd60d9ab5a778b53ea9eee8bc0278a62552468c15d4ebb43cd7c7a5a205e5"), looks := false }, kinds := [], alts := [], laidByText := true, laidKinds := [.data, .data, .data], laidTests := true, laidLooks := .later }
def SetopUnionUptoCardSaid : Prop := Claim7.holds Tryz.pinned (.plain (OpenSpec.upto setopUnionSpec)) setopUnionUptoCard

/-- THE SECOND FORM's CARD OF 'annalistlaw15.SetopDifference'. -/
def setopDifferenceUptoCard : Claim7 := { stood := { row := setopDifferenceUptoRow, standIns := [], harness := (true, "30fcd60d9ab5a778b53ea9eee8bc0278a62552468c15d4ebb43cd7c7a5a205e5"), looks := false }, kinds := [], alts := [], laidByText := true, laidKinds := [.data, .data, .data], laidTests := true, laidLooks := .later }
def SetopDifferenceUptoCardSaid : Prop := Claim7.holds Tryz.pinned (.plain (OpenSpec.upto setopDifferenceSpec)) setopDifferenceUptoCard

/-- THE SECOND FORM's CARD OF 'annalistlaw15.SetopOverlapping'. -/
def setopOverlappingUptoCard : Claim7 := { stood := { row := setopOverlappingUptoRow, standIns := [], harness := (true, "30fcd60d9ab5a778b53ea9eee8bc0278a62552468c15d4ebb43cd7c7a5a205e5"), looks := false }, kinds := [], alts := [], laidByText := true, laidKinds := [.data, .data, .data], laidTests := true, laidLooks := .later }
def SetopOverlappingUptoCardSaid : Prop := Claim7.holds Tryz.pinned (.plain (OpenSpec.upto setopOverlappingSpec)) setopOverlappingUptoCard

/-- THE SECOND FORM's CARD OF 'annalistlaw15.SetopBalance'. -/
def setopBalanceUptoCard : Claim7 := { stood := { row := setopBalanceUptoRow, standIns := [], harness := (true, "30fcd60d9ab5a778b53ea9eee8bc0278a62552468c15d4ebb43cd7c7a5a205e5"), looks := false }, kinds := [], alts := [], laidByText := true, laidKinds := [.data, .data, .data], laidTests := true, laidLooks := .later }
def SetopBalanceUptoCardSaid : Prop := Claim7.holds Tryz.pinned (.plain (OpenSpec.upto setopBalanceSpec)) setopBalanceUptoCard

/-- THE SECOND FORM's CARD OF 'annalistlaw15.SetopDistinctOnce'. -/
def setopDistinctOnceUptoCard : Claim7 := { stood := { row := setopDistinctOnceUptoRow, standIns := [], harness := (true, "30fcd60d9ab5a778b53ea9eee8bc0278a62552468c15d4ebb43cd7c7a5a205e5"), looks := false }, kinds := [], alts := [], laidByText := true, laidKinds := [.data, .data, .data], laidTests := true, laidLooks := .later }
def SetopDistinctOnceUptoCardSaid : Prop := Claim7.holds Tryz.pinned (.plain (OpenSpec.upto setopDistinctOnceSpec)) setopDistinctOnceUptoCard

/-- THE SECOND FORM's CARD OF 'annalistlaw15.SetopSelf'. -/
def setopSelfUptoCard : Claim7 := { stood := { row := setopSelfUptoRow, standIns := [], harness := (true, "30fcd60d9ab5a778b53ea9eee8bc0278a62552468c15d4ebb43cd7c7a5a205e5"), looks := false }, kinds := [], alts := [], laidByText := true, laidKinds := [.data, .data, .data], laidTests := true, laidLooks := .later }
def SetopSelfUptoCardSaid : Prop := Claim7.holds Tryz.pinned (.plain (OpenSpec.upto setopSelfSpec)) setopSelfUptoCard

/-- THE SECOND FORM's CARD OF 'annalistlaw15.SetopSplits'. -/
def setopSplitsUptoCard : Claim7 := { stood := { row := setopSplitsUptoRow, standIns := [], harness := (true, "30fcd60d9ab5a778b53ea9eee8bc0278a62552468c15d4ebb43cd7c7a5a205e5"), looks := false }, kinds := [], alts := [], laidByText := true, laidKinds := [.data, .data, .data], laidTests := true, laidLooks := .later }
def SetopSplitsUptoCardSaid : Prop := Claim7.holds Tryz.pinned (.plain (OpenSpec.upto setopSplitsSpec)) setopSplitsUptoCard
end Rows
end Go.Proofs.YtngigmpaabmngaaGreatDoor
