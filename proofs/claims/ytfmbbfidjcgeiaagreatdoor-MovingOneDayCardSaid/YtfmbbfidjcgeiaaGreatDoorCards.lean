/-
  DERIVED. GIVEN WITH THE SEED: THE CARDS: each row of YtfmbbfidjcgeiaaGreatDoorRows.lean that lists a variable, with what it lists TIED to the program's text (the seventh form; the later family's looks); each row that meets fmt, with fmt's text TOLD by the authors' own Lean function (tested against real Go, not proved from fmt's source: count such statements apart). THE CARD IS WHAT COUNTS. Prove the row's statement (the work); the ties are given (YtfmbbfidjcgeiaaGreatDoorTie.lean); close each card by the builder's one call (the guide's Derived/Test/ToyasCard.lean, 'card_holds'). Laid BY PROGRAM, IN A SANDBOX (cutbox-door.mjs). By AI agents, Wed Nov 11 2026. No macro, syntax, notation, axiom, sorry.
-/
import Derived.Test.YtfmbbfidjcgeiaaGreatDoorRows
import GoSem.ClaimSeven
namespace Go.Proofs.YtfmbbfidjcgeiaaGreatDoor
namespace Rows

/-- THE TIED CARD OF 'annalistlaw18.MovingOneDay'. -/
def movingOneDayCard : Claim7 := { stood := { row := movingOneDayRow, standIns := [], harness := (true, "e2937978cb0d3117c9c840ca595bdbeaf348ab8499513c11a94af2e50b7478af"), looks := false }, kinds := [], alts := [], laidByText := true, laidKinds := [.data, .data, .data, .data], laidTests := true, laidLooks := .later }
def MovingOneDayCardSaid : Prop := Claim7.holds Tryz.pinned (.plain (OpenSpec.ofChange movingOneDaySpec)) movingOneDayCard

/-- THE SECOND FORM's CARD OF 'annalistlaw18.MovingOneDay'. -/
def movingOneDayUptoCard : Claim7 := { stood := { row := movingOneDayUptoRow, standIns := [], harness := (true, "e2937978cb0d3117c9c840ca595bdbeaf348ab8499513c11a94af2e50b7478af"), looks := false }, kinds := [], alts := [], laidByText := true, laidKinds := [.data, .data, .data, .data], laidTests := true, laidLooks := .later }
def MovingOneDayUptoCardSaid : Prop := Claim7.holds Tryz.pinned (.plain (OpenSpec.upto movingOneDaySpec)) movingOneDayUptoCard
end Rows
end Go.Proofs.YtfmbbfidjcgeiaaGreatDoor
