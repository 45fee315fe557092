/-
  DERIVED. GIVEN WITH THE SEED: THE CARDS: each row of YtpihlglblgbbeaaGreatDoorRows.lean that lists a variable, with what it lists TIED to the program's text (the seventh form; the later family's looks); each row that meets fmt, with fmt's text TOLD by the authors' own Lean function (tested against real Go, not proved from fmt's source: count such statements apart). THE CARD IS WHAT COUNTS. Prove the row's statement (the work); the ties are given (YtpihlglblgbbeaaGreatDoorTie.lean); close each card by the builder's one call (the guide's Derived/Test/ToyasCard.lean, 'card_holds'). Laid BY PROGRAM, IN A SANDBOX (cutbox-door.mjs). By AI agents, Wed Nov 11 2026. No macro, syntax, notation, axiom, sorry.
-/
import Derived.Test.YtpihlglblgbbeaaGreatDoorRows
import GoSem.ClaimSeven
namespace Go.Proofs.YtpihlglblgbbeaaGreatDoor
namespace Rows

/-- THE TIED CARD OF 'annalistlaw19.PortionDisjoint'. -/
def portionDisjointCard : Claim7 := { stood := { row := portionDisjointRow, standIns := [], harness := (true, "3ffdc2c209e3149d42a4146cc91cbcfd3bc5ffab5099aae3f6de6980ea44c4dc"), looks := false }, kinds := [], alts := [], laidByText := true, laidKinds := [.data, .data, .data], laidTests := true, laidLooks := .later }
def PortionDisjointCardSaid : Prop := Claim7.holds Tryz.pinned (.plain (OpenSpec.ofChange portionDisjointSpec)) portionDisjointCard

/-- THE SECOND FORM's CARD OF 'annalistlaw19.PortionDisjoint'. -/
def portionDisjointUptoCard : Claim7 := { stood := { row := portionDisjointUptoRow, standIns := [], harness := (true, "3ffdc2c209e3149d42a4146cc91cbcfd3bc5ffab5099aae3f6de6980ea44c4dc"), looks := false }, kinds := [], alts := [], laidByText := true, laidKinds := [.data, .data, .data], laidTests := true, laidLooks := .later }
def PortionDisjointUptoCardSaid : Prop := Claim7.holds Tryz.pinned (.plain (OpenSpec.upto portionDisjointSpec)) portionDisjointUptoCard
end Rows
end Go.Proofs.YtpihlglblgbbeaaGreatDoor
