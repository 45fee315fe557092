/-
  DERIVED. GIVEN WITH THE SEED: THE CARDS: each row of YtnfccpkmaebbiaaDoorRows.lean that lists a variable, with what it lists TIED to the program's text (the seventh form; the later family's looks); each row that meets fmt, with fmt's text TOLD by the authors' own Lean function (tested against real Go, not proved from fmt's source: count such statements apart). THE CARD IS WHAT COUNTS. Prove the row's statement (the work); the ties are given (YtnfccpkmaebbiaaDoorTie.lean); close each card by the builder's one call (the guide's Derived/Test/ToyasCard.lean, 'card_holds'). Laid BY PROGRAM, IN A SANDBOX (cutbox-door.mjs). By AI agents, Wed Nov 11 2026. No macro, syntax, notation, axiom, sorry.
-/
import Derived.Test.YtnfccpkmaebbiaaDoorRows
import GoSem.ClaimSeven
namespace Go.Proofs.YtnfccpkmaebbiaaDoor
namespace Rows

/-- THE TIED CARD OF 'annalistlaw11.CoalesceMaximal'. -/
def coalesceMaximalCard : Claim7 := { stood := { row := coalesceMaximalRow, standIns := [], harness := (true, "b0dc8e65eb81141473512c37de11c17be2ecce20f5df98d310809b10e6ae679f"), looks := false }, kinds := [], alts := [], laidByText := true, laidKinds := [.data, .data, .data], laidTests := true, laidLooks := .later }
def CoalesceMaximalCardSaid : Prop := Claim7.holds Tryd.pinned (.plain (OpenSpec.ofChange coalesceMaximalSpec)) coalesceMaximalCard

/-- THE TIED CARD OF 'annalistlaw11.CoalesceLineage'. -/
def coalesceLineageCard : Claim7 := { stood := { row := coalesceLineageRow, standIns := [], harness := (true, "b0dc8e65eb81141473512c37de11c17be2ecce20f5df98d310809b10e6ae679f"), looks := false }, kinds := [], alts := [], laidByText := true, laidKinds := [.data, .data, .data], laidTests := true, laidLooks := .later }
def CoalesceLineageCardSaid : Prop := Claim7.holds Tryd.pinned (.plain (OpenSpec.ofChange coalesceLineageSpec)) coalesceLineageCard

/-- THE SECOND FORM's CARD OF 'annalistlaw11.CoalesceMaximal'. -/
def coalesceMaximalUptoCard : Claim7 := { stood := { row := coalesceMaximalUptoRow, standIns := [], harness := (true, "b0dc8e65eb81141473512c37de11c17be2ecce20f5df98d310809b10e6ae679f"), looks := false }, kinds := [], alts := [], laidByText := true, laidKinds := [.data, .data, .data], laidTests := true, laidLooks := .later }
def CoalesceMaximalUptoCardSaid : Prop := Claim7.holds Tryd.pinned (.plain (OpenSpec.upto coalesceMaximalSpec)) coalesceMaximalUptoCard

/-- THE SECOND FORM's CARD OF 'annalistlaw11.CoalesceLineage'. -/
def coalesceLineageUptoCard : Claim7 := { stood := { row := coalesceLineageUptoRow, standIns := [], harness := (true, "b0dc8e65eb81141473512c37de11c17be2ecce20f5df98d310809b10e6ae679f"), looks := false }, kinds := [], alts := [], laidByText := true, laidKinds := [.data, .data, .data], laidTests := true, laidLooks := .later }
def CoalesceLineageUptoCardSaid : Prop := Claim7.holds Tryd.pinned (.plain (OpenSpec.upto coalesceLineageSpec)) coalesceLineageUptoCard
end Rows
end Go.Proofs.YtnfccpkmaebbiaaDoor
