/-
  DERIVED. GIVEN WITH THE SEED: THE CARDS: each row of YtbabencadnlmlaaDoorRows.lean that lists a variable, with what it lists TIED to the program's text (the seventh form; the later family's looks); each row that meets fmt, with fmt's text TOLD by the authors' own Lean function (tested against real Go, not proved from fmt's source: count such statements apart). THE CARD IS WHAT COUNTS. Prove the row's statement (the work); the ties are given (YtbabencadnlmlaaDoorTie.lean); close each card by the builder's one call (the guide's Derived/Test/ToyasCard.lean, 'card_holds'). Laid BY PROGRAM, IN A SANDBOX (cutbox-door.mjs). By AI agents, Wed Nov 11 2026. No macro, syntax, notation, axiom, sorry.
-/
import Derived.Test.YtbabencadnlmlaaDoorRows
import GoSem.ClaimSeven
namespace Go.Proofs.YtbabencadnlmlaaDoor
namespace Rows

/-- THE TIED CARD OF 'annalistlaw27.LexerScans'. -/
def lexerScansCard : Claim7 := { stood := { row := lexerScansRow, standIns := [], harness := (true, "ba872b39bd1aecb3caab2d973c50f2ad5a650f43feec9f02013fbfd08cbcf7f1"), looks := false }, kinds := [], alts := [], laidByText := true, laidKinds := [.data, .pinned], laidTests := true, laidLooks := .later }
def LexerScansCardSaid : Prop := Claim7.holds Tryd.pinned (.plain (OpenSpec.ofChange lexerScansSpec)) lexerScansCard

/-- THE TIED CARD OF 'annalistlaw27.LexerTexts'. -/
def lexerTextsCard : Claim7 := { stood := { row := lexerTextsRow, standIns := [], harness := (true, "ba872b39bd1aecb3caab2d973c50f2ad5a650f43feec9f02013fbfd08cbcf7f1"), looks := false }, kinds := [], alts := [], laidByText := true, laidKinds := [.data, .pinned], laidTests := true, laidLooks := .later }
def LexerTextsCardSaid : Prop := Claim7.holds Tryd.pinned (.plain (OpenSpec.ofChange lexerTextsSpec)) lexerTextsCard

/-- THE TIED CARD OF 'annalistlaw27.LexerFormats'. -/
def lexerFormatsCard : Claim7 := { stood := { row := lexerFormatsRow, standIns := [], harness := (true, "ba872b39bd1aecb3caab2d973c50f2ad5a650f43feec9f02013fbfd08cbcf7f1"), looks := false }, kinds := [], alts := [], laidByText := true, laidKinds := [.data, .pinned], laidTests := true, laidLooks := .later }
def LexerFormatsCardSaid : Prop := Claim7.holds Tryd.pinned (.plain (OpenSpec.ofChange lexerFormatsSpec)) lexerFormatsCard

/-- THE TIED CARD OF 'annalistlaw27.LexerBack'. -/
def lexerBackCard : Claim7 := { stood := { row := lexerBackRow, standIns := [], harness := (true, "ba872b39bd1aecb3caab2d973c50f2ad5a650f43feec9f02013fbfd08cbcf7f1"), looks := false }, kinds := [], alts := [], laidByText := true, laidKinds := [.data, .pinned], laidTests := true, laidLooks := .later }
def LexerBackCardSaid : Prop := Claim7.holds Tryd.pinned (.plain (OpenSpec.ofChange lexerBackSpec)) lexerBackCard

/-- THE TIED CARD OF 'annalistlaw27.LexerSpaces'. -/
def lexerSpacesCard : Claim7 := { stood := { row := lexerSpacesRow, standIns := [], harness := (true, "ba872b39bd1aecb3caab2d973c50f2ad5a650f43feec9f02013fbfd08cbcf7f1"), looks := false }, kinds := [], alts := [], laidByText := true, laidKinds := [.data, .pinned], laidTests := true, laidLooks := .later }
def LexerSpacesCardSaid : Prop := Claim7.holds Tryd.pinned (.plain (OpenSpec.ofChange lexerSpacesSpec)) lexerSpacesCard

/-- THE TIED CARD OF 'annalistlaw27.LexerLimits'. -/
def lexerLimitsCard : Claim7 := { stood := { row := lexerLimitsRow, standIns := [], harness := (true, "ba872b39bd1aecb3caab2d973c50f2ad5a650f43feec9f02013fbfd08cbcf7f1"), looks := false }, kinds := [], alts := [], laidByText := true, laidKinds := [.data, .pinned], laidTests := true, laidLooks := .later }
def LexerLimitsCardSaid : Prop := Claim7.holds Tryd.pinned (.plain (OpenSpec.ofChange lexerLimitsSpec)) lexerLimitsCard

/-- THE SECOND FORM's CARD OF 'annalistlaw27.LexerScans'. -/
def lexerScansUptoCard : Claim7 := { stood := { row := lexerScansUptoRow, standIns := [], harness := (true, "ba872b39bd1aecb3caab2d973c50f2ad5a650f43feec9f02013fbfd08cbcf7f1"), looks := false }, kinds := [], alts := [], laidByText := true, laidKinds := [.data, .pinned], laidTests := true, laidLooks := .later }
def LexerScansUptoCardSaid : Prop := Claim7.holds Tryd.pinned (.plain (OpenSpec.upto lexerScansSpec)) lexerScansUptoCard

/-- THE SECOND FORM's CARD OF 'annalistlaw27.LexerTexts'. -/
def lexerTextsUptoCard : Claim7 := { stood := { row := lexerTextsUptoRow, standIns := [], harness := (true, "ba872b39bd1aecb3caab2d973c50f2ad5a650f43feec9f02013fbfd08cbcf7f1"), looks := false }, kinds := [], alts := [], laidByText := true, laidKinds := [.data, .pinned], laidTests := true, laidLooks := .later }
def LexerTextsUptoCardSaid : Prop := Claim7.holds Tryd.pinned (.plain (OpenSpec.upto lexerTextsSpec)) lexerTextsUptoCard

/-- THE SECOND FORM's CARD OF 'annalistlaw27.LexerFormats'. -/
def lexerFormatsUptoCard : Claim7 := { stood := { row := lexerFormatsUptoRow, standIns := [], harness := (true, "ba872b39bd1aecb3caab2d973c50f2ad5a650f43feec9f02013fbfd08cbcf7f1"), looks := false }, kinds := [], alts := [], laidByText := true, laidKinds := [.data, .pinned], laidTests := true, laidLooks := .later }
def LexerFormatsUptoCardSaid : Prop := Claim7.holds Tryd.pinned (.plain (OpenSpec.upto lexerFormatsSpec)) lexerFormatsUptoCard

/-- THE SECOND FORM's CARD OF 'annalistlaw27.LexerBack'. -/
def lexerBackUptoCard : Claim7 := { stood := { row := lexerBackUptoRow, standIns := [], harness := (true, "ba872b39bd1aecb3caab2d973c50f2ad5a650f43feec9f02013fbfd08cbcf7f1"), looks := false }, kinds := [], alts := [], laidByText := true, laidKinds := [.data, .pinned], laidTests := true, laidLooks := .later }
def LexerBackUptoCardSaid : Prop := Claim7.holds Tryd.pinned (.plain (OpenSpec.upto lexerBackSpec)) lexerBackUptoCard

/-- THE SECOND FORM's CARD OF 'annalistlaw27.LexerSpaces'. -/
def lexerSpacesUptoCard : Claim7 := { stood := { row := lexerSpacesUptoRow, standIns := [], harness := (true, "ba872b39bd1aecb3caab2d973c50f2ad5a650f43feec9f02013fbfd08cbcf7f1"), looks := false }, kinds := [], alts := [], laidByText := true, laidKinds := [.data, .pinned], laidTests := true, laidLooks := .later }
def LexerSpacesUptoCardSaid : Prop := Claim7.holds Tryd.pinned (.plain (OpenSpec.upto lexerSpacesSpec)) lexerSpacesUptoCard

/-- THE SECOND FORM's CARD OF 'annalistlaw27.LexerLimits'. -/
def lexerLimitsUptoCard : Claim7 := { stood := { row := lexerLimitsUptoRow, standIns := [], harness := (true, "ba872b39bd1aecb3caab2d973c50f2ad5a650f43feec9f02013fbfd08cbcf7f1"), looks := false }, kinds := [], alts := [], laidByText := true, laidKinds := [.data, .pinned], laidTests := true, laidLooks := .later }
def LexerLimitsUptoCardSaid : Prop := Claim7.holds Tryd.pinned (.plain (OpenSpec.upto lexerLimitsSpec)) lexerLimitsUptoCard
end Rows
end Go.Proofs.YtbabencadnlmlaaDoor
