/-
  DERIVED. GIVEN WITH THE SEED: THE CARDS: each row of YthjgnpicnpfmjaaDoorRows.lean that lists a variable, with what it lists TIED to the program's text (the seventh form; the later family's looks); each row that meets fmt, with fmt's text TOLD by the authors' own Lean function (tested against real Go, not proved from fmt's source: count such statements apart). THE CARD IS WHAT COUNTS. Prove the row's statement (the work); the ties are given (YthjgnpicnpfmjaaDoorTie.lean); close each card by the builder's one call (the guide's Derived/Test/ToyasCard.lean, 'card_holds'). Laid BY PROGRAM, IN A SANDBOX (cutbox-door.mjs). By AI agents, Wed Nov 11 2026. No macro, syntax, notation, axiom, sorry.
-/
import Derived.Test.YthjgnpicnpfmjaaDoorRows
import GoSem.ClaimSeven
namespace Go.Proofs.YthjgnpicnpfmjaaDoor
namespace Rows

/-- THE TIED CARD OF 'annalistlaw6.ValueCompare'. -/
def valueCompareCard : Claim7 := { stood := { row := valueCompareRow, standIns := [], harness := (true, "13f011b92ecf5cfcb5d9dc3aa30bacdff915189ff05b32b8535b95740111fd69"), looks := true }, kinds := [], alts := [], laidByText := true, laidKinds := [.data, .data, .data, .data, .sentinel, .sentinel, .pinned], laidTests := true, laidLooks := .later }
def ValueCompareCardSaid : Prop := Claim7.holds Tryd.pinned (.plain (OpenSpec.ofChange valueCompareSpec)) valueCompareCard

/-- THE TIED CARD OF 'annalistlaw6.ValueOrder'. -/
def valueOrderCard : Claim7 := { stood := { row := valueOrderRow, standIns := [], harness := (true, "13f011b92ecf5cfcb5d9dc3aa30bacdff915189ff05b32b8535b95740111fd69"), looks := true }, kinds := [], alts := [], laidByText := true, laidKinds := [.data, .data, .data, .data, .sentinel, .sentinel, .pinned], laidTests := true, laidLooks := .later }
def ValueOrderCardSaid : Prop := Claim7.holds Tryd.pinned (.plain (OpenSpec.ofChange valueOrderSpec)) valueOrderCard

/-- THE TIED CARD OF 'annalistlaw6.ValueParse'. -/
def valueParseCard : Claim7 := { stood := { row := valueParseRow, standIns := [], harness := (true, "13f011b92ecf5cfcb5d9dc3aa30bacdff915189ff05b32b8535b95740111fd69"), looks := true }, kinds := [], alts := [], laidByText := true, laidKinds := [.data, .data, .data, .data, .sentinel, .sentinel, .pinned], laidTests := true, laidLooks := .later }
def ValueParseCardSaid : Prop := Claim7.holds Tryd.pinned (.plain (OpenSpec.ofChange valueParseSpec)) valueParseCard

/-- THE TIED CARD OF 'annalistlaw6.ValueRoundTrip'. -/
def valueRoundTripCard : Claim7 := { stood := { row := valueRoundTripRow, standIns := [], harness := (true, "13f011b92ecf5cfcb5d9dc3aa30bacdff915189ff05b32b8535b95740111fd69"), looks := true }, kinds := [], alts := [], laidByText := true, laidKinds := [.data, .data, .data, .data, .sentinel, .sentinel, .pinned], laidTests := true, laidLooks := .later }
def ValueRoundTripCardSaid : Prop := Claim7.holds Tryd.pinned (.plain (OpenSpec.ofChange valueRoundTripSpec)) valueRoundTripCard

/-- THE TIED CARD OF 'annalistlaw6.ValueUnique'. -/
def valueUniqueCard : Claim7 := { stood := { row := valueUniqueRow, standIns := [], harness := (true, "13f011b92ecf5cfcb5d9dc3aa30bacdff915189ff05b32b8535b95740111fd69"), looks := true }, kinds := [], alts := [], laidByText := true, laidKinds := [.data, .data, .data, .data, .sentinel, .sentinel, .pinned], laidTests := true, laidLooks := .later }
def ValueUniqueCardSaid : Prop := Claim7.holds Tryd.pinned (.plain (OpenSpec.ofChange valueUniqueSpec)) valueUniqueCard

/-- THE TIED CARD OF 'annalistlaw6.ValueKey'. -/
def valueKeyCard : Claim7 := { stood := { row := valueKeyRow, standIns := [], harness := (true, "13f011b92ecf5cfcb5d9dc3aa30bacdff915189ff05b32b8535b95740111fd69"), looks := true }, kinds := [], alts := [], laidByText := true, laidKinds := [.data, .data, .data, .data, .sentinel, .sentinel, .pinned], laidTests := true, laidLooks := .later }
def ValueKeyCardSaid : Prop := Claim7.holds Tryd.pinned (.plain (OpenSpec.ofChange valueKeySpec)) valueKeyCard

/-- THE TIED CARD OF 'annalistlaw6.ValueKeySplit'. -/
def valueKeySplitCard : Claim7 := { stood := { row := valueKeySplitRow, standIns := [], harness := (true, "13f011b92ecf5cfcb5d9dc3aa30bacdff915189ff05b32b8535b95740111fd69"), looks := true }, kinds := [], alts := [], laidByText := true, laidKinds := [.data, .data, .data, .data, .sentinel, .sentinel, .pinned], laidTests := true, laidLooks := .later }
def ValueKeySplitCardSaid : Prop := Claim7.holds Tryd.pinned (.plain (OpenSpec.ofChange valueKeySplitSpec)) valueKeySplitCard

/-- THE TIED CARD OF 'annalistlaw6.ValueRows'. -/
def valueRowsCard : Claim7 := { stood := { row := valueRowsRow, standIns := [], harness := (true, "13f011b92ecf5cfcb5d9dc3aa30bacdff915189ff05b32b8535b95740111fd69"), looks := true }, kinds := [], alts := [], laidByText := true, laidKinds := [.data, .data, .data, .data, .sentinel, .sentinel, .pinned], laidTests := true, laidLooks := .later }
def ValueRowsCardSaid : Prop := Claim7.holds Tryd.pinned (.plain (OpenSpec.ofChange valueRowsSpec)) valueRowsCard

/-- THE SECOND FORM's CARD OF 'annalistlaw6.ValueCompare'. -/
def valueCompareUptoCard : Claim7 := { stood := { row := valueCompareUptoRow, standIns := [], harness := (true, "13f011b92ecf5cfcb5d9dc3aa30bacdff915189ff05b32b8535b95740111fd69"), looks := true }, kinds := [], alts := [], laidByText := true, laidKinds := [.data, .data, .data, .data, .sentinel, .sentinel, .pinned], laidTests := true, laidLooks := .later }
def ValueCompareUptoCardSaid : Prop := Claim7.holds Tryd.pinned (.plain (OpenSpec.upto valueCompareSpec)) valueCompareUptoCard

/-- THE SECOND FORM's CARD OF 'annalistlaw6.ValueOrder'. -/
def valueOrderUptoCard : Claim7 := { stood := { row := valueOrderUptoRow, standIns := [], harness := (true, "13f011b92ecf5cfcb5d9dc3aa30bacdff915189ff05b32b8535b95740111fd69"), looks := true }, kinds := [], alts := [], laidByText := true, laidKinds := [.data, .data, .data, .data, .sentinel, .sentinel, .pinned], laidTests := true, laidLooks := .later }
def ValueOrderUptoCardSaid : Prop := Claim7.holds Tryd.pinned (.plain (OpenSpec.upto valueOrderSpec)) valueOrderUptoCard

/-- THE SECOND FORM's CARD OF 'annalistlaw6.ValueParse'. -/
def valueParseUptoCard : Claim7 := { stood := { row := valueParseUptoRow, standIns := [], harness := (true, "13f011b92ecf5cfcb5d9dc3aa30bacdff915189ff05b32b8535b95740111fd69"), looks := true }, kinds := [], alts := [], laidByText := true, laidKinds := [.data, .data, .data, .data, .sentinel, .sentinel, .pinned], laidTests := true, laidLooks := .later }
def ValueParseUptoCardSaid : Prop := Claim7.holds Tryd.pinned (.plain (OpenSpec.upto valueParseSpec)) valueParseUptoCard

/-- THE SECOND FORM's CARD OF 'annalistlaw6.ValueRoundTrip'. -/
def valueRoundTripUptoCard : Claim7 := { stood := { row := valueRoundTripUptoRow, standIns := [], harness := (true, "13f011b92ecf5cfcb5d9dc3aa30bacdff915189ff05b32b8535b95740111fd69"), looks := true }, kinds := [], alts := [], laidByText := true, laidKinds := [.data, .data, .data, .data, .sentinel, .sentinel, .pinned], laidTests := true, laidLooks := .later }
def ValueRoundTripUptoCardSaid : Prop := Claim7.holds Tryd.pinned (.plain (OpenSpec.upto valueRoundTripSpec)) valueRoundTripUptoCard

/-- THE SECOND FORM's CARD OF 'annalistlaw6.ValueUnique'. -/
def valueUniqueUptoCard : Claim7 := { stood := { row := valueUniqueUptoRow, standIns := [], harness := (true, "13f011b92ecf5cfcb5d9dc3aa30bacdff915189ff05b32b8535b95740111fd69"), looks := true }, kinds := [], alts := [], laidByText := true, laidKinds := [.data, .data, .data, .data, .sentinel, .sentinel, .pinned], laidTests := true, laidLooks := .later }
def ValueUniqueUptoCardSaid : Prop := Claim7.holds Tryd.pinned (.plain (OpenSpec.upto valueUniqueSpec)) valueUniqueUptoCard

/-- THE SECOND FORM's CARD OF 'annalistlaw6.ValueKey'. -/
def valueKeyUptoCard : Claim7 := { stood := { row := valueKeyUptoRow, standIns := [], harness := (true, "13f011b92ecf5cfcb5d9dc3aa30bacdff915189ff05b32b8535b95740111fd69"), looks := true }, kinds := [], alts := [], laidByText := true, laidKinds := [.data, .data, .data, .data, .sentinel, .sentinel, .pinned], laidTests := true, laidLooks := .later }
def ValueKeyUptoCardSaid : Prop := Claim7.holds Tryd.pinned (.plain (OpenSpec.upto valueKeySpec)) valueKeyUptoCard

/-- THE SECOND FORM's CARD OF 'annalistlaw6.ValueKeySplit'. -/
def valueKeySplitUptoCard : Claim7 := { stood := { row := valueKeySplitUptoRow, standIns := [], harness := (true, "13f011b92ecf5cfcb5d9dc3aa30bacdff915189ff05b32b8535b95740111fd69"), looks := true }, kinds := [], alts := [], laidByText := true, laidKinds := [.data, .data, .data, .data, .sentinel, .sentinel, .pinned], laidTests := true, laidLooks := .later }
def ValueKeySplitUptoCardSaid : Prop := Claim7.holds Tryd.pinned (.plain (OpenSpec.upto valueKeySplitSpec)) valueKeySplitUptoCard

/-- THE SECOND FORM's CARD OF 'annalistlaw6.ValueRows'. -/
def valueRowsUptoCard : Claim7 := { stood := { row := valueRowsUptoRow, standIns := [], harness := (true, "13f011b92ecf5cfcb5d9dc3aa30bacdff915189ff05b32b8535b95740111fd69"), looks := true }, kinds := [], alts := [], laidByText := true, laidKinds := [.data, .data, .data, .data, .sentinel, .sentinel, .pinned], laidTests := true, laidLooks := .later }
def ValueRowsUptoCardSaid : Prop := Claim7.holds Tryd.pinned (.plain (OpenSpec.upto valueRowsSpec)) valueRowsUptoCard
end Rows
end Go.Proofs.YthjgnpicnpfmjaaDoor
