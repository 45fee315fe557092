/-
  NARROWER THAN 'FOR EVERY INPUT', by the rows' own cells (each row's printed sentence says how): LexerScans: laid · LexerTexts: laid · LexerFormats: laid · LexerBack: laid · LexerSpaces: laid · LexerLimits: laid.
  DERIVED. THE GIVEN ROWS OF THIS SEAT. 6 by the template 'for every input the law returns true; each argument reads behind the call as it read before'; 0 by the template 'total and deterministic' (their statements: YtbabencadnlmlaaDoorTotals.lean).
  GIVEN WITH THE SEED: the statements are not yours to turn. If you find one false, say at which input.
  Laid BY PROGRAM, IN A SANDBOX (cutbox-rows.mjs): the forced cells as the released guide's own fill.sh prints them over the translation 8c5cedbcfbaa19ec… (all of the seat's roots in one cut). By AI agents, Wed Nov 11 2026. No macro, syntax, notation, axiom, sorry.
-/
import Derived.Test.YtbabencadnlmlaaDoorChecked
import GoSem.PinnedTables
import GoSem.Claim
import GoSem.ClaimJoined
import GoSem.ClaimMapViews
import Derived.JoinedTies
import Derived.KernelRfl
namespace Go.Proofs.YtbabencadnlmlaaDoor
/- THE CELL 'sum', in the pinned program and in every row, IS THE sha256 OF THE DUMP (.gsa) THAT YtbabencadnlmlaaDoorProg.lean LOADS. Nothing in Lean hashes anything: it is a label: what it is worth is what the hold of that sum in a sandbox is worth. -/
noncomputable def Tryd.pinned : Pinned := { name := "ytbabencadnlmlaadoor", sum := "8c5cedbcfbaa19ec5ddd03bf6d5709bd863608f771300ed311224a0b98ae8351", checked := Tryd.checked }
namespace Rows
def none {H : Type} : Left H := { results := [], args := [] }

/- WHAT THE LISTED PACKAGE-LEVEL VARIABLES READ AS WHEN THE CALL BEGINS. Each datum BY PROGRAM (the guide's laid-datum.mjs) off the statement by which the dump's own 'gosem.cut.vars' lays the variable. In a bare row this is a premise. The card (YtbabencadnlmlaaDoorCards.lean) ties it to the program's text. -/
def laid_unicode_utf8_acceptRanges {H : Type} : DataW H := .agg [.agg [.lit (.int .u8 128), .lit (.int .u8 191)], .agg [.lit (.int .u8 160), .lit (.int .u8 191)], .agg [.lit (.int .u8 128), .lit (.int .u8 159)], .agg [.lit (.int .u8 144), .lit (.int .u8 191)], .agg [.lit (.int .u8 128), .lit (.int .u8 143)], .agg [.lit (.int .u8 0), .lit (.int .u8 0)], .agg [.lit (.int .u8 0), .lit (.int .u8 0)], .agg [.lit (.int .u8 0), .lit (.int .u8 0)], .agg [.lit (.int .u8 0), .lit (.int .u8 0)], .agg [.lit (.int .u8 0), .lit (.int .u8 0)], .agg [.lit (.int .u8 0), .lit (.int .u8 0)], .agg [.lit (.int .u8 0), .lit (.int .u8 0)], .agg [.lit (.int .u8 0), .lit (.int .u8 0)], .agg [.lit (.int .u8 0), .lit (.int .u8 0)], .agg [.lit (.int .u8 0), .lit (.int .u8 0)], .agg [.lit (.int .u8 0), .lit (.int .u8 0)]]
/-- One of Go's own tables, pinned by name: the form's constant. -/
def laid_unicode_utf8_first : DataW Unit := Go.Pinned.utf8First

/-- 'annalistlaw27.LexerScans': WHATEVER THE INPUT: true; the input reads as it did. -/
def lexerScansSpec : ChangeSpec := { name := "lexerScans", fn := fun _ => fun
  | [d] => { results := [.lit (.bool true)], args := [d] }
  | _ => none }
def lexerScansRow : OpenClaim := { program := "ytbabencadnlmlaadoor", sum := "8c5cedbcfbaa19ec5ddd03bf6d5709bd863608f771300ed311224a0b98ae8351", func := "annalist/annalistlaw27.LexerScans", spec := "lexerScans", inPlace := ["internal/abi.NoEscape", "internal/bytealg.IndexByteString", "internal/bytealg.CountString", "internal/bytealg.IndexString", "internal/bytealg.MakeNoZero"], unfollowed := true, recurses := true, named := ["internal/bytealg.MaxLen", "unicode/utf8.first", "unicode/utf8.acceptRanges"], apart := false, laid := [("unicode/utf8.acceptRanges", laid_unicode_utf8_acceptRanges), ("unicode/utf8.first", laid_unicode_utf8_first)] }
def LexerScansSaid : Prop := lexerScansRow.holds Tryd.pinned (OpenSpec.ofChange lexerScansSpec)

/-- ITS FALSE NEIGHBOUR: 'it returns false'. Refute it at one input. -/
def lexerScansWrong : ChangeSpec := { name := "lexerScans", fn := fun _ => fun
  | [d] => { results := [.lit (.bool false)], args := [d] }
  | _ => none }
def LexerScansWrongFalsely : Prop := lexerScansRow.holds Tryd.pinned (OpenSpec.ofChange lexerScansWrong)

/-- 'annalistlaw27.LexerTexts': WHATEVER THE INPUT: true; the input reads as it did. -/
def lexerTextsSpec : ChangeSpec := { name := "lexerTexts", fn := fun _ => fun
  | [d] => { results := [.lit (.bool true)], args := [d] }
  | _ => none }
def lexerTextsRow : OpenClaim := { program := "ytbabencadnlmlaadoor", sum := "8c5cedbcfbaa19ec5ddd03bf6d5709bd863608f771300ed311224a0b98ae8351", func := "annalist/annalistlaw27.LexerTexts", spec := "lexerTexts", inPlace := ["internal/abi.NoEscape", "internal/bytealg.IndexByteString", "internal/bytealg.CountString", "internal/bytealg.IndexString", "internal/bytealg.MakeNoZero"], unfollowed := true, recurses := true, named := ["internal/bytealg.MaxLen", "unicode/utf8.first", "unicode/utf8.acceptRanges"], apart := false, laid := [("unicode/utf8.acceptRanges", laid_unicode_utf8_acceptRanges), ("unicode/utf8.first", laid_unicode_utf8_first)] }
def LexerTextsSaid : Prop := lexerTextsRow.holds Tryd.pinned (OpenSpec.ofChange lexerTextsSpec)

/-- ITS FALSE NEIGHBOUR: 'it returns false'. Refute it at one input. -/
def lexerTextsWrong : ChangeSpec := { name := "lexerTexts", fn := fun _ => fun
  | [d] => { results := [.lit (.bool false)], args := [d] }
  | _ => none }
def LexerTextsWrongFalsely : Prop := lexerTextsRow.holds Tryd.pinned (OpenSpec.ofChange lexerTextsWrong)

/-- 'annalistlaw27.LexerFormats': WHATEVER THE INPUT: true; the input reads as it did. -/
def lexerFormatsSpec : ChangeSpec := { name := "lexerFormats", fn := fun _ => fun
  | [d] => { results := [.lit (.bool true)], args := [d] }
  | _ => none }
def lexerFormatsRow : OpenClaim := { program := "ytbabencadnlmlaadoor", sum := "8c5cedbcfbaa19ec5ddd03bf6d5709bd863608f771300ed311224a0b98ae8351", func := "annalist/annalistlaw27.LexerFormats", spec := "lexerFormats", inPlace := ["internal/abi.NoEscape", "internal/bytealg.IndexByteString", "internal/bytealg.CountString", "internal/bytealg.IndexString", "internal/bytealg.MakeNoZero"], unfollowed := true, recurses := true, named := ["internal/bytealg.MaxLen", "unicode/utf8.first", "unicode/utf8.acceptRanges"], apart := false, laid := [("unicode/utf8.acceptRanges", laid_unicode_utf8_acceptRanges), ("unicode/utf8.first", laid_unicode_utf8_first)] }
def LexerFormatsSaid : Prop := lexerFormatsRow.holds Tryd.pinned (OpenSpec.ofChange lexerFormatsSpec)

/-- ITS FALSE NEIGHBOUR: 'it returns false'. Refute it at one input. -/
def lexerFormatsWrong : ChangeSpec := { name := "lexerFormats", fn := fun _ => fun
  | [d] => { results := [.lit (.bool false)], args := [d] }
  | _ => none }
def LexerFormatsWrongFalsely : Prop := lexerFormatsRow.holds Tryd.pinned (OpenSpec.ofChange lexerFormatsWrong)

/-- 'annalistlaw27.LexerBack': WHATEVER THE INPUT: true; the input reads as it did. -/
def lexerBackSpec : ChangeSpec := { name := "lexerBack", fn := fun _ => fun
  | [d] => { results := [.lit (.bool true)], args := [d] }
  | _ => none }
def lexerBackRow : OpenClaim := { program := "ytbabencadnlmlaadoor", sum := "8c5cedbcfbaa19ec5ddd03bf6d5709bd863608f771300ed311224a0b98ae8351", func := "annalist/annalistlaw27.LexerBack", spec := "lexerBack", inPlace := ["internal/abi.NoEscape", "internal/bytealg.IndexByteString", "internal/bytealg.CountString", "internal/bytealg.IndexString", "internal/bytealg.MakeNoZero"], unfollowed := true, recurses := true, named := ["internal/bytealg.MaxLen", "unicode/utf8.first", "unicode/utf8.acceptRanges"], apart := false, laid := [("unicode/utf8.acceptRanges", laid_unicode_utf8_acceptRanges), ("unicode/utf8.first", laid_unicode_utf8_first)] }
def LexerBackSaid : Prop := lexerBackRow.holds Tryd.pinned (OpenSpec.ofChange lexerBackSpec)

/-- ITS FALSE NEIGHBOUR: 'it returns false'. Refute it at one input. -/
def lexerBackWrong : ChangeSpec := { name := "lexerBack", fn := fun _ => fun
  | [d] => { results := [.lit (.bool false)], args := [d] }
  | _ => none }
def LexerBackWrongFalsely : Prop := lexerBackRow.holds Tryd.pinned (OpenSpec.ofChange lexerBackWrong)

/-- 'annalistlaw27.LexerSpaces': WHATEVER THE INPUT: true; the input reads as it did. -/
def lexerSpacesSpec : ChangeSpec := { name := "lexerSpaces", fn := fun _ => fun
  | [d1, d2] => { results := [.lit (.bool true)], args := [d1, d2] }
  | _ => none }
def lexerSpacesRow : OpenClaim := { program := "ytbabencadnlmlaadoor", sum := "8c5cedbcfbaa19ec5ddd03bf6d5709bd863608f771300ed311224a0b98ae8351", func := "annalist/annalistlaw27.LexerSpaces", spec := "lexerSpaces", inPlace := ["internal/abi.NoEscape", "internal/bytealg.IndexByteString", "internal/bytealg.CountString", "internal/bytealg.IndexString", "internal/bytealg.MakeNoZero"], unfollowed := true, recurses := true, named := ["internal/bytealg.MaxLen", "unicode/utf8.first", "unicode/utf8.acceptRanges"], apart := false, laid := [("unicode/utf8.acceptRanges", laid_unicode_utf8_acceptRanges), ("unicode/utf8.first", laid_unicode_utf8_first)] }
def LexerSpacesSaid : Prop := lexerSpacesRow.holds Tryd.pinned (OpenSpec.ofChange lexerSpacesSpec)

/-- ITS FALSE NEIGHBOUR: 'it returns false'. Refute it at one input. -/
def lexerSpacesWrong : ChangeSpec := { name := "lexerSpaces", fn := fun _ => fun
  | [d1, d2] => { results := [.lit (.bool false)], args := [d1, d2] }
  | _ => none }
def LexerSpacesWrongFalsely : Prop := lexerSpacesRow.holds Tryd.pinned (OpenSpec.ofChange lexerSpacesWrong)

/-- 'annalistlaw27.LexerLimits': WHATEVER THE INPUT: true; the input reads as it did. -/
def lexerLimitsSpec : ChangeSpec := { name := "lexerLimits", fn := fun _ => fun
  | [d] => { results := [.lit (.bool true)], args := [d] }
  | _ => none }
def lexerLimitsRow : OpenClaim := { program := "ytbabencadnlmlaadoor", sum := "8c5cedbcfbaa19ec5ddd03bf6d5709bd863608f771300ed311224a0b98ae8351", func := "annalist/annalistlaw27.LexerLimits", spec := "lexerLimits", inPlace := ["internal/abi.NoEscape", "internal/bytealg.IndexByteString", "internal/bytealg.CountString", "internal/bytealg.IndexString", "internal/bytealg.MakeNoZero"], unfollowed := true, recurses := true, named := ["internal/bytealg.MaxLen", "unicode/utf8.first", "unicode/utf8.acceptRanges"], apart := false, laid := [("unicode/utf8.acceptRanges", laid_unicode_utf8_acceptRanges), ("unicode/utf8.first", laid_unicode_utf8_first)] }
def LexerLimitsSaid : Prop := lexerLimitsRow.holds Tryd.pinned (OpenSpec.ofChange lexerLimitsSpec)

/-- ITS FALSE NEIGHBOUR: 'it returns false'. Refute it at one input. -/
def lexerLimitsWrong : ChangeSpec := { name := "lexerLimits", fn := fun _ => fun
  | [d] => { results := [.lit (.bool false)], args := [d] }
  | _ => none }
def LexerLimitsWrongFalsely : Prop := lexerLimitsRow.holds Tryd.pinned (OpenSpec.ofChange lexerLimitsWrong)

/- THE SECOND FORM. 'bulk': how many values and letters a reading holds, each counted each time it is reached (what is shared counts as often as it is met; a slice's spare places count too). A statement '..UptoSaid' is the law's where the arguments, and the package variables that the reading takes, are together of bulk at most 1048576: NARROWER than '..Said'. Prove '..Said' where nothing that the law and all that it calls make is longer than what came in: it says more and counts as full. Else prove '..UptoSaid'. A law counts once. -/
mutual
def uptoBulk {H : Type} : DataW H → Nat
  | .lit (.string bytes) => bytes.length + 1
  | .lit _ => 1
  | .nil => 1
  | .ptr d => uptoBulk d + 1
  | .slice elems spare => uptoBulkAll elems + uptoBulkAll spare + 1
  | .agg parts => uptoBulkAll parts + 1
  | .iface _ d => uptoBulk d + 1
  | .map entries => uptoBulkEntries entries + 1
  | .held _ => 1
def uptoBulkAll {H : Type} : List (DataW H) → Nat
  | [] => 0
  | d :: r => uptoBulk d + uptoBulkAll r
def uptoBulkEntries {H : Type} : List (Lit × DataW H) → Nat
  | [] => 0
  | x :: r => uptoBulkEntry x + uptoBulkEntries r
def uptoBulkEntry {H : Type} : Lit × DataW H → Nat
  | (.string bytes, d) => bytes.length + uptoBulk d + 1
  | (_, d) => uptoBulk d + 1
 end
def uptoSmall : (H : Type) → List (DataW H) → Bool := fun _ ds => decide (uptoBulkAll ds ≤ 1048576)
def OpenSpec.upto (s : _root_.Go.ChangeSpec) : _root_.Go.OpenSpec := { _root_.Go.OpenSpec.ofChange s with cond := some uptoSmall }

/-- 'annalistlaw27.LexerScans', WHERE WHAT IT READS IS OF BULK AT MOST 1048576: true; the input reads as it did. -/
def lexerScansUptoRow : OpenClaim := { program := "ytbabencadnlmlaadoor", sum := "8c5cedbcfbaa19ec5ddd03bf6d5709bd863608f771300ed311224a0b98ae8351", func := "annalist/annalistlaw27.LexerScans", spec := "lexerScans", inPlace := ["internal/abi.NoEscape", "internal/bytealg.IndexByteString", "internal/bytealg.CountString", "internal/bytealg.IndexString", "internal/bytealg.MakeNoZero"], unfollowed := true, recurses := true, named := ["internal/bytealg.MaxLen", "unicode/utf8.first", "unicode/utf8.acceptRanges"], apart := false, laid := [("unicode/utf8.acceptRanges", laid_unicode_utf8_acceptRanges), ("unicode/utf8.first", laid_unicode_utf8_first)], narrowed := true }
def LexerScansUptoSaid : Prop := lexerScansUptoRow.holds Tryd.pinned (OpenSpec.upto lexerScansSpec)

/-- 'annalistlaw27.LexerTexts', WHERE WHAT IT READS IS OF BULK AT MOST 1048576: true; the input reads as it did. -/
def lexerTextsUptoRow : OpenClaim := { program := "ytbabencadnlmlaadoor", sum := "8c5cedbcfbaa19ec5ddd03bf6d5709bd863608f771300ed311224a0b98ae8351", func := "annalist/annalistlaw27.LexerTexts", spec := "lexerTexts", inPlace := ["internal/abi.NoEscape", "internal/bytealg.IndexByteString", "internal/bytealg.CountString", "internal/bytealg.IndexString", "internal/bytealg.MakeNoZero"], unfollowed := true, recurses := true, named := ["internal/bytealg.MaxLen", "unicode/utf8.first", "unicode/utf8.acceptRanges"], apart := false, laid := [("unicode/utf8.acceptRanges", laid_unicode_utf8_acceptRanges), ("unicode/utf8.first", laid_unicode_utf8_first)], narrowed := true }
def LexerTextsUptoSaid : Prop := lexerTextsUptoRow.holds Tryd.pinned (OpenSpec.upto lexerTextsSpec)

/-- 'annalistlaw27.LexerFormats', WHERE WHAT IT READS IS OF BULK AT MOST 1048576: true; the input reads as it did. -/
def lexerFormatsUptoRow : OpenClaim := { program := "ytbabencadnlmlaadoor", sum := "8c5cedbcfbaa19ec5ddd03bf6d5709bd863608f771300ed311224a0b98ae8351", func := "annalist/annalistlaw27.LexerFormats", spec := "lexerFormats", inPlace := ["internal/abi.NoEscape", "internal/bytealg.IndexByteString", "internal/bytealg.CountString", "internal/bytealg.IndexString", "internal/bytealg.MakeNoZero"], unfollowed := true, recurses := true, named := ["internal/bytealg.MaxLen", "unicode/utf8.first", "unicode/utf8.acceptRanges"], apart := false, laid := [("unicode/utf8.acceptRanges", laid_unicode_utf8_acceptRanges), ("unicode/utf8.first", laid_unicode_utf8_first)], narrowed := true }
def LexerFormatsUptoSaid : Prop := lexerFormatsUptoRow.holds Tryd.pinned (OpenSpec.upto lexerFormatsSpec)

/-- 'annalistlaw27.LexerBack', WHERE WHAT IT READS IS OF BULK AT MOST 1048576: true; the input reads as it did. -/
def lexerBackUptoRow : OpenClaim := { program := "ytbabencadnlmlaadoor", sum := "8c5cedbcfbaa19ec5ddd03bf6d5709bd863608f771300ed311224a0b98ae8351", func := "annalist/annalistlaw27.LexerBack", spec := "lexerBack", inPlace := ["internal/abi.NoEscape", "internal/bytealg.IndexByteString", "internal/bytealg.CountString", "internal/bytealg.IndexString", "internal/bytealg.MakeNoZero"], unfollowed := true, recurses := true, named := ["internal/bytealg.MaxLen", "unicode/utf8.first", "unicode/utf8.acceptRanges"], apart := false, laid := [("unicode/utf8.acceptRanges", laid_unicode_utf8_acceptRanges), ("unicode/utf8.first", laid_unicode_utf8_first)], narrowed := true }
def LexerBackUptoSaid : Prop := lexerBackUptoRow.holds Tryd.pinned (OpenSpec.upto lexerBackSpec)

/-- 'annalistlaw27.LexerSpaces', WHERE WHAT IT READS IS OF BULK AT MOST 1048576: true; the input reads as it did. -/
def lexerSpacesUptoRow : OpenClaim := { program := "ytbabencadnlmlaadoor", sum := "8c5cedbcfbaa19ec5ddd03bf6d5709bd863608f771300ed311224a0b98ae8351", func := "annalist/annalistlaw27.LexerSpaces", spec := "lexerSpaces", inPlace := ["internal/abi.NoEscape", "internal/bytealg.IndexByteString", "internal/bytealg.CountString", "internal/bytealg.IndexString", "internal/bytealg.MakeNoZero"], unfollowed := true, recurses := true, named := ["internal/bytealg.MaxLen", "unicode/utf8.first", "unicode/utf8.acceptRanges"], apart := false, laid := [("unicode/utf8.acceptRanges", laid_unicode_utf8_acceptRanges), ("unicode/utf8.first", laid_unicode_utf8_first)], narrowed := true }
def LexerSpacesUptoSaid : Prop := lexerSpacesUptoRow.holds Tryd.pinned (OpenSpec.upto lexerSpacesSpec)

/-- 'annalistlaw27.LexerLimits', WHERE WHAT IT READS IS OF BULK AT MOST 1048576: true; the input reads as it did. -/
def lexerLimitsUptoRow : OpenClaim := { program := "ytbabencadnlmlaadoor", sum := "8c5cedbcfbaa19ec5ddd03bf6d5709bd863608f771300ed311224a0b98ae8351", func := "annalist/annalistlaw27.LexerLimits", spec := "lexerLimits", inPlace := ["internal/abi.NoEscape", "internal/bytealg.IndexByteString", "internal/bytealg.CountString", "internal/bytealg.IndexString", "internal/bytealg.MakeNoZero"], unfollowed := true, recurses := true, named := ["internal/bytealg.MaxLen", "unicode/utf8.first", "unicode/utf8.acceptRanges"], apart := false, laid := [("unicode/utf8.acceptRanges", laid_unicode_utf8_acceptRanges), ("unicode/utf8.first", laid_unicode_utf8_first)], narrowed := true }
def LexerLimitsUptoSaid : Prop := lexerLimitsUptoRow.holds Tryd.pinned (OpenSpec.upto lexerLimitsSpec)

end Rows
end Go.Proofs.YtbabencadnlmlaaDoor
