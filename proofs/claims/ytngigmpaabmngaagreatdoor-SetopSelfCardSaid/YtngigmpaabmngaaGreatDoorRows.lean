/-
  NARROWER THAN 'FOR EVERY INPUT', by the rows' own cells (each row's printed sentence says how): SplitterEquivalent: laid · SetopUnion: laid · SetopDifference: laid · SetopOverlapping: laid · SetopBalance: laid · SetopDistinctOnce: laid · SetopSelf: laid · SetopSplits: laid.
  DERIVED. THE GIVEN ROWS OF THIS SEAT. 8 by the template 'for every input the law returns true; each argument reads behind the call as it read before'; 0 by the template 'total and deterministic' (their statements: YtngigmpaabmngaaGreatDoorTotals.lean).
  GIVEN WITH THE SEED: the statements are not yours to turn. If you find one false, say at which input.
  Laid BY PROGRAM, IN A SANDBOX (cutbox-rows.mjs): the forced cells as the released guide's own fill.sh prints them over the translation 9e57e53503c067ca… (all of the seat's roots in one cut). By AI agents, Wed Nov 11 2026. No macro, syntax, notation, axiom, sorry.
-/
import Derived.Test.YtngigmpaabmngaaGreatDoorChecked
import GoSem.Claim
import GoSem.ClaimJoined
import GoSem.ClaimMapViews
import Derived.JoinedTies
import Derived.KernelRfl
namespace Go.Proofs.YtngigmpaabmngaaGreatDoor
/- THE CELL 'sum', in the pinned program and in every row, IS THE sha256 OF THE DUMP (.gsa) THAT YtngigmpaabmngaaGreatDoorProg.lean LOADS. Nothing in Lean hashes anything: it is a label: what it is worth is what the hold of that sum in a sandbox is worth. -/
noncomputable def Tryz.pinned : Pinned := { name := "ytngigmpaabmngaagreatdoor", sum := "9e57e53503c067cac3fa0a85a23fc190cbb4a26fce003dbdbbc381341c9820e6", checked := Tryz.checked }
namespace Rows
def none {H : Type} : Left H := { results := [], args := [] }

/- WHAT THE LISTED PACKAGE-LEVEL VARIABLES READ AS WHEN THE CALL BEGINS. Each datum BY PROGRAM (the guide's laid-datum.mjs) off the statement by which the dump's own 'gosem.cut.vars' lays the variable. In a bare row this is a premise. The card (YtngigmpaabmngaaGreatDoorCards.lean) ties it to the program's text. -/
def laid_math_bits_deBruijn32tab {H : Type} : DataW H := .agg [.lit (.int .u8 0), .lit (.int .u8 1), .lit (.int .u8 28), .lit (.int .u8 2), .lit (.int .u8 29), .lit (.int .u8 14), .lit (.int .u8 24), .lit (.int .u8 3), .lit (.int .u8 30), .lit (.int .u8 22), .lit (.int .u8 20), .lit (.int .u8 15), .lit (.int .u8 25), .lit (.int .u8 17), .lit (.int .u8 4), .lit (.int .u8 8), .lit (.int .u8 31), .lit (.int .u8 27), .lit (.int .u8 13), .lit (.int .u8 23), .lit (.int .u8 21), .lit (.int .u8 19), .lit (.int .u8 16), .lit (.int .u8 7), .lit (.int .u8 26), .lit (.int .u8 12), .lit (.int .u8 18), .lit (.int .u8 6), .lit (.int .u8 11), .lit (.int .u8 5), .lit (.int .u8 10), .lit (.int .u8 9)]
def laid_math_bits_deBruijn64tab {H : Type} : DataW H := .agg [.lit (.int .u8 0), .lit (.int .u8 1), .lit (.int .u8 56), .lit (.int .u8 2), .lit (.int .u8 57), .lit (.int .u8 49), .lit (.int .u8 28), .lit (.int .u8 3), .lit (.int .u8 61), .lit (.int .u8 58), .lit (.int .u8 42), .lit (.int .u8 50), .lit (.int .u8 38), .lit (.int .u8 29), .lit (.int .u8 17), .lit (.int .u8 4), .lit (.int .u8 62), .lit (.int .u8 47), .lit (.int .u8 59), .lit (.int .u8 36), .lit (.int .u8 45), .lit (.int .u8 43), .lit (.int .u8 51), .lit (.int .u8 22), .lit (.int .u8 53), .lit (.int .u8 39), .lit (.int .u8 33), .lit (.int .u8 30), .lit (.int .u8 24), .lit (.int .u8 18), .lit (.int .u8 12), .lit (.int .u8 5), .lit (.int .u8 63), .lit (.int .u8 55), .lit (.int .u8 48), .lit (.int .u8 27), .lit (.int .u8 60), .lit (.int .u8 41), .lit (.int .u8 37), .lit (.int .u8 16), .lit (.int .u8 46), .lit (.int .u8 35), .lit (.int .u8 44), .lit (.int .u8 21), .lit (.int .u8 52), .lit (.int .u8 32), .lit (.int .u8 23), .lit (.int .u8 11), .lit (.int .u8 54), .lit (.int .u8 26), .lit (.int .u8 40), .lit (.int .u8 15), .lit (.int .u8 34), .lit (.int .u8 20), .lit (.int .u8 31), .lit (.int .u8 10), .lit (.int .u8 25), .lit (.int .u8 14), .lit (.int .u8 19), .lit (.int .u8 9), .lit (.int .u8 13), .lit (.int .u8 8), .lit (.int .u8 7), .lit (.int .u8 6)]
def laid_internal_strconv_uint64pow10 {H : Type} : DataW H := .agg [.lit (.int .u64 1), .lit (.int .u64 10), .lit (.int .u64 100), .lit (.int .u64 1000), .lit (.int .u64 10000), .lit (.int .u64 100000), .lit (.int .u64 1000000), .lit (.int .u64 10000000), .lit (.int .u64 100000000), .lit (.int .u64 1000000000), .lit (.int .u64 10000000000), .lit (.int .u64 100000000000), .lit (.int .u64 1000000000000), .lit (.int .u64 10000000000000), .lit (.int .u64 100000000000000), .lit (.int .u64 1000000000000000), .lit (.int .u64 10000000000000000), .lit (.int .u64 100000000000000000), .lit (.int .u64 1000000000000000000), .lit (.int .u64 10000000000000000000)]

/-- 'annalistlaw12.SplitterEquivalent': WHATEVER THE INPUT: true; the input reads as it did. -/
def splitterEquivalentSpec : ChangeSpec := { name := "splitterEquivalent", fn := fun _ => fun
  | [d1, d2] => { results := [.lit (.bool true)], args := [d1, d2] }
  | _ => none }
def splitterEquivalentRow : OpenClaim := { program := "ytngigmpaabmngaagreatdoor", sum := "9e57e53503c067cac3fa0a85a23fc190cbb4a26fce003dbdbbc381341c9820e6", func := "annalist/annalistlaw12.SplitterEquivalent", spec := "splitterEquivalent", inPlace := ["internal/abi.NoEscape", "internal/bytealg.abigen_runtime_cmpstring"], unfollowed := true, recurses := true, named := ["internal/strconv.uint64pow10", "math/bits.deBruijn32tab", "math/bits.deBruijn64tab"], apart := false, laid := [("math/bits.deBruijn32tab", laid_math_bits_deBruijn32tab), ("math/bits.deBruijn64tab", laid_math_bits_deBruijn64tab), ("internal/strconv.uint64pow10", laid_internal_strconv_uint64pow10)] }
def SplitterEquivalentSaid : Prop := splitterEquivalentRow.holds Tryz.pinned (OpenSpec.ofChange splitterEquivalentSpec)

/-- ITS FALSE NEIGHBOUR: 'it returns false'. Refute it at one input. -/
def splitterEquivalentWrong : ChangeSpec := { name := "splitterEquivalent", fn := fun _ => fun
  | [d1, d2] => { results := [.lit (.bool false)], args := [d1, d2] }
  | _ => none }
def SplitterEquivalentWrongFalsely : Prop := splitterEquivalentRow.holds Tryz.pinned (OpenSpec.ofChange splitterEquivalentWrong)

/-- 'annalistlaw15.SetopUnion': WHATEVER THE INPUT: true; the input reads as it did. -/
def setopUnionSpec : ChangeSpec := { name := "setopUnion", fn := fun _ => fun
  | [d1, d2] => { results := [.lit (.bool true)], args := [d1, d2] }
  | _ => none }
def setopUnionRow : OpenClaim := { program := "ytngigmpaabmngaagreatdoor", sum := "9e57e53503c067cac3fa0a85a23fc190cbb4a26fce003dbdbbc381341c9820e6", func := "annalist/annalistlaw15.SetopUnion", spec := "setopUnion", inPlace := ["internal/abi.NoEscape", "internal/bytealg.abigen_runtime_cmpstring"], unfollowed := true, recurses := true, named := ["internal/strconv.uint64pow10", "math/bits.deBruijn32tab", "math/bits.deBruijn64tab"], apart := false, laid := [("math/bits.deBruijn32tab", laid_math_bits_deBruijn32tab), ("math/bits.deBruijn64tab", laid_math_bits_deBruijn64tab), ("internal/strconv.uint64pow10", laid_internal_strconv_uint64pow10)] }
def SetopUnionSaid : Prop := setopUnionRow.holds Tryz.pinned (OpenSpec.ofChange setopUnionSpec)

/-- ITS FALSE NEIGHBOUR: 'it returns false'. Refute it at one input. -/
def setopUnionWrong : ChangeSpec := { name := "setopUnion", fn := fun _ => fun
  | [d1, d2] => { results := [.lit (.bool false)], args := [d1, d2] }
  | _ => none }
def SetopUnionWrongFalsely : Prop := setopUnionRow.holds Tryz.pinned (OpenSpec.ofChange setopUnionWrong)

/-- 'annalistlaw15.SetopDifference': WHATEVER THE INPUT: true; the input reads as it did. -/
def setopDifferenceSpec : ChangeSpec := { name := "setopDifference", fn := fun _ => fun
  | [d1, d2] => { results := [.lit (.bool true)], args := [d1, d2] }
  | _ => none }
def setopDifferenceRow : OpenClaim := { program := "ytngigmpaabmngaagreatdoor", sum := "9e57e53503c067cac3fa0a85a23fc190cbb4a26fce003dbdbbc381341c9820e6", func := "annalist/annalistlaw15.SetopDifference", spec := "setopDifference", inPlace := ["internal/abi.NoEscape", "internal/bytealg.abigen_runtime_cmpstring"], unfollowed := true, recurses := true, named := ["internal/strconv.uint64pow10", "math/bits.deBruijn32tab", "math/bits.deBruijn64tab"], apart := false, laid := [("math/bits.deBruijn32tab", laid_math_bits_deBruijn32tab), ("math/bits.deBruijn64tab", laid_math_bits_deBruijn64tab), ("internal/strconv.uint64pow10", laid_internal_strconv_uint64pow10)] }
def SetopDifferenceSaid : Prop := setopDifferenceRow.holds Tryz.pinned (OpenSpec.ofChange setopDifferenceSpec)

/-- ITS FALSE NEIGHBOUR: 'it returns false'. Refute it at one input. -/
def setopDifferenceWrong : ChangeSpec := { name := "setopDifference", fn := fun _ => fun
  | [d1, d2] => { results := [.lit (.bool false)], args := [d1, d2] }
  | _ => none }
def SetopDifferenceWrongFalsely : Prop := setopDifferenceRow.holds Tryz.pinned (OpenSpec.ofChange setopDifferenceWrong)

/-- 'annalistlaw15.SetopOverlapping': WHATEVER THE INPUT: true; the input reads as it did. -/
def setopOverlappingSpec : ChangeSpec := { name := "setopOverlapping", fn := fun _ => fun
  | [d1, d2] => { results := [.lit (.bool true)], args := [d1, d2] }
  | _ => none }
def setopOverlappingRow : OpenClaim := { program := "ytngigmpaabmngaagreatdoor", sum := "9e57e53503c067cac3fa0a85a23fc190cbb4a26fce003dbdbbc381341c9820e6", func := "annalist/annalistlaw15.SetopOverlapping", spec := "setopOverlapping", inPlace := ["internal/abi.NoEscape", "internal/bytealg.abigen_runtime_cmpstring"], unfollowed := true, recurses := true, named := ["internal/strconv.uint64pow10", "math/bits.deBruijn32tab", "math/bits.deBruijn64tab"], apart := false, laid := [("math/bits.deBruijn32tab", laid_math_bits_deBruijn32tab), ("math/bits.deBruijn64tab", laid_math_bits_deBruijn64tab), ("internal/strconv.uint64pow10", laid_internal_strconv_uint64pow10)] }
def SetopOverlappingSaid : Prop := setopOverlappingRow.holds Tryz.pinned (OpenSpec.ofChange setopOverlappingSpec)

/-- ITS FALSE NEIGHBOUR: 'it returns false'. Refute it at one input. -/
def setopOverlappingWrong : ChangeSpec := { name := "setopOverlapping", fn := fun _ => fun
  | [d1, d2] => { results := [.lit (.bool false)], args := [d1, d2] }
  | _ => none }
def SetopOverlappingWrongFalsely : Prop := setopOverlappingRow.holds Tryz.pinned (OpenSpec.ofChange setopOverlappingWrong)

/-- 'annalistlaw15.SetopBalance': WHATEVER THE INPUT: true; the input reads as it did. -/
def setopBalanceSpec : ChangeSpec := { name := "setopBalance", fn := fun _ => fun
  | [d1, d2, d3] => { results := [.lit (.bool true)], args := [d1, d2, d3] }
  | _ => none }
def setopBalanceRow : OpenClaim := { program := "ytngigmpaabmngaagreatdoor", sum := "9e57e53503c067cac3fa0a85a23fc190cbb4a26fce003dbdbbc381341c9820e6", func := "annalist/annalistlaw15.SetopBalance", spec := "setopBalance", inPlace := ["internal/bytealg.abigen_runtime_cmpstring", "internal/abi.NoEscape"], unfollowed := true, recurses := true, named := ["internal/strconv.uint64pow10", "math/bits.deBruijn32tab", "math/bits.deBruijn64tab"], apart := false, laid := [("math/bits.deBruijn32tab", laid_math_bits_deBruijn32tab), ("math/bits.deBruijn64tab", laid_math_bits_deBruijn64tab), ("internal/strconv.uint64pow10", laid_internal_strconv_uint64pow10)] }
def SetopBalanceSaid : Prop := setopBalanceRow.holds Tryz.pinned (OpenSpec.ofChange setopBalanceSpec)

/-- ITS FALSE NEIGHBOUR: 'it returns false'. Refute it at one input. -/
def setopBalanceWrong : ChangeSpec := { name := "setopBalance", fn := fun _ => fun
  | [d1, d2, d3] => { results := [.lit (.bool false)], args := [d1, d2, d3] }
  | _ => none }
def SetopBalanceWrongFalsely : Prop := setopBalanceRow.holds Tryz.pinned (OpenSpec.ofChange setopBalanceWrong)

/-- 'annalistlaw15.SetopDistinctOnce': WHATEVER THE INPUT: true; the input reads as it did. -/
def setopDistinctOnceSpec : ChangeSpec := { name := "setopDistinctOnce", fn := fun _ => fun
  | [d1, d2] => { results := [.lit (.bool true)], args := [d1, d2] }
  | _ => none }
def setopDistinctOnceRow : OpenClaim := { program := "ytngigmpaabmngaagreatdoor", sum := "9e57e53503c067cac3fa0a85a23fc190cbb4a26fce003dbdbbc381341c9820e6", func := "annalist/annalistlaw15.SetopDistinctOnce", spec := "setopDistinctOnce", inPlace := ["internal/bytealg.abigen_runtime_cmpstring", "internal/abi.NoEscape"], unfollowed := true, recurses := true, named := ["internal/strconv.uint64pow10", "math/bits.deBruijn32tab", "math/bits.deBruijn64tab"], apart := false, laid := [("math/bits.deBruijn32tab", laid_math_bits_deBruijn32tab), ("math/bits.deBruijn64tab", laid_math_bits_deBruijn64tab), ("internal/strconv.uint64pow10", laid_internal_strconv_uint64pow10)] }
def SetopDistinctOnceSaid : Prop := setopDistinctOnceRow.holds Tryz.pinned (OpenSpec.ofChange setopDistinctOnceSpec)

/-- ITS FALSE NEIGHBOUR: 'it returns false'. Refute it at one input. -/
def setopDistinctOnceWrong : ChangeSpec := { name := "setopDistinctOnce", fn := fun _ => fun
  | [d1, d2] => { results := [.lit (.bool false)], args := [d1, d2] }
  | _ => none }
def SetopDistinctOnceWrongFalsely : Prop := setopDistinctOnceRow.holds Tryz.pinned (OpenSpec.ofChange setopDistinctOnceWrong)

/-- 'annalistlaw15.SetopSelf': WHATEVER THE INPUT: true; the input reads as it did. -/
def setopSelfSpec : ChangeSpec := { name := "setopSelf", fn := fun _ => fun
  | [d1, d2] => { results := [.lit (.bool true)], args := [d1, d2] }
  | _ => none }
def setopSelfRow : OpenClaim := { program := "ytngigmpaabmngaagreatdoor", sum := "9e57e53503c067cac3fa0a85a23fc190cbb4a26fce003dbdbbc381341c9820e6", func := "annalist/annalistlaw15.SetopSelf", spec := "setopSelf", inPlace := ["internal/bytealg.abigen_runtime_cmpstring", "internal/abi.NoEscape"], unfollowed := true, recurses := true, named := ["internal/strconv.uint64pow10", "math/bits.deBruijn32tab", "math/bits.deBruijn64tab"], apart := false, laid := [("math/bits.deBruijn32tab", laid_math_bits_deBruijn32tab), ("math/bits.deBruijn64tab", laid_math_bits_deBruijn64tab), ("internal/strconv.uint64pow10", laid_internal_strconv_uint64pow10)] }
def SetopSelfSaid : Prop := setopSelfRow.holds Tryz.pinned (OpenSpec.ofChange setopSelfSpec)

/-- ITS FALSE NEIGHBOUR: 'it returns false'. Refute it at one input. -/
def setopSelfWrong : ChangeSpec := { name := "setopSelf", fn := fun _ => fun
  | [d1, d2] => { results := [.lit (.bool false)], args := [d1, d2] }
  | _ => none }
def SetopSelfWrongFalsely : Prop := setopSelfRow.holds Tryz.pinned (OpenSpec.ofChange setopSelfWrong)

/-- 'annalistlaw15.SetopSplits': WHATEVER THE INPUT: true; the input reads as it did. -/
def setopSplitsSpec : ChangeSpec := { name := "setopSplits", fn := fun _ => fun
  | [d1, d2, d3] => { results := [.lit (.bool true)], args := [d1, d2, d3] }
  | _ => none }
def setopSplitsRow : OpenClaim := { program := "ytngigmpaabmngaagreatdoor", sum := "9e57e53503c067cac3fa0a85a23fc190cbb4a26fce003dbdbbc381341c9820e6", func := "annalist/annalistlaw15.SetopSplits", spec := "setopSplits", inPlace := ["internal/abi.NoEscape", "internal/bytealg.abigen_runtime_cmpstring"], unfollowed := true, recurses := true, named := ["internal/strconv.uint64pow10", "math/bits.deBruijn32tab", "math/bits.deBruijn64tab"], apart := false, laid := [("math/bits.deBruijn32tab", laid_math_bits_deBruijn32tab), ("math/bits.deBruijn64tab", laid_math_bits_deBruijn64tab), ("internal/strconv.uint64pow10", laid_internal_strconv_uint64pow10)] }
def SetopSplitsSaid : Prop := setopSplitsRow.holds Tryz.pinned (OpenSpec.ofChange setopSplitsSpec)

/-- ITS FALSE NEIGHBOUR: 'it returns false'. Refute it at one input. -/
def setopSplitsWrong : ChangeSpec := { name := "setopSplits", fn := fun _ => fun
  | [d1, d2, d3] => { results := [.lit (.bool false)], args := [d1, d2, d3] }
  | _ => none }
def SetopSplitsWrongFalsely : Prop := setopSplitsRow.holds Tryz.pinned (OpenSpec.ofChange setopSplitsWrong)

/- THE SECOND FORM. 'bulk': how many values and letters a reading holds, each counted each time it is reached (what is shared counts as often as it is met; a slice's spare places count too). A statement '..UptoSaid' is the law's where the arguments, and the package variables that the reading takes, are together of bulk at most 1048576: NARROWER than '..Said'. Prove '..Said' where nothing that the law and all that it calls make is longer than what came in: it says more and counts as full. Else prove '..UptoSaid'. A law counts once. -/
mutual
def uptoBulk {H : Type} : DataW H → Nat
  | .lit (.string bytes) => bytes.length + 1
  | .lit _ => 1
  | .nil => 1
  | .ptr d => uptoBulk d + 1
  | .slice elems spare => uptoBulkAll elems + uptoBulkAll spare + 1
  | .agg parts => uptoBulkAll parts + 1
  | .iface _ d => uptoBulk d + 1
  | .map entries => uptoBulkEntries entries + 1
  | .held _ => 1
def uptoBulkAll {H : Type} : List (DataW H) → Nat
  | [] => 0
  | d :: r => uptoBulk d + uptoBulkAll r
def uptoBulkEntries {H : Type} : List (Lit × DataW H) → Nat
  | [] => 0
  | x :: r => uptoBulkEntry x + uptoBulkEntries r
def uptoBulkEntry {H : Type} : Lit × DataW H → Nat
  | (.string bytes, d) => bytes.length + uptoBulk d + 1
  | (_, d) => uptoBulk d + 1
 end
def uptoSmall : (H : Type) → List (DataW H) → Bool := fun _ ds => decide (uptoBulkAll ds ≤ 1048576)
def OpenSpec.upto (s : _root_.Go.ChangeSpec) : _root_.Go.OpenSpec := { _root_.Go.OpenSpec.ofChange s with cond := some uptoSmall }

/-- 'annalistlaw12.SplitterEquivalent', WHERE WHAT IT READS IS OF BULK AT MOST 1048576: true; the input reads as it did. -/
def splitterEquivalentUptoRow : OpenClaim := { program := "ytngigmpaabmngaagreatdoor", sum := "9e57e53503c067cac3fa0a85a23fc190cbb4a26fce003dbdbbc381341c9820e6", func := "annalist/annalistlaw12.SplitterEquivalent", spec := "splitterEquivalent", inPlace := ["internal/abi.NoEscape", "internal/bytealg.abigen_runtime_cmpstring"], unfollowed := true, recurses := true, named := ["internal/strconv.uint64pow10", "math/bits.deBruijn32tab", "math/bits.deBruijn64tab"], apart := false, laid := [("math/bits.deBruijn32tab", laid_math_bits_deBruijn32tab), ("math/bits.deBruijn64tab", laid_math_bits_deBruijn64tab), ("internal/strconv.uint64pow10", laid_internal_strconv_uint64pow10)], narrowed := true }
def SplitterEquivalentUptoSaid : Prop := splitterEquivalentUptoRow.holds Tryz.pinned (OpenSpec.upto splitterEquivalentSpec)

/-- 'annalistlaw15.SetopUnion', WHERE WHAT IT READS IS OF BULK AT MOST 1048576: true; the input reads as it did. -/
def setopUnionUptoRow : OpenClaim := { program := "ytngigmpaabmngaagreatdoor", sum := "9e57e53503c067cac3fa0a85a23fc190cbb4a26fce003dbdbbc381341c9820e6", func := "annalist/annalistlaw15.SetopUnion", spec := "setopUnion", inPlace := ["internal/abi.NoEscape", "internal/bytealg.abigen_runtime_cmpstring"], unfollowed := true, recurses := true, named := ["internal/strconv.uint64pow10", "math/bits.deBruijn32tab", "math/bits.deBruijn64tab"], apart := false, laid := [("math/bits.deBruijn32tab", laid_math_bits_deBruijn32tab), ("math/bits.deBruijn64tab", laid_math_bits_deBruijn64tab), ("internal/strconv.uint64pow10", laid_internal_strconv_uint64pow10)], narrowed := true }
def SetopUnionUptoSaid : Prop := setopUnionUptoRow.holds Tryz.pinned (OpenSpec.upto setopUnionSpec)

/-- 'annalistlaw15.SetopDifference', WHERE WHAT IT READS IS OF BULK AT MOST 1048576: true; the input reads as it did. -/
def setopDifferenceUptoRow : OpenClaim := { program := "ytngigmpaabmngaagreatdoor", sum := "9e57e53503c067cac3fa0a85a23fc190cbb4a26fce003dbdbbc381341c9820e6", func := "annalist/annalistlaw15.SetopDifference", spec := "setopDifference", inPlace := ["internal/abi.NoEscape", "internal/bytealg.abigen_runtime_cmpstring"], unfollowed := true, recurses := true, named := ["internal/strconv.uint64pow10", "math/bits.deBruijn32tab", "math/bits.deBruijn64tab"], apart := false, laid := [("math/bits.deBruijn32tab", laid_math_bits_deBruijn32tab), ("math/bits.deBruijn64tab", laid_math_bits_deBruijn64tab), ("internal/strconv.uint64pow10", laid_internal_strconv_uint64pow10)], narrowed := true }
def SetopDifferenceUptoSaid : Prop := setopDifferenceUptoRow.holds Tryz.pinned (OpenSpec.upto setopDifferenceSpec)

/-- 'annalistlaw15.SetopOverlapping', WHERE WHAT IT READS IS OF BULK AT MOST 1048576: true; the input reads as it did. -/
def setopOverlappingUptoRow : OpenClaim := { program := "ytngigmpaabmngaagreatdoor", sum := "9e57e53503c067cac3fa0a85a23fc190cbb4a26fce003dbdbbc381341c9820e6", func := "annalist/annalistlaw15.SetopOverlapping", spec := "setopOverlapping", inPlace := ["internal/abi.NoEscape", "internal/bytealg.abigen_runtime_cmpstring"], unfollowed := true, recurses := true, named := ["internal/strconv.uint64pow10", "math/bits.deBruijn32tab", "math/bits.deBruijn64tab"], apart := false, laid := [("math/bits.deBruijn32tab", laid_math_bits_deBruijn32tab), ("math/bits.deBruijn64tab", laid_math_bits_deBruijn64tab), ("internal/strconv.uint64pow10", laid_internal_strconv_uint64pow10)], narrowed := true }
def SetopOverlappingUptoSaid : Prop := setopOverlappingUptoRow.holds Tryz.pinned (OpenSpec.upto setopOverlappingSpec)

/-- 'annalistlaw15.SetopBalance', WHERE WHAT IT READS IS OF BULK AT MOST 1048576: true; the input reads as it did. -/
def setopBalanceUptoRow : OpenClaim := { program := "ytngigmpaabmngaagreatdoor", sum := "9e57e53503c067cac3fa0a85a23fc190cbb4a26fce003dbdbbc381341c9820e6", func := "annalist/annalistlaw15.SetopBalance", spec := "setopBalance", inPlace := ["internal/bytealg.abigen_runtime_cmpstring", "internal/abi.NoEscape"], unfollowed := true, recurses := true, named := ["internal/strconv.uint64pow10", "math/bits.deBruijn32tab", "math/bits.deBruijn64tab"], apart := false, laid := [("math/bits.deBruijn32tab", laid_math_bits_deBruijn32tab), ("math/bits.deBruijn64tab", laid_math_bits_deBruijn64tab), ("internal/strconv.uint64pow10", laid_internal_strconv_uint64pow10)], narrowed := true }
def SetopBalanceUptoSaid : Prop := setopBalanceUptoRow.holds Tryz.pinned (OpenSpec.upto setopBalanceSpec)

/-- 'annalistlaw15.SetopDistinctOnce', WHERE WHAT IT READS IS OF BULK AT MOST 1048576: true; the input reads as it did. -/
def setopDistinctOnceUptoRow : OpenClaim := { program := "ytngigmpaabmngaagreatdoor", sum := "9e57e53503c067cac3fa0a85a23fc190cbb4a26fce003dbdbbc381341c9820e6", func := "annalist/annalistlaw15.SetopDistinctOnce", spec := "setopDistinctOnce", inPlace := ["internal/bytealg.abigen_runtime_cmpstring", "internal/abi.NoEscape"], unfollowed := true, recurses := true, named := ["internal/strconv.uint64pow10", "math/bits.deBruijn32tab", "math/bits.deBruijn64tab"], apart := false, laid := [("math/bits.deBruijn32tab", laid_math_bits_deBruijn32tab), ("math/bits.deBruijn64tab", laid_math_bits_deBruijn64tab), ("internal/strconv.uint64pow10", laid_internal_strconv_uint64pow10)], narrowed := true }
def SetopDistinctOnceUptoSaid : Prop := setopDistinctOnceUptoRow.holds Tryz.pinned (OpenSpec.upto setopDistinctOnceSpec)

/-- 'annalistlaw15.SetopSelf', WHERE WHAT IT READS IS OF BULK AT MOST 1048576: true; the input reads as it did. -/
def setopSelfUptoRow : OpenClaim := { program := "ytngigmpaabmngaagreatdoor", sum := "9e57e53503c067cac3fa0a85a23fc190cbb4a26fce003dbdbbc381341c9820e6", func := "annalist/annalistlaw15.SetopSelf", spec := "setopSelf", inPlace := ["internal/bytealg.abigen_runtime_cmpstring", "internal/abi.NoEscape"], unfollowed := true, recurses := true, named := ["internal/strconv.uint64pow10", "math/bits.deBruijn32tab", "math/bits.deBruijn64tab"], apart := false, laid := [("math/bits.deBruijn32tab", laid_math_bits_deBruijn32tab), ("math/bits.deBruijn64tab", laid_math_bits_deBruijn64tab), ("internal/strconv.uint64pow10", laid_internal_strconv_uint64pow10)], narrowed := true }
def SetopSelfUptoSaid : Prop := setopSelfUptoRow.holds Tryz.pinned (OpenSpec.upto setopSelfSpec)

/-- 'annalistlaw15.SetopSplits', WHERE WHAT IT READS IS OF BULK AT MOST 1048576: true; the input reads as it did. -/
def setopSplitsUptoRow : OpenClaim := { program := "ytngigmpaabmngaagreatdoor", sum := "9e57e53503c067cac3fa0a85a23fc190cbb4a26fce003dbdbbc381341c9820e6", func := "annalist/annalistlaw15.SetopSplits", spec := "setopSplits", inPlace := ["internal/abi.NoEscape", "internal/bytealg.abigen_runtime_cmpstring"], unfollowed := true, recurses := true, named := ["internal/strconv.uint64pow10", "math/bits.deBruijn32tab", "math/bits.deBruijn64tab"], apart := false, laid := [("math/bits.deBruijn32tab", laid_math_bits_deBruijn32tab), ("math/bits.deBruijn64tab", laid_math_bits_deBruijn64tab), ("internal/strconv.uint64pow10", laid_internal_strconv_uint64pow10)], narrowed := true }
def SetopSplitsUptoSaid : Prop := setopSplitsUptoRow.holds Tryz.pinned (OpenSpec.upto setopSplitsSpec)

end Rows
end Go.Proofs.YtngigmpaabmngaaGreatDoor
