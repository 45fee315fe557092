/-
  NARROWER THAN 'FOR EVERY INPUT', by the rows' own cells (each row's printed sentence says how): CoalesceDefinition: laid · CoalesceCounts: laid · TupleNormalize: laid · TuplePreserves: laid · TupleConstant: laid · TupleKeepsChanges: laid · TupleSlices: laid · TupleEquivalent: laid · TupleIdempotent: laid · TupleUnique: laid.
  DERIVED. THE GIVEN ROWS OF THIS SEAT. 10 by the template 'for every input the law returns true; each argument reads behind the call as it read before'; 0 by the template 'total and deterministic' (their statements: YtnfccpkmaebbiaaGreatDoorTotals.lean).
  GIVEN WITH THE SEED: the statements are not yours to turn. If you find one false, say at which input.
  Laid BY PROGRAM, IN A SANDBOX (cutbox-rows.mjs): the forced cells as the released guide's own fill.sh prints them over the translation 37b32e71e1b104aa… (all of the seat's roots in one cut). By AI agents, Wed Nov 11 2026. No macro, syntax, notation, axiom, sorry.
-/
import Derived.Test.YtnfccpkmaebbiaaGreatDoorChecked
import GoSem.Claim
import GoSem.ClaimJoined
import GoSem.ClaimMapViews
import Derived.JoinedTies
import Derived.KernelRfl
namespace Go.Proofs.YtnfccpkmaebbiaaGreatDoor
/- THE CELL 'sum', in the pinned program and in every row, IS THE sha256 OF THE DUMP (.gsa) THAT YtnfccpkmaebbiaaGreatDoorProg.lean LOADS. Nothing in Lean hashes anything: it is a label: what it is worth is what the hold of that sum in a sandbox is worth. -/
noncomputable def Tryz.pinned : Pinned := { name := "ytnfccpkmaebbiaagreatdoor", sum := "37b32e71e1b104aaddb8c77676f3307435b6d6d3127bb44766e57bd91202427d", checked := Tryz.checked }
namespace Rows
def none {H : Type} : Left H := { results := [], args := [] }

/- WHAT THE LISTED PACKAGE-LEVEL VARIABLES READ AS WHEN THE CALL BEGINS. Each datum BY PROGRAM (the guide's laid-datum.mjs) off the statement by which the dump's own 'gosem.cut.vars' lays the variable. In a bare row this is a premise. The card (YtnfccpkmaebbiaaGreatDoorCards.lean) ties it to the program's text. -/
def laid_math_bits_deBruijn32tab {H : Type} : DataW H := .agg [.lit (.int .u8 0), .lit (.int .u8 1), .lit (.int .u8 28), .lit (.int .u8 2), .lit (.int .u8 29), .lit (.int .u8 14), .lit (.int .u8 24), .lit (.int .u8 3), .lit (.int .u8 30), .lit (.int .u8 22), .lit (.int .u8 20), .lit (.int .u8 15), .lit (.int .u8 25), .lit (.int .u8 17), .lit (.int .u8 4), .lit (.int .u8 8), .lit (.int .u8 31), .lit (.int .u8 27), .lit (.int .u8 13), .lit (.int .u8 23), .lit (.int .u8 21), .lit (.int .u8 19), .lit (.int .u8 16), .lit (.int .u8 7), .lit (.int .u8 26), .lit (.int .u8 12), .lit (.int .u8 18), .lit (.int .u8 6), .lit (.int .u8 11), .lit (.int .u8 5), .lit (.int .u8 10), .lit (.int .u8 9)]
def laid_math_bits_deBruijn64tab {H : Type} : DataW H := .agg [.lit (.int .u8 0), .lit (.int .u8 1), .lit (.int .u8 56), .lit (.int .u8 2), .lit (.int .u8 57), .lit (.int .u8 49), .lit (.int .u8 28), .lit (.int .u8 3), .lit (.int .u8 61), .lit (.int .u8 58), .lit (.int .u8 42), .lit (.int .u8 50), .lit (.int .u8 38), .lit (.int .u8 29), .lit (.int .u8 17), .lit (.int .u8 4), .lit (.int .u8 62), .lit (.int .u8 47), .lit (.int .u8 59), .lit (.int .u8 36), .lit (.int .u8 45), .lit (.int .u8 43), .lit (.int .u8 51), .lit (.int .u8 22), .lit (.int .u8 53), .lit (.int .u8 39), .lit (.int .u8 33), .lit (.int .u8 30), .lit (.int .u8 24), .lit (.int .u8 18), .lit (.int .u8 12), .lit (.int .u8 5), .lit (.int .u8 63), .lit (.int .u8 55), .lit (.int .u8 48), .lit (.int .u8 27), .lit (.int .u8 60), .lit (.int .u8 41), .lit (.int .u8 37), .lit (.int .u8 16), .lit (.int .u8 46), .lit (.int .u8 35), .lit (.int .u8 44), .lit (.int .u8 21), .lit (.int .u8 52), .lit (.int .u8 32), .lit (.int .u8 23), .lit (.int .u8 11), .lit (.int .u8 54), .lit (.int .u8 26), .lit (.int .u8 40), .lit (.int .u8 15), .lit (.int .u8 34), .lit (.int .u8 20), .lit (.int .u8 31), .lit (.int .u8 10), .lit (.int .u8 25), .lit (.int .u8 14), .lit (.int .u8 19), .lit (.int .u8 9), .lit (.int .u8 13), .lit (.int .u8 8), .lit (.int .u8 7), .lit (.int .u8 6)]
def laid_internal_strconv_uint64pow10 {H : Type} : DataW H := .agg [.lit (.int .u64 1), .lit (.int .u64 10), .lit (.int .u64 100), .lit (.int .u64 1000), .lit (.int .u64 10000), .lit (.int .u64 100000), .lit (.int .u64 1000000), .lit (.int .u64 10000000), .lit (.int .u64 100000000), .lit (.int .u64 1000000000), .lit (.int .u64 10000000000), .lit (.int .u64 100000000000), .lit (.int .u64 1000000000000), .lit (.int .u64 10000000000000), .lit (.int .u64 100000000000000), .lit (.int .u64 1000000000000000), .lit (.int .u64 10000000000000000), .lit (.int .u64 100000000000000000), .lit (.int .u64 1000000000000000000), .lit (.int .u64 10000000000000000000)]

/-- 'annalistlaw11.CoalesceDefinition': WHATEVER THE INPUT: true; the input reads as it did. -/
def coalesceDefinitionSpec : ChangeSpec := { name := "coalesceDefinition", fn := fun _ => fun
  | [d] => { results := [.lit (.bool true)], args := [d] }
  | _ => none }
def coalesceDefinitionRow : OpenClaim := { program := "ytnfccpkmaebbiaagreatdoor", sum := "37b32e71e1b104aaddb8c77676f3307435b6d6d3127bb44766e57bd91202427d", func := "annalist/annalistlaw11.CoalesceDefinition", spec := "coalesceDefinition", inPlace := ["internal/abi.NoEscape", "internal/bytealg.abigen_runtime_cmpstring"], unfollowed := true, recurses := true, named := ["internal/strconv.uint64pow10", "math/bits.deBruijn32tab", "math/bits.deBruijn64tab"], apart := false, laid := [("math/bits.deBruijn32tab", laid_math_bits_deBruijn32tab), ("math/bits.deBruijn64tab", laid_math_bits_deBruijn64tab), ("internal/strconv.uint64pow10", laid_internal_strconv_uint64pow10)] }
def CoalesceDefinitionSaid : Prop := coalesceDefinitionRow.holds Tryz.pinned (OpenSpec.ofChange coalesceDefinitionSpec)

/-- ITS FALSE NEIGHBOUR: 'it returns false'. Refute it at one input. -/
def coalesceDefinitionWrong : ChangeSpec := { name := "coalesceDefinition", fn := fun _ => fun
  | [d] => { results := [.lit (.bool false)], args := [d] }
  | _ => none }
def CoalesceDefinitionWrongFalsely : Prop := coalesceDefinitionRow.holds Tryz.pinned (OpenSpec.ofChange coalesceDefinitionWrong)

/-- 'annalistlaw11.CoalesceCounts': WHATEVER THE INPUT: true; the input reads as it did. -/
def coalesceCountsSpec : ChangeSpec := { name := "coalesceCounts", fn := fun _ => fun
  | [d1, d2] => { results := [.lit (.bool true)], args := [d1, d2] }
  | _ => none }
def coalesceCountsRow : OpenClaim := { program := "ytnfccpkmaebbiaagreatdoor", sum := "37b32e71e1b104aaddb8c77676f3307435b6d6d3127bb44766e57bd91202427d", func := "annalist/annalistlaw11.CoalesceCounts", spec := "coalesceCounts", inPlace := ["internal/bytealg.abigen_runtime_cmpstring", "internal/abi.NoEscape"], unfollowed := true, recurses := true, named := ["internal/strconv.uint64pow10", "math/bits.deBruijn32tab", "math/bits.deBruijn64tab"], apart := false, laid := [("math/bits.deBruijn32tab", laid_math_bits_deBruijn32tab), ("math/bits.deBruijn64tab", laid_math_bits_deBruijn64tab), ("internal/strconv.uint64pow10", laid_internal_strconv_uint64pow10)] }
def CoalesceCountsSaid : Prop := coalesceCountsRow.holds Tryz.pinned (OpenSpec.ofChange coalesceCountsSpec)

/-- ITS FALSE NEIGHBOUR: 'it returns false'. Refute it at one input. -/
def coalesceCountsWrong : ChangeSpec := { name := "coalesceCounts", fn := fun _ => fun
  | [d1, d2] => { results := [.lit (.bool false)], args := [d1, d2] }
  | _ => none }
def CoalesceCountsWrongFalsely : Prop := coalesceCountsRow.holds Tryz.pinned (OpenSpec.ofChange coalesceCountsWrong)

/-- 'annalistlaw10.TupleNormalize': WHATEVER THE INPUT: true; the input reads as it did. -/
def tupleNormalizeSpec : ChangeSpec := { name := "tupleNormalize", fn := fun _ => fun
  | [d] => { results := [.lit (.bool true)], args := [d] }
  | _ => none }
def tupleNormalizeRow : OpenClaim := { program := "ytnfccpkmaebbiaagreatdoor", sum := "37b32e71e1b104aaddb8c77676f3307435b6d6d3127bb44766e57bd91202427d", func := "annalist/annalistlaw10.TupleNormalize", spec := "tupleNormalize", inPlace := ["internal/abi.NoEscape", "internal/bytealg.abigen_runtime_cmpstring"], unfollowed := true, recurses := true, named := ["internal/strconv.uint64pow10", "math/bits.deBruijn32tab", "math/bits.deBruijn64tab"], apart := false, laid := [("math/bits.deBruijn32tab", laid_math_bits_deBruijn32tab), ("math/bits.deBruijn64tab", laid_math_bits_deBruijn64tab), ("internal/strconv.uint64pow10", laid_internal_strconv_uint64pow10)] }
def TupleNormalizeSaid : Prop := tupleNormalizeRow.holds Tryz.pinned (OpenSpec.ofChange tupleNormalizeSpec)

/-- ITS FALSE NEIGHBOUR: 'it returns false'. Refute it at one input. -/
def tupleNormalizeWrong : ChangeSpec := { name := "tupleNormalize", fn := fun _ => fun
  | [d] => { results := [.lit (.bool false)], args := [d] }
  | _ => none }
def TupleNormalizeWrongFalsely : Prop := tupleNormalizeRow.holds Tryz.pinned (OpenSpec.ofChange tupleNormalizeWrong)

/-- 'annalistlaw10.TuplePreserves': WHATEVER THE INPUT: true; the input reads as it did. -/
def tuplePreservesSpec : ChangeSpec := { name := "tuplePreserves", fn := fun _ => fun
  | [d1, d2] => { results := [.lit (.bool true)], args := [d1, d2] }
  | _ => none }
def tuplePreservesRow : OpenClaim := { program := "ytnfccpkmaebbiaagreatdoor", sum := "37b32e71e1b104aaddb8c77676f3307435b6d6d3127bb44766e57bd91202427d", func := "annalist/annalistlaw10.TuplePreserves", spec := "tuplePreserves", inPlace := ["internal/abi.NoEscape", "internal/bytealg.abigen_runtime_cmpstring"], unfollowed := true, recurses := true, named := ["internal/strconv.uint64pow10", "math/bits.deBruijn32tab", "math/bits.deBruijn64tab"], apart := false, laid := [("math/bits.deBruijn32tab", laid_math_bits_deBruijn32tab), ("math/bits.deBruijn64tab", laid_math_bits_deBruijn64tab), ("internal/strconv.uint64pow10", laid_internal_strconv_uint64pow10)] }
def TuplePreservesSaid : Prop := tuplePreservesRow.holds Tryz.pinned (OpenSpec.ofChange tuplePreservesSpec)

/-- ITS FALSE NEIGHBOUR: 'it returns false'. Refute it at one input. -/
def tuplePreservesWrong : ChangeSpec := { name := "tuplePreserves", fn := fun _ => fun
  | [d1, d2] => { results := [.lit (.bool false)], args := [d1, d2] }
  | _ => none }
def TuplePreservesWrongFalsely : Prop := tuplePreservesRow.holds Tryz.pinned (OpenSpec.ofChange tuplePreservesWrong)

/-- 'annalistlaw10.TupleConstant': WHATEVER THE INPUT: true; the input reads as it did. -/
def tupleConstantSpec : ChangeSpec := { name := "tupleConstant", fn := fun _ => fun
  | [d1, d2] => { results := [.lit (.bool true)], args := [d1, d2] }
  | _ => none }
def tupleConstantRow : OpenClaim := { program := "ytnfccpkmaebbiaagreatdoor", sum := "37b32e71e1b104aaddb8c77676f3307435b6d6d3127bb44766e57bd91202427d", func := "annalist/annalistlaw10.TupleConstant", spec := "tupleConstant", inPlace := ["internal/bytealg.abigen_runtime_cmpstring", "internal/abi.NoEscape"], unfollowed := true, recurses := true, named := ["internal/strconv.uint64pow10", "math/bits.deBruijn32tab", "math/bits.deBruijn64tab"], apart := false, laid := [("math/bits.deBruijn32tab", laid_math_bits_deBruijn32tab), ("math/bits.deBruijn64tab", laid_math_bits_deBruijn64tab), ("internal/strconv.uint64pow10", laid_internal_strconv_uint64pow10)] }
def TupleConstantSaid : Prop := tupleConstantRow.holds Tryz.pinned (OpenSpec.ofChange tupleConstantSpec)

/-- ITS FALSE NEIGHBOUR: 'it returns false'. Refute it at one input. -/
def tupleConstantWrong : ChangeSpec := { name := "tupleConstant", fn := fun _ => fun
  | [d1, d2] => { results := [.lit (.bool false)], args := [d1, d2] }
  | _ => none }
def TupleConstantWrongFalsely : Prop := tupleConstantRow.holds Tryz.pinned (OpenSpec.ofChange tupleConstantWrong)

/-- 'annalistlaw10.TupleKeepsChanges': WHATEVER THE INPUT: true; the input reads as it did. -/
def tupleKeepsChangesSpec : ChangeSpec := { name := "tupleKeepsChanges", fn := fun _ => fun
  | [d1, d2, d3] => { results := [.lit (.bool true)], args := [d1, d2, d3] }
  | _ => none }
def tupleKeepsChangesRow : OpenClaim := { program := "ytnfccpkmaebbiaagreatdoor", sum := "37b32e71e1b104aaddb8c77676f3307435b6d6d3127bb44766e57bd91202427d", func := "annalist/annalistlaw10.TupleKeepsChanges", spec := "tupleKeepsChanges", inPlace := ["internal/abi.NoEscape", "internal/bytealg.abigen_runtime_cmpstring"], unfollowed := true, recurses := true, named := ["internal/strconv.uint64pow10", "math/bits.deBruijn32tab", "math/bits.deBruijn64tab"], apart := false, laid := [("math/bits.deBruijn32tab", laid_math_bits_deBruijn32tab), ("math/bits.deBruijn64tab", laid_math_bits_deBruijn64tab), ("internal/strconv.uint64pow10", laid_internal_strconv_uint64pow10)] }
def TupleKeepsChangesSaid : Prop := tupleKeepsChangesRow.holds Tryz.pinned (OpenSpec.ofChange tupleKeepsChangesSpec)

/-- ITS FALSE NEIGHBOUR: 'it returns false'. Refute it at one input. -/
def tupleKeepsChangesWrong : ChangeSpec := { name := "tupleKeepsChanges", fn := fun _ => fun
  | [d1, d2, d3] => { results := [.lit (.bool false)], args := [d1, d2, d3] }
  | _ => none }
def TupleKeepsChangesWrongFalsely : Prop := tupleKeepsChangesRow.holds Tryz.pinned (OpenSpec.ofChange tupleKeepsChangesWrong)

/-- 'annalistlaw10.TupleSlices': WHATEVER THE INPUT: true; the input reads as it did. -/
def tupleSlicesSpec : ChangeSpec := { name := "tupleSlices", fn := fun _ => fun
  | [d1, d2, d3] => { results := [.lit (.bool true)], args := [d1, d2, d3] }
  | _ => none }
def tupleSlicesRow : OpenClaim := { program := "ytnfccpkmaebbiaagreatdoor", sum := "37b32e71e1b104aaddb8c77676f3307435b6d6d3127bb44766e57bd91202427d", func := "annalist/annalistlaw10.TupleSlices", spec := "tupleSlices", inPlace := ["internal/abi.NoEscape", "internal/bytealg.abigen_runtime_cmpstring"], unfollowed := true, recurses := true, named := ["internal/strconv.uint64pow10", "math/bits.deBruijn32tab", "math/bits.deBruijn64tab"], apart := false, laid := [("math/bits.deBruijn32tab", laid_math_bits_deBruijn32tab), ("math/bits.deBruijn64tab", laid_math_bits_deBruijn64tab), ("internal/strconv.uint64pow10", laid_internal_strconv_uint64pow10)] }
def TupleSlicesSaid : Prop := tupleSlicesRow.holds Tryz.pinned (OpenSpec.ofChange tupleSlicesSpec)

/-- ITS FALSE NEIGHBOUR: 'it returns false'. Refute it at one input. -/
def tupleSlicesWrong : ChangeSpec := { name := "tupleSlices", fn := fun _ => fun
  | [d1, d2, d3] => { results := [.lit (.bool false)], args := [d1, d2, d3] }
  | _ => none }
def TupleSlicesWrongFalsely : Prop := tupleSlicesRow.holds Tryz.pinned (OpenSpec.ofChange tupleSlicesWrong)

/-- 'annalistlaw10.TupleEquivalent': WHATEVER THE INPUT: true; the input reads as it did. -/
def tupleEquivalentSpec : ChangeSpec := { name := "tupleEquivalent", fn := fun _ => fun
  | [d1, d2] => { results := [.lit (.bool true)], args := [d1, d2] }
  | _ => none }
def tupleEquivalentRow : OpenClaim := { program := "ytnfccpkmaebbiaagreatdoor", sum := "37b32e71e1b104aaddb8c77676f3307435b6d6d3127bb44766e57bd91202427d", func := "annalist/annalistlaw10.TupleEquivalent", spec := "tupleEquivalent", inPlace := ["internal/abi.NoEscape", "internal/bytealg.abigen_runtime_cmpstring"], unfollowed := true, recurses := true, named := ["internal/strconv.uint64pow10", "math/bits.deBruijn32tab", "math/bits.deBruijn64tab"], apart := false, laid := [("math/bits.deBruijn32tab", laid_math_bits_deBruijn32tab), ("math/bits.deBruijn64tab", laid_math_bits_deBruijn64tab), ("internal/strconv.uint64pow10", laid_internal_strconv_uint64pow10)] }
def TupleEquivalentSaid : Prop := tupleEquivalentRow.holds Tryz.pinned (OpenSpec.ofChange tupleEquivalentSpec)

/-- ITS FALSE NEIGHBOUR: 'it returns false'. Refute it at one input. -/
def tupleEquivalentWrong : ChangeSpec := { name := "tupleEquivalent", fn := fun _ => fun
  | [d1, d2] => { results := [.lit (.bool false)], args := [d1, d2] }
  | _ => none }
def TupleEquivalentWrongFalsely : Prop := tupleEquivalentRow.holds Tryz.pinned (OpenSpec.ofChange tupleEquivalentWrong)

/-- 'annalistlaw10.TupleIdempotent': WHATEVER THE INPUT: true; the input reads as it did. -/
def tupleIdempotentSpec : ChangeSpec := { name := "tupleIdempotent", fn := fun _ => fun
  | [d1, d2] => { results := [.lit (.bool true)], args := [d1, d2] }
  | _ => none }
def tupleIdempotentRow : OpenClaim := { program := "ytnfccpkmaebbiaagreatdoor", sum := "37b32e71e1b104aaddb8c77676f3307435b6d6d3127bb44766e57bd91202427d", func := "annalist/annalistlaw10.TupleIdempotent", spec := "tupleIdempotent", inPlace := ["internal/abi.NoEscape", "internal/bytealg.abigen_runtime_cmpstring"], unfollowed := true, recurses := true, named := ["internal/strconv.uint64pow10", "math/bits.deBruijn32tab", "math/bits.deBruijn64tab"], apart := false, laid := [("math/bits.deBruijn32tab", laid_math_bits_deBruijn32tab), ("math/bits.deBruijn64tab", laid_math_bits_deBruijn64tab), ("internal/strconv.uint64pow10", laid_internal_strconv_uint64pow10)] }
def TupleIdempotentSaid : Prop := tupleIdempotentRow.holds Tryz.pinned (OpenSpec.ofChange tupleIdempotentSpec)

/-- ITS FALSE NEIGHBOUR: 'it returns false'. Refute it at one input. -/
def tupleIdempotentWrong : ChangeSpec := { name := "tupleIdempotent", fn := fun _ => fun
  | [d1, d2] => { results := [.lit (.bool false)], args := [d1, d2] }
  | _ => none }
def TupleIdempotentWrongFalsely : Prop := tupleIdempotentRow.holds Tryz.pinned (OpenSpec.ofChange tupleIdempotentWrong)

/-- 'annalistlaw10.TupleUnique': WHATEVER THE INPUT: true; the input reads as it did. -/
def tupleUniqueSpec : ChangeSpec := { name := "tupleUnique", fn := fun _ => fun
  | [d1, d2] => { results := [.lit (.bool true)], args := [d1, d2] }
  | _ => none }
def tupleUniqueRow : OpenClaim := { program := "ytnfccpkmaebbiaagreatdoor", sum := "37b32e71e1b104aaddb8c77676f3307435b6d6d3127bb44766e57bd91202427d", func := "annalist/annalistlaw10.TupleUnique", spec := "tupleUnique", inPlace := ["internal/bytealg.abigen_runtime_cmpstring", "internal/abi.NoEscape"], unfollowed := true, recurses := true, named := ["internal/strconv.uint64pow10", "math/bits.deBruijn32tab", "math/bits.deBruijn64tab"], apart := false, laid := [("math/bits.deBruijn32tab", laid_math_bits_deBruijn32tab), ("math/bits.deBruijn64tab", laid_math_bits_deBruijn64tab), ("internal/strconv.uint64pow10", laid_internal_strconv_uint64pow10)] }
def TupleUniqueSaid : Prop := tupleUniqueRow.holds Tryz.pinned (OpenSpec.ofChange tupleUniqueSpec)

/-- ITS FALSE NEIGHBOUR: 'it returns false'. Refute it at one input. -/
def tupleUniqueWrong : ChangeSpec := { name := "tupleUnique", fn := fun _ => fun
  | [d1, d2] => { results := [.lit (.bool false)], args := [d1, d2] }
  | _ => none }
def TupleUniqueWrongFalsely : Prop := tupleUniqueRow.holds Tryz.pinned (OpenSpec.ofChange tupleUniqueWrong)

/- THE SECOND FORM. 'bulk': how many values and letters a reading holds, each counted each time it is reached (what is shared counts as often as it is met; a slice's spare places count too). A statement '..UptoSaid' is the law's where the arguments, and the package variables that the reading takes, are together of bulk at most 1048576: NARROWER than '..Said'. Prove '..Said' where nothing that the law and all that it calls make is longer than what came in: it says more and counts as full. Else prove '..UptoSaid'. A law counts once. -/
mutual
def uptoBulk {H : Type} : DataW H → Nat
  | .lit (.string bytes) => bytes.length + 1
  | .lit _ => 1
  | .nil => 1
  | .ptr d => uptoBulk d + 1
  | .slice elems spare => uptoBulkAll elems + uptoBulkAll spare + 1
  | .agg parts => uptoBulkAll parts + 1
  | .iface _ d => uptoBulk d + 1
  | .map entries => uptoBulkEntries entries + 1
  | .held _ => 1
def uptoBulkAll {H : Type} : List (DataW H) → Nat
  | [] => 0
  | d :: r => uptoBulk d + uptoBulkAll r
def uptoBulkEntries {H : Type} : List (Lit × DataW H) → Nat
  | [] => 0
  | x :: r => uptoBulkEntry x + uptoBulkEntries r
def uptoBulkEntry {H : Type} : Lit × DataW H → Nat
  | (.string bytes, d) => bytes.length + uptoBulk d + 1
  | (_, d) => uptoBulk d + 1
 end
def uptoSmall : (H : Type) → List (DataW H) → Bool := fun _ ds => decide (uptoBulkAll ds ≤ 1048576)
def OpenSpec.upto (s : _root_.Go.ChangeSpec) : _root_.Go.OpenSpec := { _root_.Go.OpenSpec.ofChange s with cond := some uptoSmall }

/-- 'annalistlaw11.CoalesceDefinition', WHERE WHAT IT READS IS OF BULK AT MOST 1048576: true; the input reads as it did. -/
def coalesceDefinitionUptoRow : OpenClaim := { program := "ytnfccpkmaebbiaagreatdoor", sum := "37b32e71e1b104aaddb8c77676f3307435b6d6d3127bb44766e57bd91202427d", func := "annalist/annalistlaw11.CoalesceDefinition", spec := "coalesceDefinition", inPlace := ["internal/abi.NoEscape", "internal/bytealg.abigen_runtime_cmpstring"], unfollowed := true, recurses := true, named := ["internal/strconv.uint64pow10", "math/bits.deBruijn32tab", "math/bits.deBruijn64tab"], apart := false, laid := [("math/bits.deBruijn32tab", laid_math_bits_deBruijn32tab), ("math/bits.deBruijn64tab", laid_math_bits_deBruijn64tab), ("internal/strconv.uint64pow10", laid_internal_strconv_uint64pow10)], narrowed := true }
def CoalesceDefinitionUptoSaid : Prop := coalesceDefinitionUptoRow.holds Tryz.pinned (OpenSpec.upto coalesceDefinitionSpec)

/-- 'annalistlaw11.CoalesceCounts', WHERE WHAT IT READS IS OF BULK AT MOST 1048576: true; the input reads as it did. -/
def coalesceCountsUptoRow : OpenClaim := { program := "ytnfccpkmaebbiaagreatdoor", sum := "37b32e71e1b104aaddb8c77676f3307435b6d6d3127bb44766e57bd91202427d", func := "annalist/annalistlaw11.CoalesceCounts", spec := "coalesceCounts", inPlace := ["internal/bytealg.abigen_runtime_cmpstring", "internal/abi.NoEscape"], unfollowed := true, recurses := true, named := ["internal/strconv.uint64pow10", "math/bits.deBruijn32tab", "math/bits.deBruijn64tab"], apart := false, laid := [("math/bits.deBruijn32tab", laid_math_bits_deBruijn32tab), ("math/bits.deBruijn64tab", laid_math_bits_deBruijn64tab), ("internal/strconv.uint64pow10", laid_internal_strconv_uint64pow10)], narrowed := true }
def CoalesceCountsUptoSaid : Prop := coalesceCountsUptoRow.holds Tryz.pinned (OpenSpec.upto coalesceCountsSpec)

/-- 'annalistlaw10.TupleNormalize', WHERE WHAT IT READS IS OF BULK AT MOST 1048576: true; the input reads as it did. -/
def tupleNormalizeUptoRow : OpenClaim := { program := "ytnfccpkmaebbiaagreatdoor", sum := "37b32e71e1b104aaddb8c77676f3307435b6d6d3127bb44766e57bd91202427d", func := "annalist/annalistlaw10.TupleNormalize", spec := "tupleNormalize", inPlace := ["internal/abi.NoEscape", "internal/bytealg.abigen_runtime_cmpstring"], unfollowed := true, recurses := true, named := ["internal/strconv.uint64pow10", "math/bits.deBruijn32tab", "math/bits.deBruijn64tab"], apart := false, laid := [("math/bits.deBruijn32tab", laid_math_bits_deBruijn32tab), ("math/bits.deBruijn64tab", laid_math_bits_deBruijn64tab), ("internal/strconv.uint64pow10", laid_internal_strconv_uint64pow10)], narrowed := true }
def TupleNormalizeUptoSaid : Prop := tupleNormalizeUptoRow.holds Tryz.pinned (OpenSpec.upto tupleNormalizeSpec)

/-- 'annalistlaw10.TuplePreserves', WHERE WHAT IT READS IS OF BULK AT MOST 1048576: true; the input reads as it did. -/
def tuplePreservesUptoRow : OpenClaim := { program := "ytnfccpkmaebbiaagreatdoor", sum := "37b32e71e1b104aaddb8c77676f3307435b6d6d3127bb44766e57bd91202427d", func := "annalist/annalistlaw10.TuplePreserves", spec := "tuplePreserves", inPlace := ["internal/abi.NoEscape", "internal/bytealg.abigen_runtime_cmpstring"], unfollowed := true, recurses := true, named := ["internal/strconv.uint64pow10", "math/bits.deBruijn32tab", "math/bits.deBruijn64tab"], apart := false, laid := [("math/bits.deBruijn32tab", laid_math_bits_deBruijn32tab), ("math/bits.deBruijn64tab", laid_math_bits_deBruijn64tab), ("internal/strconv.uint64pow10", laid_internal_strconv_uint64pow10)], narrowed := true }
def TuplePreservesUptoSaid : Prop := tuplePreservesUptoRow.holds Tryz.pinned (OpenSpec.upto tuplePreservesSpec)

/-- 'annalistlaw10.TupleConstant', WHERE WHAT IT READS IS OF BULK AT MOST 1048576: true; the input reads as it did. -/
def tupleConstantUptoRow : OpenClaim := { program := "ytnfccpkmaebbiaagreatdoor", sum := "37b32e71e1b104aaddb8c77676f3307435b6d6d3127bb44766e57bd91202427d", func := "annalist/annalistlaw10.TupleConstant", spec := "tupleConstant", inPlace := ["internal/bytealg.abigen_runtime_cmpstring", "internal/abi.NoEscape"], unfollowed := true, recurses := true, named := ["internal/strconv.uint64pow10", "math/bits.deBruijn32tab", "math/bits.deBruijn64tab"], apart := false, laid := [("math/bits.deBruijn32tab", laid_math_bits_deBruijn32tab), ("math/bits.deBruijn64tab", laid_math_bits_deBruijn64tab), ("internal/strconv.uint64pow10", laid_internal_strconv_uint64pow10)], narrowed := true }
def TupleConstantUptoSaid : Prop := tupleConstantUptoRow.holds Tryz.pinned (OpenSpec.upto tupleConstantSpec)

/-- 'annalistlaw10.TupleKeepsChanges', WHERE WHAT IT READS IS OF BULK AT MOST 1048576: true; the input reads as it did. -/
def tupleKeepsChangesUptoRow : OpenClaim := { program := "ytnfccpkmaebbiaagreatdoor", sum := "37b32e71e1b104aaddb8c77676f3307435b6d6d3127bb44766e57bd91202427d", func := "annalist/annalistlaw10.TupleKeepsChanges", spec := "tupleKeepsChanges", inPlace := ["internal/abi.NoEscape", "internal/bytealg.abigen_runtime_cmpstring"], unfollowed := true, recurses := true, named := ["internal/strconv.uint64pow10", "math/bits.deBruijn32tab", "math/bits.deBruijn64tab"], apart := false, laid := [("math/bits.deBruijn32tab", laid_math_bits_deBruijn32tab), ("math/bits.deBruijn64tab", laid_math_bits_deBruijn64tab), ("internal/strconv.uint64pow10", laid_internal_strconv_uint64pow10)], narrowed := true }
def TupleKeepsChangesUptoSaid : Prop := tupleKeepsChangesUptoRow.holds Tryz.pinned (OpenSpec.upto tupleKeepsChangesSpec)

/-- 'annalistlaw10.TupleSlices', WHERE WHAT IT READS IS OF BULK AT MOST 1048576: true; the input reads as it did. -/
def tupleSlicesUptoRow : OpenClaim := { program := "ytnfccpkmaebbiaagreatdoor", sum := "37b32e71e1b104aaddb8c77676f3307435b6d6d3127bb44766e57bd91202427d", func := "annalist/annalistlaw10.TupleSlices", spec := "tupleSlices", inPlace := ["internal/abi.NoEscape", "internal/bytealg.abigen_runtime_cmpstring"], unfollowed := true, recurses := true, named := ["internal/strconv.uint64pow10", "math/bits.deBruijn32tab", "math/bits.deBruijn64tab"], apart := false, laid := [("math/bits.deBruijn32tab", laid_math_bits_deBruijn32tab), ("math/bits.deBruijn64tab", laid_math_bits_deBruijn64tab), ("internal/strconv.uint64pow10", laid_internal_strconv_uint64pow10)], narrowed := true }
def TupleSlicesUptoSaid : Prop := tupleSlicesUptoRow.holds Tryz.pinned (OpenSpec.upto tupleSlicesSpec)

/-- 'annalistlaw10.TupleEquivalent', WHERE WHAT IT READS IS OF BULK AT MOST 1048576: true; the input reads as it did. -/
def tupleEquivalentUptoRow : OpenClaim := { program := "ytnfccpkmaebbiaagreatdoor", sum := "37b32e71e1b104aaddb8c77676f3307435b6d6d3127bb44766e57bd91202427d", func := "annalist/annalistlaw10.TupleEquivalent", spec := "tupleEquivalent", inPlace := ["internal/abi.NoEscape", "internal/bytealg.abigen_runtime_cmpstring"], unfollowed := true, recurses := true, named := ["internal/strconv.uint64pow10", "math/bits.deBruijn32tab", "math/bits.deBruijn64tab"], apart := false, laid := [("math/bits.deBruijn32tab", laid_math_bits_deBruijn32tab), ("math/bits.deBruijn64tab", laid_math_bits_deBruijn64tab), ("internal/strconv.uint64pow10", laid_internal_strconv_uint64pow10)], narrowed := true }
def TupleEquivalentUptoSaid : Prop := tupleEquivalentUptoRow.holds Tryz.pinned (OpenSpec.upto tupleEquivalentSpec)

/-- 'annalistlaw10.TupleIdempotent', WHERE WHAT IT READS IS OF BULK AT MOST 1048576: true; the input reads as it did. -/
def tupleIdempotentUptoRow : OpenClaim := { program := "ytnfccpkmaebbiaagreatdoor", sum := "37b32e71e1b104aaddb8c77676f3307435b6d6d3127bb44766e57bd91202427d", func := "annalist/annalistlaw10.TupleIdempotent", spec := "tupleIdempotent", inPlace := ["internal/abi.NoEscape", "internal/bytealg.abigen_runtime_cmpstring"], unfollowed := true, recurses := true, named := ["internal/strconv.uint64pow10", "math/bits.deBruijn32tab", "math/bits.deBruijn64tab"], apart := false, laid := [("math/bits.deBruijn32tab", laid_math_bits_deBruijn32tab), ("math/bits.deBruijn64tab", laid_math_bits_deBruijn64tab), ("internal/strconv.uint64pow10", laid_internal_strconv_uint64pow10)], narrowed := true }
def TupleIdempotentUptoSaid : Prop := tupleIdempotentUptoRow.holds Tryz.pinned (OpenSpec.upto tupleIdempotentSpec)

/-- 'annalistlaw10.TupleUnique', WHERE WHAT IT READS IS OF BULK AT MOST 1048576: true; the input reads as it did. -/
def tupleUniqueUptoRow : OpenClaim := { program := "ytnfccpkmaebbiaagreatdoor", sum := "37b32e71e1b104aaddb8c77676f3307435b6d6d3127bb44766e57bd91202427d", func := "annalist/annalistlaw10.TupleUnique", spec := "tupleUnique", inPlace := ["internal/bytealg.abigen_runtime_cmpstring", "internal/abi.NoEscape"], unfollowed := true, recurses := true, named := ["internal/strconv.uint64pow10", "math/bits.deBruijn32tab", "math/bits.deBruijn64tab"], apart := false, laid := [("math/bits.deBruijn32tab", laid_math_bits_deBruijn32tab), ("math/bits.deBruijn64tab", laid_math_bits_deBruijn64tab), ("internal/strconv.uint64pow10", laid_internal_strconv_uint64pow10)], narrowed := true }
def TupleUniqueUptoSaid : Prop := tupleUniqueUptoRow.holds Tryz.pinned (OpenSpec.upto tupleUniqueSpec)

end Rows
end Go.Proofs.YtnfccpkmaebbiaaGreatDoor
