/- Numbers of 64 bits. Of no program. No condition. -/
import Derived.Test.YthjgnpicnpfmjaaDoorBase
import Derived.IntWalk
namespace Go.Proofs.YthjgnpicnpfmjaaDoor
open Go.RowKit

def In64 (x : Int) : Prop := -9223372036854775808 ≤ x ∧ x ≤ 9223372036854775807
instance (x : Int) : Decidable (In64 x) := inferInstanceAs (Decidable (_ ∧ _))
theorem u64_mod (n : Int) : IntKind.u64.wrap n = n % 18446744073709551616 := by
  simp [IntKind.wrap, IntKind.bits, IntKind.signed]
theorem u64_neg {a : Int} (h : In64 a) (hn : a < 0) : IntKind.u64.wrap (-IntKind.u64.wrap a) = (a.natAbs : Int) := by
  rw [u64_mod, u64_mod]
  unfold In64 at h
  omega
theorem u64_pos {a : Int} (h : In64 a) (hn : 0 ≤ a) : a = (a.natAbs : Int) := by omega
theorem i64_neg {lo : Int} (h : 0 ≤ lo ∧ lo ≤ 9223372036854775808) : IntKind.i64.wrap (-IntKind.i64.wrap lo) = -lo := by
  rw [IntKind.wrap_i64, IntKind.wrap_i64]; omega
theorem i64_pos {lo : Int} (h : 0 ≤ lo ∧ lo ≤ 9223372036854775807) : IntKind.i64.wrap lo = lo := IntWalk.i64_in _ (by omega)
theorem natAbs_lt {a : Int} (h : In64 a) : a.natAbs < 18446744073709551616 := by unfold In64 at h; omega
theorem mul_abs (a b : Int) : a * b = (a.natAbs * b.natAbs : Nat) ∨ a * b = -((a.natAbs * b.natAbs : Nat) : Int) := by
  have := Int.natAbs_mul a b
  omega
theorem mul_abs_same {a b : Int} (h : (a < 0) = (b < 0)) : a * b = (a.natAbs * b.natAbs : Nat) := by
  by_cases ha : a < 0
  · have hb : b < 0 := by rw [← h]; exact ha
    have h1 : a = -(a.natAbs : Int) := by omega
    have h2 : b = -(b.natAbs : Int) := by omega
    rw [h1, h2, Int.neg_mul_neg]
    simp
  · have hb : ¬ b < 0 := by rw [← h]; exact ha
    have h1 : a = (a.natAbs : Int) := by omega
    have h2 : b = (b.natAbs : Int) := by omega
    rw [h1, h2]
    simp
theorem mul_abs_diff {a b : Int} (h : (a < 0) ≠ (b < 0)) : a * b = -((a.natAbs * b.natAbs : Nat) : Int) := by
  by_cases ha : a < 0
  · have hb : ¬ b < 0 := fun hb => h (by simp [ha, hb])
    have h1 : a = -(a.natAbs : Int) := by omega
    have h2 : b = (b.natAbs : Int) := by omega
    rw [h1, h2, Int.neg_mul]
    simp
  · have hb : b < 0 := Classical.byContradiction fun hb => h (by simp [ha, hb])
    have h1 : a = (a.natAbs : Int) := by omega
    have h2 : b = -(b.natAbs : Int) := by omega
    rw [h1, h2, Int.mul_neg]
    simp
/-- The two halves of a product tell whether it fits. -/
theorem halves_same {p hi lo : Nat} {m : Int} (hh : hi = p / 18446744073709551616) (hl : lo = p % 18446744073709551616) (hm : m = p) : (hi = 0 ∧ lo ≤ 9223372036854775807) ↔ In64 m := by
  unfold In64; omega
theorem halves_diff {p hi lo : Nat} {m : Int} (hh : hi = p / 18446744073709551616) (hl : lo = p % 18446744073709551616) (hm : m = -(p : Int)) : (hi = 0 ∧ lo ≤ 9223372036854775808) ↔ In64 m := by
  unfold In64; omega
theorem close_same {p hi lo : Nat} {m : Int} (hh : hi = p / 18446744073709551616) (hl : lo = p % 18446744073709551616) (hm : m = p) (h0 : hi = 0) :
    decide ((lo : Int) ≤ 9223372036854775807) = decide (In64 m) ∧ (decide ((lo : Int) ≤ 9223372036854775807) = true → wrap64 (lo : Int) = m) := by
  refine ⟨?_, fun h => ?_⟩
  · rw [decide_eq_decide]; unfold In64; omega
  · have h' : (lo : Int) ≤ 9223372036854775807 := by simpa using h
    rw [IntWalk.wrap64_in _ ⟨by omega, by omega⟩]; omega
theorem close_diff {p hi lo : Nat} {m : Int} (hh : hi = p / 18446744073709551616) (hl : lo = p % 18446744073709551616) (hm : m = -(p : Int)) (h0 : hi = 0) :
    decide ((lo : Int) ≤ 9223372036854775808) = decide (In64 m) ∧ (decide ((lo : Int) ≤ 9223372036854775808) = true → wrap64 (-wrap64 (lo : Int)) = m) := by
  refine ⟨?_, fun h => ?_⟩
  · rw [decide_eq_decide]; unfold In64; omega
  · have h' : (lo : Int) ≤ 9223372036854775808 := by simpa using h
    have := i64_neg (lo := (lo : Int)) ⟨by omega, h'⟩
    have e : ∀ n, wrap64 n = IntKind.i64.wrap n := fun n => by rw [IntKind.wrap_i64]; unfold wrap64; rfl
    rw [e, e, this]; omega
theorem close_no_same {p hi lo : Nat} {m : Int} (hh : hi = p / 18446744073709551616) (hl : lo = p % 18446744073709551616) (hm : m = p) (h0 : ¬ hi = 0) : false = decide (In64 m) := by
  rw [eq_comm, decide_eq_false_iff_not]; unfold In64; omega
theorem close_no_diff {p hi lo : Nat} {m : Int} (hh : hi = p / 18446744073709551616) (hl : lo = p % 18446744073709551616) (hm : m = -(p : Int)) (h0 : ¬ hi = 0) : false = decide (In64 m) := by
  rw [eq_comm, decide_eq_false_iff_not]; unfold In64; omega
end Go.Proofs.YthjgnpicnpfmjaaDoor
