/- The definition's equality of slices of tuples: facts. No condition. -/
import Derived.Test.YtminnkihcohflaaSplG
namespace Go.Proofs.Ytminnkihcohflaa
open Go.RowKit Go.Lib Go.Shelf

theorem per_held : Try.prog.stoodInHeld 31 = false := by kernel_rfl
theorem per_guard : Try.prog.eqGuardType Try.prog.depth 31 = false := by kernel_rfl
theorem per_fields : Try.prog.underlying 31 = some (.struct (Try.prog.fieldsOf 31)) := by kernel_rfl
theorem per_eqIn (d : Nat) (k p k' p' : Int) (w : World) :
    (Op.equalIn (d + 2) 31 (.agg #[.int .i64 k, .int .i64 p]) (.agg #[.int .i64 k', .int .i64 p'])).run Try.prog w = .ok (k == k' && p == p') w := by
  rw [run_equalIn_struct w _ _ _ _ per_fields per_held]
  simp [go_sem]
  by_cases h1 : k = k' <;> by_cases h2 : p = p' <;> simp [*]
theorem per_eql (k p k' p' : Int) (w : World) :
    (binOp .eql 31 (.agg #[.int .i64 k, .int .i64 p]) (.agg #[.int .i64 k', .int .i64 p'])).run Try.prog w = .ok (.bool (k == k' && p == p')) w := by
  rw [run_eql_struct, per_eqIn]; rfl
theorem per_neq (k p k' p' : Int) (w : World) :
    (binOp .neq 31 (.agg #[.int .i64 k, .int .i64 p]) (.agg #[.int .i64 k', .int .i64 p'])).run Try.prog w = .ok (.bool !(k == k' && p == p')) w := by
  rw [run_neq_struct, per_eqIn]; rfl
def sameTup (a b : Tup) : Bool := (a.lo == b.lo && a.hi == b.hi) && sameRowL a.vals b.vals a.lin b.lin
def sameTups : List Tup → List Tup → Bool
  | [], [] => true
  | a :: l, b :: m => sameTup a b && sameTups l m
  | _, _ => false
end Go.Proofs.Ytminnkihcohflaa
