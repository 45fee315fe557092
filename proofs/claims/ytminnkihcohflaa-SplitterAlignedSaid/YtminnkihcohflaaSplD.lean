/- The definition's comparison of values. No condition. -/
import Derived.Test.YtminnkihcohflaaSplC
namespace Go.Proofs.Ytminnkihcohflaa
open Go.RowKit Go.Lib Go.Shelf

theorem val_held : Try.prog.stoodInHeld 79 = false := by kernel_rfl
theorem val_guard : Try.prog.eqGuardType Try.prog.depth 79 = false := by kernel_rfl
theorem val_fields : Try.prog.underlying 79 = some (.struct (Try.prog.fieldsOf 79)) := by kernel_rfl
/-- Equal values. -/
def sameG (a b : GVal) : Bool := a.kind == b.kind && a.n == b.n && a.s.toList == b.s.toList
theorem val_eqIn (d : Nat) (k p k' p' : Int) (s s' : ByteArray) (w : World) :
    (Op.equalIn (d + 2) 79 (.agg #[.int .i64 k, .int .i64 p, .string s]) (.agg #[.int .i64 k', .int .i64 p', .string s'])).run Try.prog w = .ok (k == k' && p == p' && s.toList == s'.toList) w := by
  rw [run_equalIn_struct w _ _ _ _ val_fields val_held]
  simp [go_sem]
  by_cases h1 : k = k' <;> by_cases h2 : p = p' <;> by_cases h3 : s.toList = s'.toList <;> simp [*]
theorem val_eql (a b : GVal) (w : World) :
    (binOp .eql 79 (.agg #[.int .i64 a.kind, .int .i64 a.n, .string a.s]) (.agg #[.int .i64 b.kind, .int .i64 b.n, .string b.s])).run Try.prog w = .ok (.bool (sameG a b)) w := by
  rw [run_eql_struct, val_eqIn]; rfl
/-- The definition's order of values: its first test, and what it answers. -/
def lessG (a b : GVal) : Bool := decide (a.kind < b.kind) || (a.kind == b.kind && decide (a.n < b.n)) || (a.kind == b.kind && a.n == b.n && Op.bytesLess a.s.toList b.s.toList)
def cmpG (a b : GVal) : Int := if lessG a b = true then -1 else if sameG a b = true then 0 else 1

set_option maxHeartbeats 2000000 in
set_option maxRecDepth 100000 in
theorem cmpG_any (a b : GVal) (w : World) :
    Calls Try.prog 99 #[.agg #[.int .i64 a.kind, .int .i64 a.n, .string a.s], .agg #[.int .i64 b.kind, .int .i64 b.n, .string b.s]] w fun e w' => e = .returned (.int .i64 (cmpG a b)) ∧ Below w.heap.size w w' := by
  have heq := val_eql a b
  have hgd := val_guard
  go_enter Try.func99, Try.ntmps99
  go_wp2
  all_goals go_ret
  all_goals refine ⟨congrArg (fun x => Ending.returned (.int .i64 x)) ?_, below_alloc_two w _ _⟩
  all_goals clear heq hgd
  all_goals unfold cmpG
  all_goals (cases hL : lessG a b <;> cases hS : sameG a b <;> simp_all [lessG, sameG] <;> omega)
end Go.Proofs.Ytminnkihcohflaa
