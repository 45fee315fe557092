/- The definition's comparison of values. No condition. -/
import Derived.Test.YthjgnpicnpfmjaaDoorGv
namespace Go.Proofs.YthjgnpicnpfmjaaDoor
open Go.RowKit Go.Lib

theorem val_held : Tryd.prog.stoodInHeld 23 = false := by kernel_rfl
theorem val_guard : Tryd.prog.eqGuardType Tryd.prog.depth 23 = false := by kernel_rfl
theorem val_fields : Tryd.prog.underlying 23 = some (.struct (Tryd.prog.fieldsOf 23)) := by kernel_rfl
/-- Equal values. -/
def sameG (a b : GVal) : Bool := a.kind == b.kind && a.n == b.n && a.s.toList == b.s.toList
theorem val_eqIn (d : Nat) (k p k' p' : Int) (s s' : ByteArray) (w : World) :
    (Op.equalIn (d + 2) 23 (.agg #[.int .i64 k, .int .i64 p, .string s]) (.agg #[.int .i64 k', .int .i64 p', .string s'])).run Tryd.prog w = .ok (k == k' && p == p' && s.toList == s'.toList) w := by
  rw [run_equalIn_struct w _ _ _ _ val_fields val_held]
  simp [go_sem]
  by_cases h1 : k = k' <;> by_cases h2 : p = p' <;> by_cases h3 : s.toList = s'.toList <;> simp [*]
theorem val_eql (a b : GVal) (w : World) :
    (binOp .eql 23 (.agg #[.int .i64 a.kind, .int .i64 a.n, .string a.s]) (.agg #[.int .i64 b.kind, .int .i64 b.n, .string b.s])).run Tryd.prog w = .ok (.bool (sameG a b)) w := by
  rw [run_eql_struct, val_eqIn]; rfl
/-- The definition's order of values: its first test, and what it answers. -/
def lessG (a b : GVal) : Bool := decide (a.kind < b.kind) || (a.kind == b.kind && decide (a.n < b.n)) || (a.kind == b.kind && a.n == b.n && Op.bytesLess a.s.toList b.s.toList)
def cmpG (a b : GVal) : Int := if lessG a b = true then -1 else if sameG a b = true then 0 else 1

set_option maxHeartbeats 2000000 in
set_option maxRecDepth 100000 in
theorem cmpG_any (a b : GVal) (w : World) :
    Calls Tryd.prog 15 #[.agg #[.int .i64 a.kind, .int .i64 a.n, .string a.s], .agg #[.int .i64 b.kind, .int .i64 b.n, .string b.s]] w fun e w' => e = .returned (.int .i64 (cmpG a b)) ∧ Below w.heap.size w w' := by
  have heq := val_eql a b
  have hgd := val_guard
  go_enter Tryd.func15, Tryd.ntmps15
  go_wp2
  all_goals go_ret
  all_goals refine ⟨congrArg (fun x => Ending.returned (.int .i64 x)) ?_, below_alloc_two w _ _⟩
  all_goals clear heq hgd
  all_goals unfold cmpG
  all_goals (cases hL : lessG a b <;> cases hS : sameG a b <;> simp_all [lessG, sameG] <;> omega)
theorem bytesLess_irrefl (l : List UInt8) : Op.bytesLess l l = false := by
  induction l with
  | nil => rfl
  | cons a l ih => simp [Op.bytesLess, ih]
theorem lessG_irrefl (a : GVal) : lessG a a = false := by
  simp [lessG, bytesLess_irrefl]
theorem sameG_refl (a : GVal) : sameG a a = true := by simp [sameG]
end Go.Proofs.YthjgnpicnpfmjaaDoor
