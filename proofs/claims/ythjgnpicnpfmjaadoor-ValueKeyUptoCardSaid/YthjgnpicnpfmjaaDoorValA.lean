/- The program's and the definition's valid values. No condition beside that the string's size is a machine's. -/
import Derived.Test.YthjgnpicnpfmjaaDoorValT
namespace Go.Proofs.YthjgnpicnpfmjaaDoor
open Go.RowKit

theorem tl_data (s : ByteArray) : s.toList = s.data.toList := Lib.toList_data s
set_option maxHeartbeats 2000000 in
theorem vvalid_any (v : GVal) (hs : v.s.size ≤ maxLen) (w : World) :
    Calls Tryd.prog 12 #[aggG v] w fun e w' => e = .returned (.bool (validG v)) ∧ Below w.heap.size w w' := by
  obtain ⟨k, n, s⟩ := v
  unfold aggG
  dsimp only at hs ⊢
  unfold maxLen at hs
  go_enter Tryd.func12, Tryd.ntmps12
  go_wp2
  all_goals go_ret
  all_goals exact ⟨ret_bool (by simp_all [validG, tl_data] <;> omega), below_alloc _ _⟩
set_option maxHeartbeats 2000000 in
theorem rvalid_any (v : GVal) (hs : v.s.size ≤ maxLen) (w : World) :
    Calls Tryd.prog 13 #[aggG v] w fun e w' => e = .returned (.bool (validG v)) ∧ Below w.heap.size w w' := by
  obtain ⟨k, n, s⟩ := v
  unfold aggG
  dsimp only at hs ⊢
  unfold maxLen at hs
  go_enter Tryd.func13, Tryd.ntmps13
  go_wp2
  all_goals go_ret
  all_goals exact ⟨ret_bool (by simp_all [validG, tl_data] <;> omega), below_alloc _ _⟩
end Go.Proofs.YthjgnpicnpfmjaaDoor
