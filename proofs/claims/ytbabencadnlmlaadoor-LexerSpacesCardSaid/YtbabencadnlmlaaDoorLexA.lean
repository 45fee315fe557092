/- The leaf functions of the lexer and of its reference: what class a byte is of. No condition. -/
import Derived.Test.YtbabencadnlmlaaDoorProg
import Derived.Test.YtbabencadnlmlaaDoorLexP
import Derived.Test.YtbabencadnlmlaaDoorBase
namespace Go.Proofs.YtbabencadnlmlaaDoor
open Go.RowKit


/-- What a function on bytes that answers a bool does. -/
structure IsClass (n : Nat) (p : UInt8 → Bool) : Prop where
  enter : ∀ (xs : Array Value) (w : World), (callFunc n xs).run Tryd.prog w = .ok (.enter n xs) w
  ret : ∀ (c : UInt8) (w : World), Calls Tryd.prog n #[.int .u8 (c.toNat : Int)] w fun e w' => e = .returned (.bool (p c)) ∧ w = w'

theorem space_any : IsClass 19 isSpace := by
  refine ⟨fun xs w => by simp [go_sem], fun c w => ?_⟩
  go_enter Tryd.func19, Tryd.ntmps19
  go_wp2
  all_goals go_ret
  all_goals exact ⟨ret_bool (by rw [Bool.eq_iff_iff]; simp [isSpace] <;> omega), rfl⟩
theorem white_any : IsClass 22 isSpace := by
  refine ⟨fun xs w => by simp [go_sem], fun c w => ?_⟩
  go_enter Tryd.func22, Tryd.ntmps22
  go_wp2
  all_goals go_ret
  all_goals exact ⟨ret_bool (by rw [Bool.eq_iff_iff]; simp [isSpace] <;> omega), rfl⟩
theorem upper_any : IsClass 24 isUpper := by
  refine ⟨fun xs w => by simp [go_sem], fun c w => ?_⟩
  go_enter Tryd.func24, Tryd.ntmps24
  go_wp2
  all_goals go_ret
  all_goals exact ⟨ret_bool (by rw [Bool.eq_iff_iff]; simp [isUpper] <;> omega), rfl⟩
theorem capital_any : IsClass 38 isUpper := by
  refine ⟨fun xs w => by simp [go_sem], fun c w => ?_⟩
  go_enter Tryd.func38, Tryd.ntmps38
  go_wp2
  all_goals go_ret
  all_goals exact ⟨ret_bool (by rw [Bool.eq_iff_iff]; simp [isUpper] <;> omega), rfl⟩
theorem lower_any : IsClass 25 isLower := by
  refine ⟨fun xs w => by simp [go_sem], fun c w => ?_⟩
  go_enter Tryd.func25, Tryd.ntmps25
  go_wp2
  all_goals go_ret
  all_goals exact ⟨ret_bool (by rw [Bool.eq_iff_iff]; simp [isLower] <;> omega), rfl⟩
theorem rlower_any : IsClass 30 isLower := by
  refine ⟨fun xs w => by simp [go_sem], fun c w => ?_⟩
  go_enter Tryd.func30, Tryd.ntmps30
  go_wp2
  all_goals go_ret
  all_goals exact ⟨ret_bool (by rw [Bool.eq_iff_iff]; simp [isLower] <;> omega), rfl⟩
theorem digit_any : IsClass 27 isDigit := by
  refine ⟨fun xs w => by simp [go_sem], fun c w => ?_⟩
  go_enter Tryd.func27, Tryd.ntmps27
  go_wp2
  all_goals go_ret
  all_goals exact ⟨ret_bool (by rw [Bool.eq_iff_iff]; simp [isDigit] <;> omega), rfl⟩
theorem rdigit_any : IsClass 40 isDigit := by
  refine ⟨fun xs w => by simp [go_sem], fun c w => ?_⟩
  go_enter Tryd.func40, Tryd.ntmps40
  go_wp2
  all_goals go_ret
  all_goals exact ⟨ret_bool (by rw [Bool.eq_iff_iff]; simp [isDigit] <;> omega), rfl⟩
theorem inner_any : IsClass 26 isInner := by
  refine ⟨fun xs w => by simp [go_sem], fun c w => ?_⟩
  go_enter Tryd.func26, Tryd.ntmps26
  go_wp2
  all_goals go_ret
  all_goals exact ⟨ret_bool (by rw [Bool.eq_iff_iff]; simp [isInner] <;> omega), rfl⟩
theorem inName_any : IsClass 39 isInner := by
  refine ⟨fun xs w => by simp [go_sem], fun c w => ?_⟩
  go_enter Tryd.func39, Tryd.ntmps39
  go_wp2
  all_goals go_ret
  all_goals exact ⟨ret_bool (by rw [Bool.eq_iff_iff]; simp [isInner] <;> omega), rfl⟩
end Go.Proofs.YtbabencadnlmlaaDoor
