/- The lexer's 'run': the end of the maximal sequence of bytes of a class. -/
import Derived.Test.YtbabencadnlmlaaDoorLexA
import Derived.Lib.Hide
namespace Go.Proofs.YtbabencadnlmlaaDoor
open Go.RowKit

theorem drop_cons (s : ByteArray) (k : Nat) (h : k < s.size) : s.data.toList.drop k = s[k] :: s.data.toList.drop (k + 1) := by
  rw [List.drop_eq_getElem_cons (by simpa using h)]; rfl
theorem runLen_yes (p : UInt8 → Bool) (s : ByteArray) (k : Nat) (h : k < s.size) (hp : p s[k] = true) :
    runLen p (s.data.toList.drop k) = runLen p (s.data.toList.drop (k + 1)) + 1 := by
  rw [drop_cons s k h, runLen_cons_yes _ _ _ hp]
theorem runLen_no (p : UInt8 → Bool) (s : ByteArray) (k : Nat) (h : k < s.size) (hp : p s[k] = false) :
    runLen p (s.data.toList.drop k) = 0 := by
  rw [drop_cons s k h, runLen_cons_no _ _ _ hp]
theorem runLen_end (p : UInt8 → Bool) (s : ByteArray) (k : Nat) (h : s.size ≤ k) : runLen p (s.data.toList.drop k) = 0 := by
  rw [List.drop_of_length_le (by simpa using h)]; rfl

set_option maxHeartbeats 400000 in
theorem run_any (n : Nat) (p : UInt8 → Bool) (hp : IsClass n p) (s : ByteArray) (hs : s.size ≤ maxLen) (k0 : Nat) (hk0 : k0 ≤ maxLen) (w : World) :
    Calls Tryd.prog 18 #[.string s, .int .i64 (k0 : Int), .func (.func n) #[] #[]] w fun e w' =>
      e = .returned (.int .i64 (k0 + runLen p (s.data.toList.drop k0) : Nat)) ∧ w = w' := by
  unfold maxLen at hs hk0
  have HE := hp.enter
  have HP := Lib.hid hp.ret
  clear hp
  go_enter Tryd.func18, Tryd.ntmps18
  go_wp2_with fail
  go_loop [1] (fun i => ∃ k : Nat, k0 ≤ k ∧ k ≤ maxLen ∧ i = .int .i64 k ∧ k + runLen p (s.data.toList.drop k) = k0 + runLen p (s.data.toList.drop k0)) (fun i => s.size - (intOf i).toNat)
  case atStart => exact ⟨k0, Nat.le_refl _, by unfold maxLen; omega, rfl, rfl⟩
  case round =>
    obtain ⟨k, hk1, hk2, rfl, hk3⟩ := hrel
    have HK := Lib.hid hk3
    clear hk3
    unfold maxLen at hk2
    by_cases hlt : k < s.size
    · go_wp2_with fail
      refine (HP.out _ _).mono ?_
      rintro e w' ⟨rfl, rfl⟩
      cases hpk : p s[k]
      · have h0 := runLen_no p s k hlt hpk
        have H0 := Lib.hid h0
        clear h0 hpk
        go_wp2_with fail
        go_ret
        exact ⟨ret_int (by have h1 := HK.out; have h2 := H0.out; omega), rfl⟩
      · have h0 := runLen_yes p s k hlt hpk
        have H0 := Lib.hid h0
        clear h0 hpk
        go_wp2_with fail
        go_round
        case rel => exact ⟨k + 1, by omega, by unfold maxLen; omega, by go_num, by have h1 := HK.out; have h2 := H0.out; omega⟩
        case measure => simp [intOf]; omega
    · have h0 := runLen_end p s k (by omega)
      have H0 := Lib.hid h0
      clear h0
      go_wp2_with fail
      go_ret
      exact ⟨ret_int (by have h1 := HK.out; have h2 := H0.out; omega), rfl⟩
/-- The same, at an offset that is any integer from 0 on. -/
theorem run_at (n : Nat) (p : UInt8 → Bool) (hp : IsClass n p) (s : ByteArray) (hs : s.size ≤ maxLen) (k0 : Int) (h0 : 0 ≤ k0) (hk0 : k0 ≤ 9223372036854775807) (w : World) :
    Calls Tryd.prog 18 #[.string s, .int .i64 k0, .func (.func n) #[] #[]] w fun e w' =>
      e = .returned (.int .i64 (k0 + runLen p (s.data.toList.drop k0.toNat))) ∧ w = w' := by
  obtain ⟨k, rfl⟩ := Int.eq_ofNat_of_zero_le h0
  exact (run_any n p hp s hs k (by unfold maxLen; omega) w).mono fun e w' ⟨h1, h2⟩ => ⟨by rw [h1]; simp, h2⟩
end Go.Proofs.YtbabencadnlmlaaDoor
