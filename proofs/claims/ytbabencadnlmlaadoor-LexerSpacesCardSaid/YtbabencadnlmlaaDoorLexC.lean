/- The lexer's and the reference's tests on single tokens, by contract. No condition but the model's own bound on a string's length. -/
import Derived.Test.YtbabencadnlmlaaDoorLexB
import Derived.Test.YtbabencadnlmlaaDoorShIdx
namespace Go.Proofs.YtbabencadnlmlaaDoor
open Go.RowKit


set_option maxHeartbeats 400000 in
theorem short_any (k p : Int) (s : ByteArray) (hs : s.size ≤ maxLen) (w : World) :
    Calls Tryd.prog 21 #[.agg #[.int .i64 k, .int .i64 p, .string s]] w fun e w' => e = .returned (.bool (shortT k s.size)) ∧ Below w.heap.size w w' := by
  unfold maxLen at hs
  go_enter Tryd.func21, Tryd.ntmps21
  go_wp2
  all_goals go_ret
  all_goals exact ⟨ret_bool (by simp_all [shortT] <;> omega), below_alloc _ _⟩

theorem indexByte_any (c : UInt8) (w : World) :
    Calls Tryd.prog 28 #[.string ⟨#[40, 41, 44, 46, 42, 43, 45, 61, 60, 62, 59]⟩, .int .u8 (c.toNat : Int)] w fun e w' => e = .returned (.int .i64 (signAt c)) ∧ w = w' :=
  (sh_strings_IndexByte _ _ w).mono fun e w' ⟨h1, h2⟩ => ⟨by rw [h1]; simp [signAt, signs], h2.symm⟩

theorem ba_empty (s : ByteArray) (h : s.size = 0) : s = ⟨#[]⟩ := by
  cases s with | mk d => exact congrArg ByteArray.mk (Array.eq_empty_of_size_eq_zero h)
theorem ba_len (s : ByteArray) : s.data.toList.length = s.size := rfl
theorem ba_ne (s : ByteArray) (h : 0 < s.size) : ¬ s.toList = [] := by
  rw [ByteArray.toList_eq]; intro e; have := ba_len s; rw [e] at this; simp at this; omega
theorem ba_ne' (s : ByteArray) (h : 0 < s.size) : s.data.toList ≠ [] := by rw [← ByteArray.toList_eq]; exact ba_ne s h
theorem ba_head (s : ByteArray) (h : 0 < s.size) : s.data.toList = s[0] :: s.data.toList.drop 1 := drop_cons s 0 h

theorem valid_empty (k p : Int) (w : World) :
    Calls Tryd.prog 14 #[.agg #[.int .i64 k, .int .i64 p, .string ⟨#[]⟩]] w fun e w' => e = .returned (.bool (validT k [])) ∧ Below w.heap.size w w' := by
  go_enter Tryd.func14, Tryd.ntmps14
  go_wp2_with (go_at_call 21; refine (short_any _ _ _ (Nat.zero_le _) _).mono ?_; rintro e w' ⟨rfl, hb⟩)
  all_goals go_ret
  all_goals exact ⟨ret_bool (by simp only [beq_iff_eq, beq_eq_false_iff_ne] at *; first | (subst k; rfl) | (rw [validT_nil _ (by omega) (by omega)])), (by first | exact below_alloc _ _ | exact below_alloc2 ‹_› | exact below_alloc2' ‹_›)⟩
theorem valid_k1 (p : Int) (s : ByteArray) (hs : s.size ≤ maxLen) (hpos : 0 < s.size) (w : World) :
    Calls Tryd.prog 14 #[.agg #[.int .i64 1, .int .i64 p, .string s]] w fun e w' => e = .returned (.bool (validT 1 s.data.toList)) ∧ Below w.heap.size w w' := by
  have hs' := hs
  unfold maxLen at hs
  have hne : ¬ s.toList = [] := ba_ne s hpos
  have hne2 : (!s.toList.isEmpty) = true := by simpa using hne
  go_enter Tryd.func14, Tryd.ntmps14
  go_wp2_with (first
    | (go_at_call 18; with_reducible refine (run_at _ _ upper_any _ hs' _ (by omega) (by omega) _).mono ?_; rintro e w' ⟨rfl, rfl⟩)
    | (go_at_call 25; refine (lower_any.ret _ _).mono ?_; rintro e w' ⟨rfl, rfl⟩)
    | (go_at_call 21; refine (short_any _ _ _ hs' _).mono ?_; rintro e w' ⟨rfl, hb⟩))
  all_goals go_ret
  all_goals refine ⟨ret_bool ?_, (by first | exact below_alloc _ _ | exact below_alloc2 ‹_› | exact below_alloc2' ‹_›)⟩
  · rw [valid1 _ (ba_ne' s hpos), decide_eq_true (by rw [ba_len]; omega), ba_len]; rfl
  · rw [valid1 _ (ba_ne' s hpos), decide_eq_false (by rw [ba_len]; omega)]; rfl
theorem valid_k3 (p : Int) (s : ByteArray) (hs : s.size ≤ maxLen) (hpos : 0 < s.size) (w : World) :
    Calls Tryd.prog 14 #[.agg #[.int .i64 3, .int .i64 p, .string s]] w fun e w' => e = .returned (.bool (validT 3 s.data.toList)) ∧ Below w.heap.size w w' := by
  have hs' := hs
  unfold maxLen at hs
  have hne : ¬ s.toList = [] := ba_ne s hpos
  have hne2 : (!s.toList.isEmpty) = true := by simpa using hne
  go_enter Tryd.func14, Tryd.ntmps14
  go_wp2_with (first
    | (go_at_call 18; with_reducible refine (run_at _ _ digit_any _ hs' _ (by omega) (by omega) _).mono ?_; rintro e w' ⟨rfl, rfl⟩)
    | (go_at_call 25; refine (lower_any.ret _ _).mono ?_; rintro e w' ⟨rfl, rfl⟩)
    | (go_at_call 21; refine (short_any _ _ _ hs' _).mono ?_; rintro e w' ⟨rfl, hb⟩))
  all_goals go_ret
  all_goals refine ⟨ret_bool ?_, (by first | exact below_alloc _ _ | exact below_alloc2 ‹_› | exact below_alloc2' ‹_›)⟩
  · rw [valid3 _ (ba_ne' s hpos), decide_eq_true (by rw [ba_len]; omega), ba_len]; rfl
  · rw [valid3 _ (ba_ne' s hpos), decide_eq_false (by rw [ba_len]; omega)]; rfl
theorem valid_k2 (p : Int) (s : ByteArray) (hs : s.size ≤ maxLen) (hpos : 0 < s.size) (w : World) :
    Calls Tryd.prog 14 #[.agg #[.int .i64 2, .int .i64 p, .string s]] w fun e w' => e = .returned (.bool (validT 2 s.data.toList)) ∧ Below w.heap.size w w' := by
  have hs' := hs
  unfold maxLen at hs
  have hne : ¬ s.toList = [] := ba_ne s hpos
  have hne2 : (!s.toList.isEmpty) = true := by simpa using hne
  go_enter Tryd.func14, Tryd.ntmps14
  go_wp2_with (first
    | (go_at_call 18; with_reducible refine (run_at _ _ inner_any _ hs' _ (by omega) (by omega) _).mono ?_; rintro e w' ⟨rfl, rfl⟩)
    | (go_at_call 25; refine (lower_any.ret _ _).mono ?_; rintro e w' ⟨rfl, rfl⟩)
    | (go_at_call 21; refine (short_any _ _ _ hs' _).mono ?_; rintro e w' ⟨rfl, hb⟩))
  all_goals go_ret
  all_goals refine ⟨ret_bool ?_, (by first | exact below_alloc _ _ | exact below_alloc2 ‹_› | exact below_alloc2' ‹_›)⟩
  · have hl : isLower s[0] = true := by assumption
    rw [ba_head s hpos, valid2, hl, ← ba_head s hpos, decide_eq_true (by rw [ba_len]; omega), ba_len]; rfl
  · rw [ba_head s hpos, valid2, ← ba_head s hpos, decide_eq_false (by rw [ba_len]; omega)]; simp
  · have hl : isLower s[0] = false := by simpa using ‹¬ isLower s[0] = true›
    rw [ba_head s hpos, valid2, hl]; rfl

theorem valid_rest (k p : Int) (s : ByteArray) (hs : s.size ≤ maxLen) (hpos : 0 < s.size) (h1 : (k == 1) = false) (h2 : (k == 2) = false) (h3 : (k == 3) = false) (w : World) :
    Calls Tryd.prog 14 #[.agg #[.int .i64 k, .int .i64 p, .string s]] w fun e w' => e = .returned (.bool (validT k s.data.toList)) ∧ Below w.heap.size w w' := by
  have hs' := hs
  unfold maxLen at hs
  have hne : ¬ s.toList = [] := ba_ne s hpos
  have hne2 : (!s.toList.isEmpty) = true := by simpa using hne
  go_enter Tryd.func14, Tryd.ntmps14
  go_wp2_with (first
    | (go_at_call 21; refine (short_any _ _ _ hs' _).mono ?_; rintro e w' ⟨rfl, hb⟩)
    | (go_at_call 28; refine (indexByte_any _ _).mono ?_; rintro e w' ⟨rfl, rfl⟩))
  all_goals go_ret
  all_goals refine ⟨ret_bool ?_, (by first | exact below_alloc _ _ | exact below_alloc2 ‹_› | exact below_alloc2' ‹_›)⟩
  all_goals simp only [beq_iff_eq, beq_eq_false_iff_ne] at *
  · subst k; rw [valid4, ba_len]
  · subst k
    have h1 : s.data.toList = [s[0]] := by
      rw [ba_head s hpos, List.drop_of_length_le (by rw [ba_len]; omega)]
    rw [h1, valid5_one, ← signAt_sign]
  · subst k; rw [valid5 _ (by rw [ba_len]; omega)]
  · subst k; rw [valid6, ByteArray.toList_eq]
  · rw [validT_other _ _ (by omega) (by omega) (by omega) (by omega) (by omega) (by omega)]

theorem valid_any (k p : Int) (s : ByteArray) (hs : s.size ≤ maxLen) (w : World) :
    Calls Tryd.prog 14 #[.agg #[.int .i64 k, .int .i64 p, .string s]] w fun e w' => e = .returned (.bool (validT k s.data.toList)) ∧ Below w.heap.size w w' := by
  rcases Nat.eq_zero_or_pos s.size with hz | hpos
  · rw [ba_empty s hz]; exact valid_empty k p w
  · by_cases h1 : k = 1
    · subst h1; exact valid_k1 p s hs hpos w
    · by_cases h2 : k = 2
      · subst h2; exact valid_k2 p s hs hpos w
      · by_cases h3 : k = 3
        · subst h3; exact valid_k3 p s hs hpos w
        · exact valid_rest k p s hs hpos (by simpa using h1) (by simpa using h2) (by simpa using h3) w
end Go.Proofs.YtbabencadnlmlaaDoor
