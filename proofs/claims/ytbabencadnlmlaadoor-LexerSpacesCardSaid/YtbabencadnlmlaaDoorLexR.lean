/- The reference's tests on tokens. Condition: the model's own bound on a string's length. -/
import Derived.Test.YtbabencadnlmlaaDoorLexC
namespace Go.Proofs.YtbabencadnlmlaaDoor
open Go.RowKit

theorem ba_at (l : List UInt8) (k : Nat) (h : k < (ByteArray.mk l.toArray).size) : (ByteArray.mk l.toArray)[k] = l[k]'(by simpa [ByteArray.size] using h) := by
  simp [ByteArray.getElem_eq_getElem_data]

theorem sign_any : IsClass 31 isSign := by
  refine ⟨fun xs w => by simp [go_sem], fun c w => ?_⟩
  go_enter Tryd.func31, Tryd.ntmps31
  go_wp2_with fail
  go_loop [4] (fun i => ∃ k : Nat, k ≤ 11 ∧ i = .int .i64 k ∧ isSign c = (signs.drop k).contains c) (fun i => 11 - (intOf i).toNat)
  case atStart => exact ⟨0, Nat.zero_le _, rfl, rfl⟩
  case round =>
    obtain ⟨k, hk, rfl, hR⟩ := hrel
    have HR := Lib.hid hR
    clear hR
    by_cases hlt : k < 11
    · have hk1 : k < (ByteArray.mk #[40, 41, 44, 46, 42, 43, 45, 61, 60, 62, 59]).size := hlt
      have H1 := Lib.hid (drop_cons (ByteArray.mk #[40, 41, 44, 46, 42, 43, 45, 61, 60, 62, 59]) k hk1)
      by_cases he : (ByteArray.mk #[40, 41, 44, 46, 42, 43, 45, 61, 60, 62, 59])[k] = c
      · have hb : (((ByteArray.mk #[40, 41, 44, 46, 42, 43, 45, 61, 60, 62, 59])[k].toNat : Int) == (c.toNat : Int)) = true := by rw [he]; simp
        have HE := Lib.hid he
        clear he
        go_wp2_with fail
        go_ret
        refine ⟨ret_bool ?_, rfl⟩
        rw [HR.out]
        show true = List.contains (List.drop k (ByteArray.mk #[40, 41, 44, 46, 42, 43, 45, 61, 60, 62, 59]).data.toList) c
        rw [H1.out, HE.out]; simp
      · have hb : (((ByteArray.mk #[40, 41, 44, 46, 42, 43, 45, 61, 60, 62, 59])[k].toNat : Int) == (c.toNat : Int)) = false := by
          rw [beq_eq_false_iff_ne]; intro e; exact he (UInt8.toNat_inj.1 (by omega))
        have HE := Lib.hid he
        clear he
        go_wp2_with fail
        go_round
        case rel =>
          refine ⟨k + 1, by omega, by go_num, ?_⟩
          rw [HR.out]
          show List.contains (List.drop k (ByteArray.mk #[40, 41, 44, 46, 42, 43, 45, 61, 60, 62, 59]).data.toList) c = _
          rw [H1.out, List.contains_cons, beq_eq_false_iff_ne.2 (fun e => HE.out e.symm), Bool.false_or]; rfl
        case measure => simp [intOf]; omega
    · go_wp2_with fail
      go_ret
      exact ⟨ret_bool (by rw [HR.out, List.drop_of_length_le (by simp [signs]; omega)]; rfl), rfl⟩
def allB (p : UInt8 → Bool) (l : List UInt8) : Bool := !l.isEmpty && l.all p
set_option maxHeartbeats 1000000 in
theorem all_1 (s : ByteArray) (hs : s.size ≤ maxLen) (w : World) :
    Calls Tryd.prog 29 #[.string s, .int .i64 1] w fun e w' => e = .returned (.bool (allB isUpper s.data.toList)) ∧ w = w' := by
  unfold maxLen at hs
  go_enter Tryd.func29, Tryd.ntmps29
  go_wp2_with fail
  go_loop [5] (fun i => ∃ k : Nat, k ≤ s.size ∧ i = .int .i64 k ∧ (s.data.toList.drop k).all isUpper = s.data.toList.all isUpper) (fun i => s.size - (intOf i).toNat)
  case atStart => exact ⟨0, Nat.zero_le _, rfl, rfl⟩
  case round =>
    obtain ⟨k, hk, rfl, hR⟩ := hrel
    have HR := Lib.hid hR
    clear hR
    by_cases hlt : k < s.size
    · have H1 := Lib.hid (drop_cons s k hlt)
      cases hp : isUpper s[k]
      · go_wp2_with (go_at_call 38; refine (capital_any.ret _ _).mono ?_; rintro e w' ⟨rfl, rfl⟩)
        go_ret
        exact ⟨ret_bool (by rw [allB, ← HR.out, H1.out, List.all_cons, hp]; simp), rfl⟩
      · go_wp2_with (go_at_call 38; refine (capital_any.ret _ _).mono ?_; rintro e w' ⟨rfl, rfl⟩)
        go_round
        case rel => exact ⟨k + 1, hlt, by go_num, by rw [← HR.out, H1.out, List.all_cons, hp, Bool.true_and]⟩
        case measure => simp [intOf]; omega
    · go_wp2_with fail
      go_ret
      refine ⟨ret_bool ?_, rfl⟩
      rw [allB, ← HR.out, List.drop_of_length_le (by rw [ba_len]; omega), List.all_nil, Bool.and_true]
      rcases Nat.eq_zero_or_pos s.size with hz | hpos
      · have he : s.data.toList = [] := List.eq_nil_of_length_eq_zero (by rw [ba_len]; exact hz)
        rw [he, hz]; rfl
      · rw [List.isEmpty_eq_false_iff.2 (ba_ne' s hpos), decide_eq_true hpos]; rfl
set_option maxHeartbeats 1000000 in
theorem all_2 (s : ByteArray) (hs : s.size ≤ maxLen) (w : World) :
    Calls Tryd.prog 29 #[.string s, .int .i64 2] w fun e w' => e = .returned (.bool (allB isInner s.data.toList)) ∧ w = w' := by
  unfold maxLen at hs
  go_enter Tryd.func29, Tryd.ntmps29
  go_wp2_with fail
  go_loop [5] (fun i => ∃ k : Nat, k ≤ s.size ∧ i = .int .i64 k ∧ (s.data.toList.drop k).all isInner = s.data.toList.all isInner) (fun i => s.size - (intOf i).toNat)
  case atStart => exact ⟨0, Nat.zero_le _, rfl, rfl⟩
  case round =>
    obtain ⟨k, hk, rfl, hR⟩ := hrel
    have HR := Lib.hid hR
    clear hR
    by_cases hlt : k < s.size
    · have H1 := Lib.hid (drop_cons s k hlt)
      cases hp : isInner s[k]
      · go_wp2_with (go_at_call 39; refine (inName_any.ret _ _).mono ?_; rintro e w' ⟨rfl, rfl⟩)
        go_ret
        exact ⟨ret_bool (by rw [allB, ← HR.out, H1.out, List.all_cons, hp]; simp), rfl⟩
      · go_wp2_with (go_at_call 39; refine (inName_any.ret _ _).mono ?_; rintro e w' ⟨rfl, rfl⟩)
        go_round
        case rel => exact ⟨k + 1, hlt, by go_num, by rw [← HR.out, H1.out, List.all_cons, hp, Bool.true_and]⟩
        case measure => simp [intOf]; omega
    · go_wp2_with fail
      go_ret
      refine ⟨ret_bool ?_, rfl⟩
      rw [allB, ← HR.out, List.drop_of_length_le (by rw [ba_len]; omega), List.all_nil, Bool.and_true]
      rcases Nat.eq_zero_or_pos s.size with hz | hpos
      · have he : s.data.toList = [] := List.eq_nil_of_length_eq_zero (by rw [ba_len]; exact hz)
        rw [he, hz]; rfl
      · rw [List.isEmpty_eq_false_iff.2 (ba_ne' s hpos), decide_eq_true hpos]; rfl
set_option maxHeartbeats 1000000 in
theorem all_3 (s : ByteArray) (hs : s.size ≤ maxLen) (w : World) :
    Calls Tryd.prog 29 #[.string s, .int .i64 3] w fun e w' => e = .returned (.bool (allB isDigit s.data.toList)) ∧ w = w' := by
  unfold maxLen at hs
  go_enter Tryd.func29, Tryd.ntmps29
  go_wp2_with fail
  go_loop [5] (fun i => ∃ k : Nat, k ≤ s.size ∧ i = .int .i64 k ∧ (s.data.toList.drop k).all isDigit = s.data.toList.all isDigit) (fun i => s.size - (intOf i).toNat)
  case atStart => exact ⟨0, Nat.zero_le _, rfl, rfl⟩
  case round =>
    obtain ⟨k, hk, rfl, hR⟩ := hrel
    have HR := Lib.hid hR
    clear hR
    by_cases hlt : k < s.size
    · have H1 := Lib.hid (drop_cons s k hlt)
      cases hp : isDigit s[k]
      · go_wp2_with (go_at_call 40; refine (rdigit_any.ret _ _).mono ?_; rintro e w' ⟨rfl, rfl⟩)
        go_ret
        exact ⟨ret_bool (by rw [allB, ← HR.out, H1.out, List.all_cons, hp]; simp), rfl⟩
      · go_wp2_with (go_at_call 40; refine (rdigit_any.ret _ _).mono ?_; rintro e w' ⟨rfl, rfl⟩)
        go_round
        case rel => exact ⟨k + 1, hlt, by go_num, by rw [← HR.out, H1.out, List.all_cons, hp, Bool.true_and]⟩
        case measure => simp [intOf]; omega
    · go_wp2_with fail
      go_ret
      refine ⟨ret_bool ?_, rfl⟩
      rw [allB, ← HR.out, List.drop_of_length_le (by rw [ba_len]; omega), List.all_nil, Bool.and_true]
      rcases Nat.eq_zero_or_pos s.size with hz | hpos
      · have he : s.data.toList = [] := List.eq_nil_of_length_eq_zero (by rw [ba_len]; exact hz)
        rw [he, hz]; rfl
      · rw [List.isEmpty_eq_false_iff.2 (ba_ne' s hpos), decide_eq_true hpos]; rfl

theorem allB_nil (p : UInt8 → Bool) : allB p [] = false := rfl
theorem rvalid1 (l : List UInt8) : validT 1 l = (allB isUpper l && decide (l.length ≤ 20)) := by simp [validT, allB]
theorem rvalid2 (c : UInt8) (l : List UInt8) : validT 2 (c :: l) = (allB isInner (c :: l) && isLower c && decide ((c :: l).length ≤ 20)) := by
  simp [validT, allB, Bool.and_comm, Bool.and_left_comm]
theorem rvalid2_nil : validT 2 [] = false := rfl
theorem rvalid3 (l : List UInt8) : validT 3 l = (allB isDigit l && decide (l.length ≤ 19)) := by simp [validT, allB]
theorem rvalid4 (l : List UInt8) : validT 4 l = decide (l.length ≤ 200) := by simp [validT]

set_option maxHeartbeats 1000000 in
theorem rvalid_k1 (p : Int) (s : ByteArray) (hs : s.size ≤ maxLen) (w : World) :
    Calls Tryd.prog 15 #[.agg #[.int .i64 1, .int .i64 p, .string s]] w fun e w' => e = .returned (.bool (validT 1 s.data.toList)) ∧ Below w.heap.size w w' := by
  have hs' := hs
  unfold maxLen at hs
  go_enter Tryd.func15, Tryd.ntmps15
  go_wp2_with (go_at_call 29; refine (all_1 _ hs' _).mono ?_; rintro e w' ⟨rfl, rfl⟩)
  all_goals go_ret
  all_goals refine ⟨ret_bool ?_, below_alloc _ _⟩
  all_goals rw [rvalid1]
  · rw [ba_len, Bool.eq_iff_iff]; simp_all <;> omega
  · have h : allB isUpper s.data.toList = false := by simpa using ‹¬ allB isUpper s.data.toList = true›
    rw [h]; rfl
set_option maxHeartbeats 1000000 in
theorem rvalid_k3 (p : Int) (s : ByteArray) (hs : s.size ≤ maxLen) (w : World) :
    Calls Tryd.prog 15 #[.agg #[.int .i64 3, .int .i64 p, .string s]] w fun e w' => e = .returned (.bool (validT 3 s.data.toList)) ∧ Below w.heap.size w w' := by
  have hs' := hs
  unfold maxLen at hs
  go_enter Tryd.func15, Tryd.ntmps15
  go_wp2_with (go_at_call 29; refine (all_3 _ hs' _).mono ?_; rintro e w' ⟨rfl, rfl⟩)
  all_goals go_ret
  all_goals refine ⟨ret_bool ?_, below_alloc _ _⟩
  all_goals rw [rvalid3]
  · rw [ba_len, Bool.eq_iff_iff]; simp_all <;> omega
  · have h : allB isDigit s.data.toList = false := by simpa using ‹¬ allB isDigit s.data.toList = true›
    rw [h]; rfl

set_option maxHeartbeats 1000000 in
theorem rvalid_k2 (p : Int) (s : ByteArray) (hs : s.size ≤ maxLen) (w : World) :
    Calls Tryd.prog 15 #[.agg #[.int .i64 2, .int .i64 p, .string s]] w fun e w' => e = .returned (.bool (validT 2 s.data.toList)) ∧ Below w.heap.size w w' := by
  have hs' := hs
  unfold maxLen at hs
  rcases Nat.eq_zero_or_pos s.size with hz | hpos
  · rw [ba_empty s hz]
    have h0 := allB_nil isInner
    go_enter Tryd.func15, Tryd.ntmps15
    go_wp2_with (go_at_call 29; refine (all_2 _ (Nat.zero_le _) _).mono ?_; rintro e w' ⟨rfl, rfl⟩)
    all_goals go_ret
    exact ⟨ret_bool rfl, below_alloc _ _⟩
  · have hh := Lib.hid (ba_head s hpos)
    go_enter Tryd.func15, Tryd.ntmps15
    go_wp2_with (first
      | (go_at_call 29; refine (all_2 _ hs' _).mono ?_; rintro e w' ⟨rfl, rfl⟩)
      | (go_at_call 30; refine (rlower_any.ret _ _).mono ?_; rintro e w' ⟨rfl, rfl⟩))
    all_goals go_ret
    all_goals refine ⟨ret_bool ?_, below_alloc _ _⟩
    all_goals rw [hh.out, rvalid2, ← hh.out]
    · have h1 : allB isInner s.data.toList = true := by assumption
      have h2 : isLower s[0] = true := by assumption
      rw [h1, h2, ba_len, Bool.eq_iff_iff]; simp; omega
    · have h2 : isLower s[0] = false := by simpa using ‹¬ isLower s[0] = true›
      rw [h2]; simp
    · have h1 : allB isInner s.data.toList = false := by simpa using ‹¬ allB isInner s.data.toList = true›
      rw [h1]; simp

set_option maxHeartbeats 1000000 in
theorem rvalid_rest (k p : Int) (s : ByteArray) (hs : s.size ≤ maxLen) (h1 : (k == 1) = false) (h2 : (k == 2) = false) (h3 : (k == 3) = false) (w : World) :
    Calls Tryd.prog 15 #[.agg #[.int .i64 k, .int .i64 p, .string s]] w fun e w' => e = .returned (.bool (validT k s.data.toList)) ∧ Below w.heap.size w w' := by
  have hs' := hs
  unfold maxLen at hs
  go_enter Tryd.func15, Tryd.ntmps15
  go_wp2_with (go_at_call 31; refine (sign_any.ret _ _).mono ?_; rintro e w' ⟨rfl, rfl⟩)
  all_goals go_ret
  all_goals refine ⟨ret_bool ?_, below_alloc _ _⟩
  all_goals simp only [beq_iff_eq, beq_eq_false_iff_ne] at *
  · subst k; rw [rvalid4, ba_len, Bool.eq_iff_iff]; simp; omega
  · subst k
    have h1 : s.data.toList = [s[0]] := by
      rw [ba_head s (by omega), List.drop_of_length_le (by rw [ba_len]; omega)]
    rw [h1, valid5_one]
  · subst k; rw [valid5 _ (by rw [ba_len]; omega)]
  · subst k; rw [valid6, ByteArray.toList_eq]
  · rw [validT_other _ _ (by omega) (by omega) (by omega) (by omega) (by omega) (by omega)]

theorem rvalid_any (k p : Int) (s : ByteArray) (hs : s.size ≤ maxLen) (w : World) :
    Calls Tryd.prog 15 #[.agg #[.int .i64 k, .int .i64 p, .string s]] w fun e w' => e = .returned (.bool (validT k s.data.toList)) ∧ Below w.heap.size w w' := by
  by_cases h1 : k = 1
  · subst h1; exact rvalid_k1 p s hs w
  · by_cases h2 : k = 2
    · subst h2; exact rvalid_k2 p s hs w
    · by_cases h3 : k = 3
      · subst h3; exact rvalid_k3 p s hs w
      · exact rvalid_rest k p s hs (by simpa using h1) (by simpa using h2) (by simpa using h3) w
end Go.Proofs.YtbabencadnlmlaaDoor
