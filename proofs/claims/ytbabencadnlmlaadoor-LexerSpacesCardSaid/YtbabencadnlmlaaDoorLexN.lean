/- The lexer's 'next': the token that starts at an offset. Condition: the string is of moderate length. -/
import Derived.Test.YtbabencadnlmlaaDoorLexQ
import Derived.Laws.DeepStrings4
namespace Go.Proofs.YtbabencadnlmlaaDoor
open Go.RowKit

/-- What 'next' hands back. -/
def NextPost (R : LexRes) (at_ : Nat) (w : World) (e : Ending) (w' : World) : Prop :=
  (match R with
    | .tok k t n => e = .returned (.tuple #[.agg #[.int .i64 k, .int .i64 at_, .string ⟨t.toArray⟩], .int .i64 ((at_ + n : Nat) : Int), .int .i64 0])
    | .trunc => e = .returned (.tuple #[.agg #[.int .i64 4, .int .i64 at_, .string ⟨#[]⟩], .int .i64 0, .int .i64 2])
    | .bad => e = .returned (.tuple #[.agg #[.int .i64 0, .int .i64 0, .string ⟨#[]⟩], .int .i64 0, .int .i64 5])) ∧ Below w.heap.size w w'

theorem lexTok_at (s : ByteArray) (k : Nat) (h : k < s.size) : lexTok (s.data.toList.drop k) =
    (if isUpper s[k] then .tok 1 ((s.data.toList.drop k).take (runLen isUpper (s.data.toList.drop k))) (runLen isUpper (s.data.toList.drop k))
    else if isLower s[k] then .tok 2 ((s.data.toList.drop k).take (runLen isInner (s.data.toList.drop k))) (runLen isInner (s.data.toList.drop k))
    else if isDigit s[k] then .tok 3 ((s.data.toList.drop k).take (runLen isDigit (s.data.toList.drop k))) (runLen isDigit (s.data.toList.drop k))
    else if s[k].toNat = 39 then (match unq (s.data.toList.drop (k + 1)) with | none => .trunc | some x => .tok 4 x.1 (x.2 + 1))
    else if isSign s[k] then .tok 5 [s[k]] 1 else .bad) := by
  rw [drop_cons s k h]; rfl

theorem NextPost_of {R R' : LexRes} {at_ : Nat} {w w' : World} {e : Ending} (h : R = R') (hp : NextPost R' at_ w e w') : NextPost R at_ w e w' := h ▸ hp

theorem extract_at (s : ByteArray) (a n : Nat) : s.extract a (a + n) = ⟨((s.data.toList.drop a).take n).toArray⟩ := by
  have h := ByteArray.extract_mk s.data.toList a (a + n)
  rw [Nat.add_sub_cancel_left] at h
  rw [← h]

set_option maxHeartbeats 1000000 in
theorem next_upper (s : ByteArray) (hs : s.size ≤ 1000000) (at_ : Nat) (hat : at_ < s.size) (w : World) (hU : isUpper s[at_] = true) :
    Calls Tryd.prog 20 #[.string s, .int .i64 (at_ : Int)] w (NextPost (lexTok (s.data.toList.drop at_)) at_ w) := by
  have hs' : s.size ≤ maxLen := by unfold maxLen; omega
  have hl := runLen_le isUpper (s.data.toList.drop at_)
  rw [List.length_drop, ba_len] at hl
  have H : Hid (lexTok (s.data.toList.drop at_) = .tok 1 ((s.data.toList.drop at_).take (runLen isUpper (s.data.toList.drop at_))) (runLen isUpper (s.data.toList.drop at_))) := by
    rw [lexTok_at s at_ hat, if_pos hU]; trivial
  go_enter Tryd.func20, Tryd.ntmps20
  go_wp2_with (first
    | (go_at_call 18; with_reducible refine (run_at _ _ upper_any _ hs' _ (by omega) (by omega) _).mono ?_; rintro e w' ⟨rfl, rfl⟩)
    | (go_at_call 24; refine (upper_any.ret _ _).mono ?_; rintro e w' ⟨rfl, rfl⟩))
  refine bodyPost_ret (v := .tuple #[.agg #[.int .i64 1, .int .i64 at_, .string (s.extract at_ (at_ + runLen isUpper (s.data.toList.drop at_)))], .int .i64 (at_ + runLen isUpper (s.data.toList.drop at_)), .int .i64 0])
    (by simp [results, Tryd.results20, go_sem]) rfl (NextPost_of H.out ⟨?_, below_alloc_two _ _ _⟩)
  rw [extract_at]; simp
set_option maxHeartbeats 1000000 in
theorem next_lower (s : ByteArray) (hs : s.size ≤ 1000000) (at_ : Nat) (hat : at_ < s.size) (w : World) (hU : isUpper s[at_] = false) (hL : isLower s[at_] = true) :
    Calls Tryd.prog 20 #[.string s, .int .i64 (at_ : Int)] w (NextPost (lexTok (s.data.toList.drop at_)) at_ w) := by
  have hs' : s.size ≤ maxLen := by unfold maxLen; omega
  have hl := runLen_le isInner (s.data.toList.drop at_)
  rw [List.length_drop, ba_len] at hl
  have H : Hid (lexTok (s.data.toList.drop at_) = .tok 2 ((s.data.toList.drop at_).take (runLen isInner (s.data.toList.drop at_))) (runLen isInner (s.data.toList.drop at_))) := by
    rw [lexTok_at s at_ hat, if_neg (by simp [hU]), if_pos hL]; trivial
  go_enter Tryd.func20, Tryd.ntmps20
  go_wp2_with (first
    | (go_at_call 18; with_reducible refine (run_at _ _ inner_any _ hs' _ (by omega) (by omega) _).mono ?_; rintro e w' ⟨rfl, rfl⟩)
    | (go_at_call 24; refine (upper_any.ret _ _).mono ?_; rintro e w' ⟨rfl, rfl⟩)
    | (go_at_call 25; refine (lower_any.ret _ _).mono ?_; rintro e w' ⟨rfl, rfl⟩))
  refine bodyPost_ret (v := .tuple #[.agg #[.int .i64 2, .int .i64 at_, .string (s.extract at_ (at_ + runLen isInner (s.data.toList.drop at_)))], .int .i64 (at_ + runLen isInner (s.data.toList.drop at_)), .int .i64 0])
    (by simp [results, Tryd.results20, go_sem]) rfl (NextPost_of H.out ⟨?_, below_alloc_two _ _ _⟩)
  rw [extract_at]; simp
set_option maxHeartbeats 1000000 in
theorem next_digit (s : ByteArray) (hs : s.size ≤ 1000000) (at_ : Nat) (hat : at_ < s.size) (w : World) (hU : isUpper s[at_] = false) (hL : isLower s[at_] = false) (hD : isDigit s[at_] = true) :
    Calls Tryd.prog 20 #[.string s, .int .i64 (at_ : Int)] w (NextPost (lexTok (s.data.toList.drop at_)) at_ w) := by
  have hs' : s.size ≤ maxLen := by unfold maxLen; omega
  have hl := runLen_le isDigit (s.data.toList.drop at_)
  rw [List.length_drop, ba_len] at hl
  have H : Hid (lexTok (s.data.toList.drop at_) = .tok 3 ((s.data.toList.drop at_).take (runLen isDigit (s.data.toList.drop at_))) (runLen isDigit (s.data.toList.drop at_))) := by
    rw [lexTok_at s at_ hat, if_neg (by simp [hU]), if_neg (by simp [hL]), if_pos hD]; trivial
  go_enter Tryd.func20, Tryd.ntmps20
  go_wp2_with (first
    | (go_at_call 18; with_reducible refine (run_at _ _ digit_any _ hs' _ (by omega) (by omega) _).mono ?_; rintro e w' ⟨rfl, rfl⟩)
    | (go_at_call 24; refine (upper_any.ret _ _).mono ?_; rintro e w' ⟨rfl, rfl⟩)
    | (go_at_call 25; refine (lower_any.ret _ _).mono ?_; rintro e w' ⟨rfl, rfl⟩)
    | (go_at_call 27; refine (digit_any.ret _ _).mono ?_; rintro e w' ⟨rfl, rfl⟩))
  refine bodyPost_ret (v := .tuple #[.agg #[.int .i64 3, .int .i64 at_, .string (s.extract at_ (at_ + runLen isDigit (s.data.toList.drop at_)))], .int .i64 (at_ + runLen isDigit (s.data.toList.drop at_)), .int .i64 0])
    (by simp [results, Tryd.results20, go_sem]) rfl (NextPost_of H.out ⟨?_, below_alloc_two _ _ _⟩)
  rw [extract_at]; simp
set_option maxHeartbeats 1000000 in
theorem next_sign (s : ByteArray) (hs : s.size ≤ 1000000) (at_ : Nat) (hat : at_ < s.size) (w : World) (hU : isUpper s[at_] = false) (hL : isLower s[at_] = false) (hD : isDigit s[at_] = false) (hQ : ((s[at_].toNat : Int) == 39) = false) (hS : decide (0 ≤ signAt s[at_]) = true) :
    Calls Tryd.prog 20 #[.string s, .int .i64 (at_ : Int)] w (NextPost (lexTok (s.data.toList.drop at_)) at_ w) := by
  have hs' : s.size ≤ maxLen := by unfold maxLen; omega
  have H : Hid (lexTok (s.data.toList.drop at_) = .tok 5 [s[at_]] 1) := by
    rw [signAt_sign] at hS
    rw [lexTok_at s at_ hat, if_neg (by simp [hU]), if_neg (by simp [hL]), if_neg (by simp [hD]), if_neg (by rw [beq_eq_false_iff_ne] at hQ; omega), if_pos hS]; trivial
  go_enter Tryd.func20, Tryd.ntmps20
  go_wp2_with (first
    | (go_at_call 24; refine (upper_any.ret _ _).mono ?_; rintro e w' ⟨rfl, rfl⟩)
    | (go_at_call 25; refine (lower_any.ret _ _).mono ?_; rintro e w' ⟨rfl, rfl⟩)
    | (go_at_call 27; refine (digit_any.ret _ _).mono ?_; rintro e w' ⟨rfl, rfl⟩)
    | (go_at_call 28; refine (indexByte_any _ _).mono ?_; rintro e w' ⟨rfl, rfl⟩)
    | fail)
  refine bodyPost_ret (v := .tuple #[.agg #[.int .i64 5, .int .i64 at_, .string (s.extract at_ (at_ + 1))], .int .i64 (at_ + 1), .int .i64 0])
    (by simp [results, Tryd.results20, go_sem]) rfl (NextPost_of H.out ⟨?_, below_alloc_two _ _ _⟩)
  rw [extract_at, drop_cons s at_ hat]; simp
set_option maxHeartbeats 1000000 in
theorem next_bad (s : ByteArray) (hs : s.size ≤ 1000000) (at_ : Nat) (hat : at_ < s.size) (w : World) (hU : isUpper s[at_] = false) (hL : isLower s[at_] = false) (hD : isDigit s[at_] = false) (hQ : ((s[at_].toNat : Int) == 39) = false) (hS : decide (0 ≤ signAt s[at_]) = false) :
    Calls Tryd.prog 20 #[.string s, .int .i64 (at_ : Int)] w (NextPost (lexTok (s.data.toList.drop at_)) at_ w) := by
  have hs' : s.size ≤ maxLen := by unfold maxLen; omega
  have H : Hid (lexTok (s.data.toList.drop at_) = .bad) := by
    rw [signAt_sign] at hS
    rw [lexTok_at s at_ hat, if_neg (by simp [hU]), if_neg (by simp [hL]), if_neg (by simp [hD]), if_neg (by rw [beq_eq_false_iff_ne] at hQ; omega), if_neg (by simp [hS])]; trivial
  go_enter Tryd.func20, Tryd.ntmps20
  go_wp2_with (first
    | (go_at_call 24; refine (upper_any.ret _ _).mono ?_; rintro e w' ⟨rfl, rfl⟩)
    | (go_at_call 25; refine (lower_any.ret _ _).mono ?_; rintro e w' ⟨rfl, rfl⟩)
    | (go_at_call 27; refine (digit_any.ret _ _).mono ?_; rintro e w' ⟨rfl, rfl⟩)
    | (go_at_call 28; refine (indexByte_any _ _).mono ?_; rintro e w' ⟨rfl, rfl⟩)
    | fail)
  refine bodyPost_ret (v := .tuple #[.agg #[.int .i64 0, .int .i64 0, .string ⟨#[]⟩], .int .i64 0, .int .i64 5])
    (by simp [results, Tryd.results20, go_sem]) rfl (NextPost_of H.out ⟨rfl, below_alloc_two _ _ _⟩)
set_option maxHeartbeats 1000000 in
theorem next_quote (s : ByteArray) (hs : s.size ≤ 1000000) (at_ : Nat) (hat : at_ < s.size) (w : World) (hU : isUpper s[at_] = false) (hL : isLower s[at_] = false) (hD : isDigit s[at_] = false) (hQ : ((s[at_].toNat : Int) == 39) = true) :
    Calls Tryd.prog 20 #[.string s, .int .i64 (at_ : Int)] w (NextPost (lexTok (s.data.toList.drop at_)) at_ w) := by
  have hs' : s.size ≤ maxLen := by unfold maxLen; omega
  have H : Hid (lexTok (s.data.toList.drop at_) = (match unq (s.data.toList.drop (at_ + 1)) with | none => .trunc | some x => .tok 4 x.1 (x.2 + 1))) := by
    rw [lexTok_at s at_ hat, if_neg (by simp [hU]), if_neg (by simp [hL]), if_neg (by simp [hD]), if_pos (by rw [beq_iff_eq] at hQ; omega)]; trivial
  have HR := quoted_any s hs at_ hat
  generalize unq (s.data.toList.drop (at_ + 1)) = R at H HR
  go_enter Tryd.func20, Tryd.ntmps20
  go_wp2_with (first
    | (go_at_call 24; refine (upper_any.ret _ _).mono ?_; rintro e w' ⟨rfl, rfl⟩)
    | (go_at_call 25; refine (lower_any.ret _ _).mono ?_; rintro e w' ⟨rfl, rfl⟩)
    | (go_at_call 27; refine (digit_any.ret _ _).mono ?_; rintro e w' ⟨rfl, rfl⟩)
    | (go_at_call 28; refine (indexByte_any _ _).mono ?_; rintro e w' ⟨rfl, rfl⟩)
    | fail)
  refine (HR _).mono ?_
  cases R with
  | none =>
    rintro e w' ⟨rfl, hb⟩
    obtain ⟨hc, hf⟩ := bcell hb
    have hz : w.heap.size + 1 + 1 ≤ w'.heap.size := by have := hb.size; simp at this; omega
    have c0 : w'.cell? ⟨w.heap.size, 0, none⟩ = some (.int .i64 0) := by rw [hc _ _ (by simp; omega)]; simp [go_sem]
    have c1 : w'.cell? ⟨w.heap.size, 1, none⟩ = some (.int .i64 0) := by rw [hc _ _ (by simp; omega)]; simp [go_sem]
    have c2 : w'.cell? ⟨w.heap.size, 2, none⟩ = some (.string ⟨#[]⟩) := by rw [hc _ _ (by simp; omega)]; simp [go_sem]
    go_wp2_with fail
    clear hc hf
    refine bodyPost_ret (v := .tuple #[.agg #[.int .i64 4, .int .i64 at_, .string ⟨#[]⟩], .int .i64 0, .int .i64 2])
      (by simp [results, Tryd.results20, go_sem, c0, c1, c2]) rfl (NextPost_of H.out ⟨rfl, ?_⟩)
    exact ((((below_two' hb).setCell (by simp) _).setCell (by simp) _).setCell (by simp) _).setCell (by simp) _
  | some x =>
    rintro e w' ⟨rfl, hb⟩
    obtain ⟨hc, hf⟩ := bcell hb
    have hz : w.heap.size + 1 + 1 ≤ w'.heap.size := by have := hb.size; simp at this; omega
    have c0 : w'.cell? ⟨w.heap.size, 0, none⟩ = some (.int .i64 0) := by rw [hc _ _ (by simp; omega)]; simp [go_sem]
    have c1 : w'.cell? ⟨w.heap.size, 1, none⟩ = some (.int .i64 0) := by rw [hc _ _ (by simp; omega)]; simp [go_sem]
    have c2 : w'.cell? ⟨w.heap.size, 2, none⟩ = some (.string ⟨#[]⟩) := by rw [hc _ _ (by simp; omega)]; simp [go_sem]
    go_wp2_with fail
    clear hc hf
    refine bodyPost_ret (v := .tuple #[.agg #[.int .i64 4, .int .i64 at_, .string ⟨x.1.toArray⟩], .int .i64 ((at_ + 1 + x.2 : Nat) : Int), .int .i64 0])
      (by simp [results, Tryd.results20, go_sem, c0, c1, c2]) rfl (NextPost_of H.out ⟨?_, ?_⟩)
    · simp; omega
    · exact ((((below_two' hb).setCell (by simp) _).setCell (by simp) _).setCell (by simp) _).setCell (by simp) _

theorem next_any (s : ByteArray) (hs : s.size ≤ 1000000) (at_ : Nat) (hat : at_ < s.size) (w : World) :
    Calls Tryd.prog 20 #[.string s, .int .i64 (at_ : Int)] w (NextPost (lexTok (s.data.toList.drop at_)) at_ w) := by
  cases hU : isUpper s[at_]
  · cases hL : isLower s[at_]
    · cases hD : isDigit s[at_]
      · cases hQ : ((s[at_].toNat : Int) == 39)
        · cases hS : decide (0 ≤ signAt s[at_])
          · exact next_bad s hs at_ hat w hU hL hD hQ hS
          · exact next_sign s hs at_ hat w hU hL hD hQ hS
        · exact next_quote s hs at_ hat w hU hL hD hQ
      · exact next_digit s hs at_ hat w hU hL hD
    · exact next_lower s hs at_ hat w hU hL
  · exact next_upper s hs at_ hat w hU
end Go.Proofs.YtbabencadnlmlaaDoor
