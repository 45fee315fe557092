/- The reference's 'extent': the token that starts at an offset. Condition: the string is of moderate length. -/
import Derived.Test.YtbabencadnlmlaaDoorLexR
import Derived.Test.YtbabencadnlmlaaDoorLexN
import Derived.Deep.QuietTactic
import Derived.BigQuiet
import Derived.Lib.BufferRead
namespace Go.Proofs.YtbabencadnlmlaaDoor
open Go.RowKit

/-- What 'extent' hands back. -/
def ExtPost (R : LexRes) (n : Nat) (at_ : Nat) (w : World) (e : Ending) (w' : World) : Prop :=
  (match R with
    | .tok k t m => e = .returned (.tuple #[.int .i64 ((at_ + m : Nat) : Int), .int .i64 k, .string ⟨t.toArray⟩, .bool true])
    | .trunc => e = .returned (.tuple #[.int .i64 n, .int .i64 4, .string ⟨#[]⟩, .bool false])
    | .bad => e = .returned (.tuple #[.int .i64 ((at_ + 1 : Nat) : Int), .int .i64 0, .string ⟨#[]⟩, .bool true])) ∧ Below w.heap.size w w'
theorem inner_of_lower (c : UInt8) (h : isLower c = true) : isInner c = true := by simp [isLower, isInner] at *; omega
theorem ExtPost_of {R R' : LexRes} {n at_ : Nat} {w w' : World} {e : Ending} (h : R = R') (hp : ExtPost R' n at_ w e w') : ExtPost R n at_ w e w' := h ▸ hp

set_option maxHeartbeats 1000000 in
theorem extent_upper (s : ByteArray) (hs : s.size ≤ 1000000) (at_ : Nat) (hat : at_ < s.size) (w : World) (hU : isUpper s[at_] = true) :
    Calls Tryd.prog 23 #[.string s, .int .i64 (at_ : Int)] w (ExtPost (lexTok (s.data.toList.drop at_)) s.size at_ w) := by
  have hl := runLen_le isUpper (s.data.toList.drop at_)
  rw [List.length_drop, ba_len] at hl
  have H : Hid (lexTok (s.data.toList.drop at_) = .tok 1 ((s.data.toList.drop at_).take (runLen isUpper (s.data.toList.drop at_))) (runLen isUpper (s.data.toList.drop at_))) := by
    rw [lexTok_at s at_ hat, if_pos hU]; trivial
  have HL := Lib.hid (runLen_yes isUpper s at_ hat hU)
  go_enter Tryd.func23, Tryd.ntmps23
  go_wp2_with (first
    | (go_at_call 38; refine (capital_any.ret _ _).mono ?_; rintro e w' ⟨rfl, rfl⟩))
  go_loop [8] (fun i => ∃ k : Nat, at_ + 1 ≤ k ∧ k ≤ s.size ∧ i = .int .i64 k ∧ k + runLen isUpper (s.data.toList.drop k) = at_ + 1 + runLen isUpper (s.data.toList.drop (at_ + 1))) (fun i => s.size - (intOf i).toNat)
  case atStart => exact ⟨at_ + 1, Nat.le_refl _, hat, by go_num, rfl⟩
  case round =>
    obtain ⟨k, hk1, hk2, rfl, hR⟩ := hrel
    have HR := Lib.hid hR
    clear hR
    by_cases hgo : ∃ hlt : k < s.size, isUpper s[k] = true
    · obtain ⟨hlt, hp⟩ := hgo
      have H0 := Lib.hid (runLen_yes isUpper s k hlt hp)
      go_wp2_with (go_at_call 38; refine (capital_any.ret _ _).mono ?_; rintro e w' ⟨rfl, rfl⟩)
      go_round
      case rel => exact ⟨k + 1, by omega, by omega, by go_num, by have h1 := HR.out; have h2 := H0.out; omega⟩
      case measure => simp [intOf]; omega
    · have H0 : Hid (k = at_ + runLen isUpper (s.data.toList.drop at_)) := by
        have h1 := HR.out
        have h2 := HL.out
        rcases Nat.lt_or_ge k s.size with hlt | hge
        · have h3 := runLen_no isUpper s k hlt (by simpa using fun e => hgo ⟨hlt, e⟩)
          show k = _; omega
        · have h3 := runLen_end isUpper s k hge
          show k = _; omega
      have hng : ∀ hlt : k < s.size, isUpper s[k] = false := fun hlt => by simpa using fun e => hgo ⟨hlt, e⟩
      clear hgo
      by_cases hlt : k < s.size
      all_goals (try have hp := hng hlt)
      all_goals clear hng
      all_goals go_wp2_with (go_at_call 38; refine (capital_any.ret _ _).mono ?_; rintro e w' ⟨rfl, rfl⟩)
      all_goals go_quiet (fail)
      all_goals go_wp2_with fail
      all_goals refine bodyPost_ret (v := .tuple #[.int .i64 k, .int .i64 1, .string (s.extract at_ k), .bool true]) (by simp [results, Tryd.results23, go_sem]) rfl (ExtPost_of H.out ⟨?_, below_drewN (Below.refl _ _) _⟩)
      all_goals rw [H0.out, extract_at]; simp
set_option maxHeartbeats 1000000 in
theorem extent_lower (s : ByteArray) (hs : s.size ≤ 1000000) (at_ : Nat) (hat : at_ < s.size) (w : World) (hU : isUpper s[at_] = false) (hL : isLower s[at_] = true) :
    Calls Tryd.prog 23 #[.string s, .int .i64 (at_ : Int)] w (ExtPost (lexTok (s.data.toList.drop at_)) s.size at_ w) := by
  have hl := runLen_le isInner (s.data.toList.drop at_)
  rw [List.length_drop, ba_len] at hl
  have H : Hid (lexTok (s.data.toList.drop at_) = .tok 2 ((s.data.toList.drop at_).take (runLen isInner (s.data.toList.drop at_))) (runLen isInner (s.data.toList.drop at_))) := by
    rw [lexTok_at s at_ hat, if_neg (by simp [hU]), if_pos hL]; trivial
  have HL := Lib.hid (runLen_yes isInner s at_ hat (inner_of_lower _ hL))
  go_enter Tryd.func23, Tryd.ntmps23
  go_wp2_with (first
    | (go_at_call 38; refine (capital_any.ret _ _).mono ?_; rintro e w' ⟨rfl, rfl⟩)
    | (go_at_call 30; refine (rlower_any.ret _ _).mono ?_; rintro e w' ⟨rfl, rfl⟩))
  go_loop [8] (fun i => ∃ k : Nat, at_ + 1 ≤ k ∧ k ≤ s.size ∧ i = .int .i64 k ∧ k + runLen isInner (s.data.toList.drop k) = at_ + 1 + runLen isInner (s.data.toList.drop (at_ + 1))) (fun i => s.size - (intOf i).toNat)
  case atStart => exact ⟨at_ + 1, Nat.le_refl _, hat, by go_num, rfl⟩
  case round =>
    obtain ⟨k, hk1, hk2, rfl, hR⟩ := hrel
    have HR := Lib.hid hR
    clear hR
    by_cases hgo : ∃ hlt : k < s.size, isInner s[k] = true
    · obtain ⟨hlt, hp⟩ := hgo
      have H0 := Lib.hid (runLen_yes isInner s k hlt hp)
      go_wp2_with (go_at_call 39; refine (inName_any.ret _ _).mono ?_; rintro e w' ⟨rfl, rfl⟩)
      go_round
      case rel => exact ⟨k + 1, by omega, by omega, by go_num, by have h1 := HR.out; have h2 := H0.out; omega⟩
      case measure => simp [intOf]; omega
    · have H0 : Hid (k = at_ + runLen isInner (s.data.toList.drop at_)) := by
        have h1 := HR.out
        have h2 := HL.out
        rcases Nat.lt_or_ge k s.size with hlt | hge
        · have h3 := runLen_no isInner s k hlt (by simpa using fun e => hgo ⟨hlt, e⟩)
          show k = _; omega
        · have h3 := runLen_end isInner s k hge
          show k = _; omega
      have hng : ∀ hlt : k < s.size, isInner s[k] = false := fun hlt => by simpa using fun e => hgo ⟨hlt, e⟩
      clear hgo
      by_cases hlt : k < s.size
      all_goals (try have hp := hng hlt)
      all_goals clear hng
      all_goals go_wp2_with (go_at_call 39; refine (inName_any.ret _ _).mono ?_; rintro e w' ⟨rfl, rfl⟩)
      all_goals go_quiet (fail)
      all_goals go_wp2_with fail
      all_goals refine bodyPost_ret (v := .tuple #[.int .i64 k, .int .i64 2, .string (s.extract at_ k), .bool true]) (by simp [results, Tryd.results23, go_sem]) rfl (ExtPost_of H.out ⟨?_, below_drewN (Below.refl _ _) _⟩)
      all_goals rw [H0.out, extract_at]; simp
set_option maxHeartbeats 1000000 in
theorem extent_digit (s : ByteArray) (hs : s.size ≤ 1000000) (at_ : Nat) (hat : at_ < s.size) (w : World) (hU : isUpper s[at_] = false) (hL : isLower s[at_] = false) (hD : isDigit s[at_] = true) :
    Calls Tryd.prog 23 #[.string s, .int .i64 (at_ : Int)] w (ExtPost (lexTok (s.data.toList.drop at_)) s.size at_ w) := by
  have hl := runLen_le isDigit (s.data.toList.drop at_)
  rw [List.length_drop, ba_len] at hl
  have H : Hid (lexTok (s.data.toList.drop at_) = .tok 3 ((s.data.toList.drop at_).take (runLen isDigit (s.data.toList.drop at_))) (runLen isDigit (s.data.toList.drop at_))) := by
    rw [lexTok_at s at_ hat, if_neg (by simp [hU]), if_neg (by simp [hL]), if_pos hD]; trivial
  have HL := Lib.hid (runLen_yes isDigit s at_ hat hD)
  go_enter Tryd.func23, Tryd.ntmps23
  go_wp2_with (first
    | (go_at_call 38; refine (capital_any.ret _ _).mono ?_; rintro e w' ⟨rfl, rfl⟩)
    | (go_at_call 30; refine (rlower_any.ret _ _).mono ?_; rintro e w' ⟨rfl, rfl⟩)
    | (go_at_call 40; refine (rdigit_any.ret _ _).mono ?_; rintro e w' ⟨rfl, rfl⟩))
  go_loop [8] (fun i => ∃ k : Nat, at_ + 1 ≤ k ∧ k ≤ s.size ∧ i = .int .i64 k ∧ k + runLen isDigit (s.data.toList.drop k) = at_ + 1 + runLen isDigit (s.data.toList.drop (at_ + 1))) (fun i => s.size - (intOf i).toNat)
  case atStart => exact ⟨at_ + 1, Nat.le_refl _, hat, by go_num, rfl⟩
  case round =>
    obtain ⟨k, hk1, hk2, rfl, hR⟩ := hrel
    have HR := Lib.hid hR
    clear hR
    by_cases hgo : ∃ hlt : k < s.size, isDigit s[k] = true
    · obtain ⟨hlt, hp⟩ := hgo
      have H0 := Lib.hid (runLen_yes isDigit s k hlt hp)
      go_wp2_with (go_at_call 40; refine (rdigit_any.ret _ _).mono ?_; rintro e w' ⟨rfl, rfl⟩)
      go_round
      case rel => exact ⟨k + 1, by omega, by omega, by go_num, by have h1 := HR.out; have h2 := H0.out; omega⟩
      case measure => simp [intOf]; omega
    · have H0 : Hid (k = at_ + runLen isDigit (s.data.toList.drop at_)) := by
        have h1 := HR.out
        have h2 := HL.out
        rcases Nat.lt_or_ge k s.size with hlt | hge
        · have h3 := runLen_no isDigit s k hlt (by simpa using fun e => hgo ⟨hlt, e⟩)
          show k = _; omega
        · have h3 := runLen_end isDigit s k hge
          show k = _; omega
      have hng : ∀ hlt : k < s.size, isDigit s[k] = false := fun hlt => by simpa using fun e => hgo ⟨hlt, e⟩
      clear hgo
      by_cases hlt : k < s.size
      all_goals (try have hp := hng hlt)
      all_goals clear hng
      all_goals go_wp2_with (go_at_call 40; refine (rdigit_any.ret _ _).mono ?_; rintro e w' ⟨rfl, rfl⟩)
      all_goals go_quiet (fail)
      all_goals go_wp2_with fail
      all_goals refine bodyPost_ret (v := .tuple #[.int .i64 k, .int .i64 3, .string (s.extract at_ k), .bool true]) (by simp [results, Tryd.results23, go_sem]) rfl (ExtPost_of H.out ⟨?_, below_drewN (Below.refl _ _) _⟩)
      all_goals rw [H0.out, extract_at]; simp
set_option maxHeartbeats 1000000 in
theorem extent_sign (s : ByteArray) (hs : s.size ≤ 1000000) (at_ : Nat) (hat : at_ < s.size) (w : World) (hU : isUpper s[at_] = false) (hL : isLower s[at_] = false) (hD : isDigit s[at_] = false) (hS : isSign s[at_] = true) :
    Calls Tryd.prog 23 #[.string s, .int .i64 (at_ : Int)] w (ExtPost (lexTok (s.data.toList.drop at_)) s.size at_ w) := by
  have H : Hid (lexTok (s.data.toList.drop at_) = .tok 5 [s[at_]] 1) := by
    rw [lexTok_at s at_ hat, if_neg (by simp [hU]), if_neg (by simp [hL]), if_neg (by simp [hD]), if_neg (fun e => by rw [byte_39 _ e] at hS; exact absurd hS (by decide)), if_pos hS]; trivial
  go_enter Tryd.func23, Tryd.ntmps23
  go_wp2_with (first
    | (go_at_call 38; refine (capital_any.ret _ _).mono ?_; rintro e w' ⟨rfl, rfl⟩)
    | (go_at_call 30; refine (rlower_any.ret _ _).mono ?_; rintro e w' ⟨rfl, rfl⟩)
    | (go_at_call 40; refine (rdigit_any.ret _ _).mono ?_; rintro e w' ⟨rfl, rfl⟩)
    | (go_at_call 31; refine (sign_any.ret _ _).mono ?_; rintro e w' ⟨rfl, rfl⟩))
  go_quiet (fail)
  go_wp2_with fail
  refine bodyPost_ret (v := .tuple #[.int .i64 (at_ + 1), .int .i64 5, .string (s.extract at_ (at_ + 1)), .bool true]) (by simp [results, Tryd.results23, go_sem]) rfl (ExtPost_of H.out ⟨?_, below_drewN (Below.refl _ _) _⟩)
  rw [extract_at, drop_cons s at_ hat]; simp
set_option maxHeartbeats 1000000 in
theorem extent_bad (s : ByteArray) (hs : s.size ≤ 1000000) (at_ : Nat) (hat : at_ < s.size) (w : World) (hU : isUpper s[at_] = false) (hL : isLower s[at_] = false) (hD : isDigit s[at_] = false) (hS : isSign s[at_] = false) (hQ : ((s[at_].toNat : Int) != 39) = true) :
    Calls Tryd.prog 23 #[.string s, .int .i64 (at_ : Int)] w (ExtPost (lexTok (s.data.toList.drop at_)) s.size at_ w) := by
  have H : Hid (lexTok (s.data.toList.drop at_) = .bad) := by
    rw [lexTok_at s at_ hat, if_neg (by simp [hU]), if_neg (by simp [hL]), if_neg (by simp [hD]), if_neg (by rw [bne_iff_ne] at hQ; omega), if_neg (by simp [hS])]; trivial
  go_enter Tryd.func23, Tryd.ntmps23
  go_wp2_with (first
    | (go_at_call 38; refine (capital_any.ret _ _).mono ?_; rintro e w' ⟨rfl, rfl⟩)
    | (go_at_call 30; refine (rlower_any.ret _ _).mono ?_; rintro e w' ⟨rfl, rfl⟩)
    | (go_at_call 40; refine (rdigit_any.ret _ _).mono ?_; rintro e w' ⟨rfl, rfl⟩)
    | (go_at_call 31; refine (sign_any.ret _ _).mono ?_; rintro e w' ⟨rfl, rfl⟩))
  refine bodyPost_ret (v := .tuple #[.int .i64 (at_ + 1), .int .i64 0, .string ⟨#[]⟩, .bool true]) (by simp [results, Tryd.results23, go_sem]) rfl (ExtPost_of H.out ⟨by simp, Below.refl _ _⟩)

theorem info_u8 : (Tryd.prog.info? 5).map (fun i => (i.zero, i.size, i.bytes)) = some (some (.int .u8 0), 1, 1) := by kernel_rfl

/-- What the loop over a quoted text keeps. -/
structure ExtRel (s : ByteArray) (at_ : Nat) (w : World) (k : Nat) (acc : List UInt8) (v : Value) (wr : World) : Prop where
  lo : at_ + 1 ≤ k
  hi : k ≤ s.size
  val : (unq (s.data.toList.drop k)).map (fun x => (acc ++ x.1, k - (at_ + 1) + x.2)) = unq (s.data.toList.drop (at_ + 1))
  own : wr.ownsRow w.heap.size 5 1 v acc.length (Lib.byteCells acc)
  len : acc.length ≤ k
  below : Below w.heap.size w wr

theorem own_convert {B : Nat} {v : Value} {l : List UInt8} {W : World} (h : W.ownsRow B 5 1 v l.length (Lib.byteCells l)) :
    (convert 39 9 v).run Tryd.prog W = .ok (.string ⟨l.toArray⟩) W := by
  rcases h.2 with ⟨rfl, h0⟩ | ⟨g, cap, cur, rfl, hb, hg, hn, hm, hc, ht⟩
  · rw [List.eq_nil_of_length_eq_zero h0]
    exact Lib.run_convert_nil_bytes W _ _ _ 0 Tryd.underlying39 Tryd.underlying5 Tryd.underlying9
  · exact run_convert_bytes_back W _ _ _ _ cap l Tryd.underlying39 Tryd.underlying5 Tryd.underlying9 (Lib.bytes_of_row hg (by simpa using ht))

theorem ExtRel.plain {s : ByteArray} {at_ : Nat} {w : World} {k : Nat} {acc : List UInt8} {v v' : Value} {wr w' : World} (h : ExtRel s at_ w k acc v wr) (hk : k < s.size) (hc : s[k].toNat ≠ 39)
    (hb : w'.ownsRow w.heap.size 5 1 v' (acc.length + 1) (Lib.byteCells acc ++ [.int .u8 s[k].toNat])) (hw : Below w.heap.size wr w') : ExtRel s at_ w (k + 1) (acc ++ [s[k]]) v' w' := by
  refine ⟨by have := h.lo; omega, hk, ?_, by rw [byteCells_snoc, List.length_append]; exact hb, by have := h.len; simp; omega, h.below.trans hw⟩
  rw [← h.val, drop_cons s k hk, unq_plain _ _ hc, Option.map_map]
  congr 1; funext x; have := h.lo
  simp; omega
theorem ExtRel.dbl {s : ByteArray} {at_ : Nat} {w : World} {k : Nat} {acc : List UInt8} {v v' : Value} {wr w' : World} (h : ExtRel s at_ w k acc v wr) (hk : k + 1 < s.size) (hc : s[k].toNat = 39) (hd : s[k + 1].toNat = 39)
    (hb : w'.ownsRow w.heap.size 5 1 v' (acc.length + 1) (Lib.byteCells acc ++ [.int .u8 39])) (hw : Below w.heap.size wr w') : ExtRel s at_ w (k + 2) (acc ++ [39]) v' w' := by
  refine ⟨by have := h.lo; omega, hk, ?_, by rw [byteCells_snoc, List.length_append]; exact hb, by have := h.len; simp; omega, h.below.trans hw⟩
  rw [← h.val, drop_cons s k (by omega), drop_cons s (k + 1) hk, unq_dbl _ _ _ hc hd, Option.map_map]
  congr 1; funext x; have := h.lo
  simp; omega
theorem ExtRel.close {s : ByteArray} {at_ : Nat} {w : World} {k : Nat} {acc : List UInt8} {v : Value} {wr : World} (h : ExtRel s at_ w k acc v wr) (hk : k < s.size) (hc : s[k].toNat = 39) (hd : ∀ hk1 : k + 1 < s.size, s[k + 1].toNat ≠ 39) :
    unq (s.data.toList.drop (at_ + 1)) = some (acc, k - at_) := by
  rw [← h.val, drop_cons s k hk, unq_close _ _ hc]
  · have := h.lo; simp; omega
  · intro d q e
    rcases Nat.lt_or_ge (k + 1) s.size with h1 | h1
    · rw [drop_cons s (k + 1) h1] at e; injection e with e1 e2; rw [← e1]; exact hd h1
    · rw [List.drop_of_length_le (by rw [ba_len]; exact h1)] at e; cases e
theorem ExtRel.end_ {s : ByteArray} {at_ : Nat} {w : World} {k : Nat} {acc : List UInt8} {v : Value} {wr : World} (h : ExtRel s at_ w k acc v wr) (hk : s.size ≤ k) :
    unq (s.data.toList.drop (at_ + 1)) = none := by
  rw [← h.val, List.drop_of_length_le (by rw [ba_len]; exact hk)]; rfl

set_option maxHeartbeats 2000000 in
theorem extent_quote (s : ByteArray) (hs : s.size ≤ 1000000) (at_ : Nat) (hat : at_ < s.size) (w : World) (hU : isUpper s[at_] = false) (hL : isLower s[at_] = false) (hD : isDigit s[at_] = false) (hS : isSign s[at_] = false) (hQ : ((s[at_].toNat : Int) != 39) = false) :
    Calls Tryd.prog 23 #[.string s, .int .i64 (at_ : Int)] w (ExtPost (lexTok (s.data.toList.drop at_)) s.size at_ w) := by
  have H : Hid (lexTok (s.data.toList.drop at_) = (match unq (s.data.toList.drop (at_ + 1)) with | none => .trunc | some x => .tok 4 x.1 (x.2 + 1))) := by
    rw [lexTok_at s at_ hat, if_neg (by simp [hU]), if_neg (by simp [hL]), if_neg (by simp [hD]), if_pos (by have h := hQ; simp at h; omega)]; trivial
  obtain ⟨i0, hi, hz0, hz1, hz2⟩ := info_parts info_u8
  go_enter Tryd.func23, Tryd.ntmps23
  go_wp2_with (first
    | (go_at_call 38; refine (capital_any.ret _ _).mono ?_; rintro e w' ⟨rfl, rfl⟩)
    | (go_at_call 30; refine (rlower_any.ret _ _).mono ?_; rintro e w' ⟨rfl, rfl⟩)
    | (go_at_call 40; refine (rdigit_any.ret _ _).mono ?_; rintro e w' ⟨rfl, rfl⟩)
    | (go_at_call 31; refine (sign_any.ret _ _).mono ?_; rintro e w' ⟨rfl, rfl⟩))
  go_loopw [8, 9] (fun i v wr => ∃ (k : Nat) (acc : List UInt8), i = .int .i64 k ∧ ExtRel s at_ w k acc v wr) (fun i _ _ => s.size - (intOf i).toNat)
  case atStart => exact ⟨at_ + 1, [], by go_num, ⟨Nat.le_refl _, hat, by simp, World.ownsRow_nil _ _ _ _, by simp, Below.refl _ _⟩⟩
  case round =>
    obtain ⟨k, acc, rfl, hR⟩ := hrel
    have hlo := hR.lo
    have hhi := hR.hi
    have hsz := hR.below.size
    have hlen := hR.len
    have HR := Lib.hid hR
    clear hR
    by_cases hlt : k < s.size
    · by_cases hc : s[k].toNat = 39
      · have hc1 : ((s[k].toNat : Int) != 39) = false := by simp [hc]
        by_cases hd : ∃ hk1 : k + 1 < s.size, s[k + 1].toNat = 39
        · obtain ⟨hk1, hd⟩ := hd
          have hd1 : ((s[k + 1].toNat : Int) == 39) = true := by simp [hd]
          have HC := Lib.hid hc
          have HD := Lib.hid hd
          clear hc hd
          go_wp2_with (at_builtin; refine wpList_append_lit rfl _ _ 39 rfl w.heap.size 5 (.int .u8 0) 1 1 Tryd.underlying39 hi hz0 hz1 hz2 rfl (by decide) _ _ _ rfl HR.out.own 1 #[.int .u8 39] rfl rfl (by simp [Value.oneCell']) (by unfold maxLen; omega) (by omega) (by omega) ?_; intro v' w' hown' hbel _)
          go_roundw
          case rel => exact ⟨k + 2, acc ++ [39], by go_num, HR.out.dbl hk1 HC.out HD.out hown' hbel⟩
          case measure => simp [intOf]; omega
        · have HC := Lib.hid hc
          have HD : Hid (∀ hk1 : k + 1 < s.size, s[k + 1].toNat ≠ 39) := fun hk1 e => hd ⟨hk1, e⟩
          clear hc hd
          rw [HR.out.close hlt HC.out HD.out] at H
          have hcv : ∀ n, (convert 39 9 u9).run Tryd.prog (wr.drewN n) = .ok (.string ⟨acc.toArray⟩) (wr.drewN n) := fun n => own_convert (HR.out.own : (wr.drewN n).ownsRow _ _ _ _ _ _)
          have hbel := HR.out.below
          by_cases hk1 : k + 1 < s.size
          · have hd1 : ((s[k + 1].toNat : Int) == 39) = false := by have := HD.out hk1; rw [beq_eq_false_iff_ne]; omega
            go_wp2_with fail
            go_quiet (fail)
            go_wp2_with fail
            refine bodyPost_ret (v := .tuple #[.int .i64 (k + 1), .int .i64 4, .string ⟨acc.toArray⟩, .bool true]) (by simp [results, Tryd.results23, go_sem]) rfl (ExtPost_of H.out ⟨?_, below_drewN hbel _⟩)
            simp; omega
          · go_wp2_with fail
            go_quiet (fail)
            go_wp2_with fail
            refine bodyPost_ret (v := .tuple #[.int .i64 (k + 1), .int .i64 4, .string ⟨acc.toArray⟩, .bool true]) (by simp [results, Tryd.results23, go_sem]) rfl (ExtPost_of H.out ⟨?_, below_drewN hbel _⟩)
            simp; omega
      · have hc1 : ((s[k].toNat : Int) != 39) = true := by rw [bne_iff_ne]; omega
        have HC := Lib.hid hc
        clear hc
        go_wp2_with (at_builtin; refine wpList_append_lit rfl _ _ 39 rfl w.heap.size 5 (.int .u8 0) 1 1 Tryd.underlying39 hi hz0 hz1 hz2 rfl (by decide) _ _ _ rfl HR.out.own 1 #[.int .u8 s[k].toNat] rfl rfl (by simp [Value.oneCell']) (by unfold maxLen; omega) (by omega) (by omega) ?_; intro v' w' hown' hbel _)
        go_roundw
        case rel => exact ⟨k + 1, acc ++ [s[k]], by go_num, HR.out.plain hlt HC.out hown' hbel⟩
        case measure => simp [intOf]; omega
    · rw [HR.out.end_ (by omega)] at H
      have hbel := HR.out.below
      go_wp2_with fail
      refine bodyPost_ret (v := .tuple #[.int .i64 k, .int .i64 4, .string ⟨#[]⟩, .bool false]) (by simp [results, Tryd.results23, go_sem]) rfl (ExtPost_of H.out ⟨?_, hbel⟩)
      simp; omega

theorem extent_any (s : ByteArray) (hs : s.size ≤ 1000000) (at_ : Nat) (hat : at_ < s.size) (w : World) :
    Calls Tryd.prog 23 #[.string s, .int .i64 (at_ : Int)] w (ExtPost (lexTok (s.data.toList.drop at_)) s.size at_ w) := by
  cases hU : isUpper s[at_]
  · cases hL : isLower s[at_]
    · cases hD : isDigit s[at_]
      · cases hS : isSign s[at_]
        · cases hQ : ((s[at_].toNat : Int) != 39)
          · exact extent_quote s hs at_ hat w hU hL hD hS hQ
          · exact extent_bad s hs at_ hat w hU hL hD hS hQ
        · exact extent_sign s hs at_ hat w hU hL hD hS
      · exact extent_digit s hs at_ hat w hU hL hD
    · exact extent_lower s hs at_ hat w hU hL
  · exact extent_upper s hs at_ hat w hU
end Go.Proofs.YtbabencadnlmlaaDoor
