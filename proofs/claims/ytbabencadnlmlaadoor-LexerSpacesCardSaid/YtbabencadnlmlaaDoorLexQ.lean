/- The lexer's 'quoted': the content of a quoted string. Condition: the string is of moderate length. -/
import Derived.Test.YtbabencadnlmlaaDoorLexC
import Derived.Test.YtbabencadnlmlaaDoorShBld
namespace Go.Proofs.YtbabencadnlmlaaDoor
open Go.RowKit

/-- What 'quoted' hands back, from what stands behind the quote at an offset. -/
def QuotedPost (R : Option (List UInt8 × Nat)) (at_ : Nat) (w : World) (e : Ending) (w' : World) : Prop :=
  (match R with
    | none => e = .returned (.tuple #[.string ⟨#[]⟩, .int .i64 0, .int .i64 2])
    | some x => e = .returned (.tuple #[.string ⟨x.1.toArray⟩, .int .i64 ((at_ + 1 + x.2 : Nat) : Int), .int .i64 0])) ∧ Below w.heap.size w w'

structure QuotedRel (s : ByteArray) (at_ : Nat) (w : World) (k : Nat) (acc : List UInt8) (wr : World) : Prop where
  lo : at_ + 1 ≤ k
  hi : k ≤ s.size
  val : (unq (s.data.toList.drop k)).map (fun x => (acc ++ x.1, k - (at_ + 1) + x.2)) = unq (s.data.toList.drop (at_ + 1))
  bld : Bld w.heap.size w.heap.size (Lib.byteCells acc) wr
  len : acc.length ≤ k
  below : Below w.heap.size w wr


theorem QuotedRel.plain {s : ByteArray} {at_ : Nat} {w : World} {k : Nat} {acc : List UInt8} {wr w' : World} (h : QuotedRel s at_ w k acc wr) (hk : k < s.size) (hc : s[k].toNat ≠ 39)
    (hb : Bld w.heap.size w.heap.size (Lib.byteCells acc ++ [.int .u8 s[k].toNat]) w') (hw : Below w.heap.size wr w') : QuotedRel s at_ w (k + 1) (acc ++ [s[k]]) w' := by
  refine ⟨by have := h.lo; omega, hk, ?_, by rw [byteCells_snoc]; exact hb, by have := h.len; simp; omega, h.below.trans hw⟩
  rw [← h.val, drop_cons s k hk, unq_plain _ _ hc, Option.map_map]
  congr 1; funext x; have := h.lo
  simp; omega
theorem QuotedRel.dbl {s : ByteArray} {at_ : Nat} {w : World} {k : Nat} {acc : List UInt8} {wr w' : World} (h : QuotedRel s at_ w k acc wr) (hk : k + 1 < s.size) (hc : s[k].toNat = 39) (hd : s[k + 1].toNat = 39)
    (hb : Bld w.heap.size w.heap.size (Lib.byteCells acc ++ [.int .u8 39]) w') (hw : Below w.heap.size wr w') : QuotedRel s at_ w (k + 2) (acc ++ [39]) w' := by
  refine ⟨by have := h.lo; omega, hk, ?_, by rw [byteCells_snoc]; exact hb, by have := h.len; simp; omega, h.below.trans hw⟩
  rw [← h.val, drop_cons s k (by omega), drop_cons s (k + 1) hk, unq_dbl _ _ _ hc hd, Option.map_map]
  congr 1; funext x; have := h.lo
  simp; omega
theorem QuotedRel.close {s : ByteArray} {at_ : Nat} {w : World} {k : Nat} {acc : List UInt8} {wr : World} (h : QuotedRel s at_ w k acc wr) (hk : k < s.size) (hc : s[k].toNat = 39) (hd : ∀ hk1 : k + 1 < s.size, s[k + 1].toNat ≠ 39) :
    unq (s.data.toList.drop (at_ + 1)) = some (acc, k - at_) := by
  rw [← h.val, drop_cons s k hk, unq_close _ _ hc]
  · have := h.lo; simp; omega
  · intro d q e
    rcases Nat.lt_or_ge (k + 1) s.size with h1 | h1
    · rw [drop_cons s (k + 1) h1] at e; injection e with e1 e2; rw [← e1]; exact hd h1
    · rw [List.drop_of_length_le (by rw [ba_len]; exact h1)] at e; cases e
theorem QuotedRel.end_ {s : ByteArray} {at_ : Nat} {w : World} {k : Nat} {acc : List UInt8} {wr : World} (h : QuotedRel s at_ w k acc wr) (hk : s.size ≤ k) :
    unq (s.data.toList.drop (at_ + 1)) = none := by
  rw [← h.val, List.drop_of_length_le (by rw [ba_len]; exact hk)]; rfl

set_option maxHeartbeats 1000000 in
theorem quoted_any (s : ByteArray) (hs : s.size ≤ 1000000) (at_ : Nat) (hat : at_ < s.size) (w : World) :
    Calls Tryd.prog 37 #[.string s, .int .i64 (at_ : Int)] w (QuotedPost (unq (s.data.toList.drop (at_ + 1))) at_ w) := by
  go_enter Tryd.func37, Tryd.ntmps37
  go_wp2_with fail
  go_loopw [8] (fun i wr => ∃ (k : Nat) (acc : List UInt8), i = .int .i64 k ∧ QuotedRel s at_ w k acc wr) (fun i _ => s.size - (intOf i).toNat)
  case atStart => exact ⟨at_ + 1, [], by go_num, ⟨Nat.le_refl _, hat, by simp, bld_fresh w, by simp, below_alloc _ _⟩⟩
  case round =>
    obtain ⟨k, acc, rfl, hR⟩ := hrel
    have hlo := hR.lo
    have hhi := hR.hi
    have hsz := hR.below.size
    have hlen := hR.len
    have HR := Lib.hid hR
    clear hR
    by_cases hlt : k < s.size
    · by_cases hc : s[k].toNat = 39
      · have hc1 : ((s[k].toNat : Int) != 39) = false := by simp [hc]
        by_cases hd : ∃ hk1 : k + 1 < s.size, s[k + 1].toNat = 39
        · obtain ⟨hk1, hd⟩ := hd
          have he : ((k : Int) + 1 == (s.size : Int)) = false := by rw [beq_eq_false_iff_ne]; omega
          have hd1 : ((s[k + 1].toNat : Int) != 39) = false := by simp [hd]
          have HC := Lib.hid hc
          have HD := Lib.hid hd
          clear hc hd
          go_wp2_with (go_at_call 33; refine (bld_WriteByte _ _ _ _ _ HR.out.bld (by rw [byteCells_length]; omega) hsz).mono ?_; rintro e w' ⟨rfl, hb, hw, _⟩)
          go_roundw
          case rel => exact ⟨k + 2, acc ++ [39], by go_num, HR.out.dbl hk1 HC.out HD.out hb hw⟩
          case measure => simp [intOf]; omega
        · have HC := Lib.hid hc
          have HD : Hid (∀ hk1 : k + 1 < s.size, s[k + 1].toNat ≠ 39) := fun hk1 e => hd ⟨hk1, e⟩
          clear hc hd
          by_cases hk1 : k + 1 < s.size
          · have he : ((k : Int) + 1 == (s.size : Int)) = false := by rw [beq_eq_false_iff_ne]; omega
            have hd1 : ((s[k + 1].toNat : Int) != 39) = true := by have := HD.out hk1; rw [bne_iff_ne]; omega
            go_wp2_with (go_at_call 36; refine (bld_String _ _ _ _ HR.out.bld hsz).mono ?_; rintro e w' ⟨rfl, hw⟩)
            go_ret3
            rw [HR.out.close hlt HC.out HD.out]
            exact ⟨by simp; omega, HR.out.below.trans hw⟩
          · have he : ((k : Int) + 1 == (s.size : Int)) = true := by rw [beq_iff_eq]; omega
            go_wp2_with (go_at_call 36; refine (bld_String _ _ _ _ HR.out.bld hsz).mono ?_; rintro e w' ⟨rfl, hw⟩)
            go_ret3
            rw [HR.out.close hlt HC.out HD.out]
            exact ⟨by simp; omega, HR.out.below.trans hw⟩
      · have hc1 : ((s[k].toNat : Int) != 39) = true := by rw [bne_iff_ne]; omega
        have HC := Lib.hid hc
        clear hc
        go_wp2_with (go_at_call 33; refine (bld_WriteByte _ _ _ _ _ HR.out.bld (by rw [byteCells_length]; omega) hsz).mono ?_; rintro e w' ⟨rfl, hb, hw, _⟩)
        go_roundw
        case rel => exact ⟨k + 1, acc ++ [s[k]], by go_num, HR.out.plain hlt HC.out hb hw⟩
        case measure => simp [intOf]; omega
    · go_wp2_with fail
      go_ret3
      rw [HR.out.end_ (by omega)]
      exact ⟨rfl, HR.out.below⟩
end Go.Proofs.YtbabencadnlmlaaDoor
