/- The definition's Parse of a value: constants, numerals. No condition beside moderate length. -/
import Derived.Test.YthjgnpicnpfmjaaDoorValJ
namespace Go.Proofs.YthjgnpicnpfmjaaDoor
open Go.RowKit

set_option maxHeartbeats 2000000 in
theorem rparse_const (s : ByteArray) (hc : s.data.toList = sNull ∨ s.data.toList = sFalse ∨ s.data.toList = sTrue) (w : World) :
    Calls Tryd.prog 19 #[.string s] w fun e w' => e = .returned (.tuple #[aggG (parseG s.data.toList).1, .int .i64 (parseG s.data.toList).2]) ∧ Below w.heap.size w w' := by
  have hs : s = ⟨s.data.toList.toArray⟩ := (bytes_mk s).symm
  rcases hc with hc | hc | hc
  all_goals
    rw [hc] at hs ⊢
    subst hs
    clear hc
    go_enter Tryd.func19, Tryd.ntmps19
    go_wp2_with fail
  · exact bodyPost_ret (v := .tuple #[aggG gnull, .int .i64 0]) (by simp [aggG, gnull, results, Tryd.results19, go_sem]) rfl ⟨rfl, below_alloc _ _⟩
  · exact bodyPost_ret (v := .tuple #[aggG gfalse, .int .i64 0]) (by simp [aggG, gfalse, results, Tryd.results19, go_sem]) rfl ⟨rfl, below_alloc _ _⟩
  · exact bodyPost_ret (v := .tuple #[aggG gtrue, .int .i64 0]) (by simp [aggG, gtrue, results, Tryd.results19, go_sem]) rfl ⟨rfl, below_alloc _ _⟩
set_option maxHeartbeats 4000000 in
theorem rparse_num (s : ByteArray) (hs : s.size ≤ 100000) (w : World) (h1 : s.data.toList ≠ sNull) (h2 : s.data.toList ≠ sFalse) (h3 : s.data.toList ≠ sTrue) (hf : numForm s.data.toList = true) :
    Calls Tryd.prog 19 #[.string s] w fun e w' => e = .returned (.tuple #[aggG (parseG s.data.toList).1, .int .i64 (parseG s.data.toList).2]) ∧ Below w.heap.size w w' := by
  have t1 : (s.toList == [110, 117, 108, 108]) = false := seq_false (by rw [tl_data]; exact h1)
  have t2 : (s.toList == [102, 97, 108, 115, 101]) = false := seq_false (by rw [tl_data]; exact h2)
  have t3 : (s.toList == [116, 114, 117, 101]) = false := seq_false (by rw [tl_data]; exact h3)
  have HP : Hid (parseG s.data.toList = match numOf s.data.toList with | some n => (gint n, 0) | none => (gnull, 10)) := by
    show _ = _
    rw [parseG, if_neg h1, if_neg h2, if_neg h3, if_pos hf]
    cases numOf s.data.toList <;> rfl
  have HN := Lib.hid (rnumber_any s (by unfold maxLen; omega) (w.alloc (.cells #[.int .i64 0, .int .i64 0, .string ⟨#[]⟩] 23)))
  have hr : rnumG s.data.toList = match numOf s.data.toList with | some n => (n, true, true) | none => (0, false, true) := by
    rw [rnumG, if_pos hf]
    cases numOf s.data.toList <;> rfl
  unfold RNum at HN
  rw [hr] at HN
  clear h1 h2 h3 hf hr
  cases hn : numOf s.data.toList with
  | none =>
    have HO : Hid (parseG s.data.toList = (gnull, 10)) := by show _ = _; rw [HP.out, hn]
    rw [hn] at HN
    clear hn HP
    go_enter Tryd.func19, Tryd.ntmps19
    go_wp2_with fail
    refine HN.out.mono ?_
    rintro e w1 ⟨rfl, rfl⟩
    go_wp2_with fail
    exact bodyPost_ret (v := .tuple #[aggG gnull, .int .i64 10]) (by simp [aggG, gnull, results, Tryd.results19, go_sem]) rfl ⟨by rw [HO.out], below_alloc _ _⟩
  | some n =>
    have HO : Hid (parseG s.data.toList = (gint n, 0)) := by show _ = _; rw [HP.out, hn]
    rw [hn] at HN
    clear hn HP
    go_enter Tryd.func19, Tryd.ntmps19
    go_wp2_with fail
    refine HN.out.mono ?_
    rintro e w1 ⟨rfl, rfl⟩
    go_wp2_with fail
    exact bodyPost_ret (v := .tuple #[aggG (gint n), .int .i64 0]) (by simp [aggG, gint, results, Tryd.results19, go_sem]) rfl ⟨by rw [HO.out], below_alloc _ _⟩
end Go.Proofs.YthjgnpicnpfmjaaDoor
