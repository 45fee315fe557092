/- The program's Parse of a value. Conditions: moderate length; the library's table and variables read as laid. -/
import Derived.Test.YthjgnpicnpfmjaaDoorValB
namespace Go.Proofs.YthjgnpicnpfmjaaDoor
open Go.RowKit

theorem seq_false {a b : List UInt8} (h : a ≠ b) : (a == b) = false := by simpa using h
theorem below_set3v {w W : World} {q1 q2 q3 : Addr} {u1 u2 u3 : Value} (h : Below w.heap.size w W) (h1 : w.heap.size ≤ q1.block) (h2 : w.heap.size ≤ q2.block) (h3 : w.heap.size ≤ q3.block) : Below w.heap.size w (((W.setCell q1 u1).setCell q2 u2).setCell q3 u3) :=
  ((h.setCell h1 _).setCell h2 _).setCell h3 _
theorem mk_toList (l : List UInt8) : (ByteArray.mk l.toArray).toList = l := by rw [Lib.toList_data]
set_option maxHeartbeats 2000000 in
theorem vparse_const (s : ByteArray) (hc : s.data.toList = sNull ∨ s.data.toList = sFalse ∨ s.data.toList = sTrue) (w : World) :
    Calls Tryd.prog 18 #[.string s] w fun e w' => e = .returned (.tuple #[aggG (parseG s.data.toList).1, .int .i64 (parseG s.data.toList).2]) ∧ Below w.heap.size w w' := by
  have hs : s = ⟨s.data.toList.toArray⟩ := (bytes_mk s).symm
  rcases hc with hc | hc | hc
  all_goals
    rw [hc] at hs ⊢
    subst hs
    clear hc
    go_enter Tryd.func18, Tryd.ntmps18
    go_wp2_with fail
  · exact bodyPost_ret (v := .tuple #[aggG gnull, .int .i64 0]) (by simp [aggG, gnull, results, Tryd.results18, go_sem]) rfl ⟨rfl, below_alloc _ _⟩
  · exact bodyPost_ret (v := .tuple #[aggG gfalse, .int .i64 0]) (by simp [aggG, gfalse, results, Tryd.results18, go_sem]) rfl ⟨rfl, below_alloc _ _⟩
  · exact bodyPost_ret (v := .tuple #[aggG gtrue, .int .i64 0]) (by simp [aggG, gtrue, results, Tryd.results18, go_sem]) rfl ⟨rfl, below_alloc _ _⟩
set_option maxHeartbeats 4000000 in
theorem vparse_num (s : ByteArray) (hs : s.size ≤ 100000) (w : World) (hT : Tabs w) (h1 : s.data.toList ≠ sNull) (h2 : s.data.toList ≠ sFalse) (h3 : s.data.toList ≠ sTrue) (hf : numForm s.data.toList = true) :
    Calls Tryd.prog 18 #[.string s] w fun e w' => e = .returned (.tuple #[aggG (parseG s.data.toList).1, .int .i64 (parseG s.data.toList).2]) ∧ Below w.heap.size w w' := by
  have HT := Lib.hid hT
  clear hT
  have t1 : (s.toList == [110, 117, 108, 108]) = false := seq_false (by rw [tl_data]; exact h1)
  have t2 : (s.toList == [102, 97, 108, 115, 101]) = false := seq_false (by rw [tl_data]; exact h2)
  have t3 : (s.toList == [116, 114, 117, 101]) = false := seq_false (by rw [tl_data]; exact h3)
  have HP : Hid (parseG s.data.toList = match numOf s.data.toList with | some n => (gint n, 0) | none => (gnull, 10)) := by
    show _ = _
    rw [parseG, if_neg h1, if_neg h2, if_neg h3, if_pos hf]
    cases numOf s.data.toList <;> rfl
  have HN := Lib.hid (numeral_any s (by unfold maxLen; omega) (w.alloc (.cells #[.int .i64 0, .int .i64 0, .string ⟨#[]⟩] 23)))
  rw [hf] at HN
  have HB0 := Lib.hid (below_alloc w (.cells #[.int .i64 0, .int .i64 0, .string ⟨#[]⟩] 23))
  have HI := Lib.hid (parseInt_any s.data.toList (by rw [← Lib.size_eq]; exact hs) (w.alloc (.cells #[.int .i64 0, .int .i64 0, .string ⟨#[]⟩] 23)) (HT.out.below HB0.out))
  rw [bytes_mk] at HI
  have HF := Lib.hid hf
  clear h1 h2 h3 hf
  go_enter Tryd.func18, Tryd.ntmps18
  go_wp2_with fail
  refine HN.out.mono ?_
  rintro e w1 ⟨rfl, rfl⟩
  go_wp2_with fail
  refine HI.out.mono ?_
  rintro e w1 ⟨hr, hb1⟩
  have HB1 := Lib.hid (below_alloc2' hb1)
  have bx := box_kept (heap_alloc_new w _) hb1
  obtain ⟨⟨d0, d1, d2⟩, f0, f1, f2⟩ := box_three bx
  have hz1 : w.heap.size < w1.heap.size := by have := hb1.size; simp at this; omega
  have BX := Lib.hid bx
  clear hb1 HN HI bx
  rcases hr with ⟨n, hn, rfl⟩ | ⟨hn, x, T, p, hx, rfl⟩
  · have hb := Lib.atoiAll_bounds hn
    have HFI := Lib.hid (fmtInt_any n hb w1 (HT.out.below HB1.out))
    by_cases he : Lib.itoa n = s.data.toList
    · have HO : Hid (parseG s.data.toList = (gint n, 0)) := by
        show _ = _
        rw [HP.out, ← he, (itoa_numOf n hb.1 hb.2).1]
      have HNE : Hid ((Lib.itoa n == s.toList) = true) := by show _ = _; rw [tl_data, he]; simp
      have HHN := Lib.hid hn
      clear hn hb he
      go_wp2_with fail
      refine HFI.out.mono ?_
      rintro e w2 ⟨rfl, hb2⟩
      have HB2 := Lib.hid (below_keep HB1.out hb2)
      obtain ⟨⟨d0, d1, d2⟩, f0, f1, f2⟩ := box_three (box_kept BX.out hb2)
      have hz2 : w.heap.size < w2.heap.size := by have := hb2.size; omega
      have t4 := HNE.out
      clear hb2
      go_wp2_with fail
      exact bodyPost_ret (v := .tuple #[aggG (gint n), .int .i64 0]) (by simp [aggG, gint, results, Tryd.results18, go_sem, d0, d1, d2, hz2]) rfl ⟨by rw [HO.out], below_set3v HB2.out (Nat.le_refl _) (Nat.le_refl _) (Nat.le_refl _)⟩
    · have HO : Hid (parseG s.data.toList = (gnull, 10)) := by
        show _ = _
        rw [HP.out]
        cases hh : numOf s.data.toList with
        | none => rfl
        | some m =>
          have := atoi_numOf _ HF.out m hh
          rw [hn] at this
          cases this
          exact absurd (numOf_itoa _ HF.out n hh).1 he
      have HNE : Hid ((Lib.itoa n == s.toList) = false) := by show _ = _; rw [tl_data]; exact seq_false he
      have HHN := Lib.hid hn
      clear hn hb he
      go_wp2_with fail
      refine HFI.out.mono ?_
      rintro e w2 ⟨rfl, hb2⟩
      have HB2 := Lib.hid (below_keep HB1.out hb2)
      obtain ⟨⟨d0, d1, d2⟩, f0, f1, f2⟩ := box_three (box_kept BX.out hb2)
      have hz2 : w.heap.size < w2.heap.size := by have := hb2.size; omega
      have t4 := HNE.out
      clear hb2
      go_wp2_with fail
      exact bodyPost_ret (v := .tuple #[aggG gnull, .int .i64 10]) (by simp [aggG, gnull, results, Tryd.results18, go_sem, d0, d1, d2, hz2]) rfl ⟨by rw [HO.out], below_set3v HB2.out (Nat.le_refl _) (Nat.le_refl _) (Nat.le_refl _)⟩
  · have HO : Hid (parseG s.data.toList = (gnull, 10)) := by
      show _ = _
      rw [HP.out]
      cases hh : numOf s.data.toList with
      | none => rfl
      | some m => exact absurd (atoi_numOf _ HF.out m hh) (hn m)
    clear hn hx
    go_wp2_with fail
    exact bodyPost_ret (v := .tuple #[aggG gnull, .int .i64 10]) (by simp [aggG, gnull, results, Tryd.results18, go_sem, d0, d1, d2, hz1]) rfl ⟨by rw [HO.out], below_set3v HB1.out (Nat.le_refl _) (Nat.le_refl _) (Nat.le_refl _)⟩
end Go.Proofs.YthjgnpicnpfmjaaDoor
