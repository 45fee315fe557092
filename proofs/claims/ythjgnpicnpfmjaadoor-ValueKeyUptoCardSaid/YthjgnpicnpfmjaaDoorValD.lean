/- The program's Parse of a value, whole. Conditions: moderate length; the library's table and variables read as laid. -/
import Derived.Test.YthjgnpicnpfmjaaDoorValC
namespace Go.Proofs.YthjgnpicnpfmjaaDoor
open Go.RowKit

set_option maxHeartbeats 4000000 in
theorem vparse_txt (s : ByteArray) (hs : s.size ≤ 100000) (w : World) (hT : Tabs w) (h1 : s.data.toList ≠ sNull) (h2 : s.data.toList ≠ sFalse) (h3 : s.data.toList ≠ sTrue) (hf : numForm s.data.toList = false) :
    Calls Tryd.prog 18 #[.string s] w fun e w' => e = .returned (.tuple #[aggG (parseG s.data.toList).1, .int .i64 (parseG s.data.toList).2]) ∧ Below w.heap.size w w' := by
  have HT := Lib.hid hT
  clear hT
  have t1 : (s.toList == [110, 117, 108, 108]) = false := seq_false (by rw [tl_data]; exact h1)
  have t2 : (s.toList == [102, 97, 108, 115, 101]) = false := seq_false (by rw [tl_data]; exact h2)
  have t3 : (s.toList == [116, 114, 117, 101]) = false := seq_false (by rw [tl_data]; exact h3)
  have HP : Hid (parseG s.data.toList = match unquo s.data.toList with | none => (gnull, 5) | some m => if 200 < m.length then (gnull, 4) else (gtxt m, 0)) := by
    show _ = _
    rw [parseG, if_neg h1, if_neg h2, if_neg h3, if_neg (by rw [hf]; simp)]
    cases unquo s.data.toList <;> rfl
  have HN := Lib.hid (numeral_any s (by unfold maxLen; omega) (w.alloc (.cells #[.int .i64 0, .int .i64 0, .string ⟨#[]⟩] 23)))
  rw [hf] at HN
  have HB0 := Lib.hid (below_alloc w (.cells #[.int .i64 0, .int .i64 0, .string ⟨#[]⟩] 23))
  have HI := Lib.hid (unquote_any s (by omega) (w.alloc (.cells #[.int .i64 0, .int .i64 0, .string ⟨#[]⟩] 23)) (HT.out.below HB0.out))
  clear h1 h2 h3 hf
  go_enter Tryd.func18, Tryd.ntmps18
  go_wp2_with fail
  refine HN.out.mono ?_
  rintro e w1 ⟨rfl, rfl⟩
  go_wp2_with fail
  refine HI.out.mono ?_
  rintro e w1 ⟨hr, hb1⟩
  have HB1 := Lib.hid (below_alloc2' hb1)
  obtain ⟨⟨d0, d1, d2⟩, f0, f1, f2⟩ := box_three (box_kept (heap_alloc_new w _) hb1)
  have hz1 : w.heap.size < w1.heap.size := by have := hb1.size; simp at this; omega
  clear hb1 HN HI
  cases hu : unquo s.data.toList with
  | none =>
    rw [hu] at hr
    have hr' : e = .returned (.tuple #[.string ⟨#[]⟩, .bool false]) := hr
    have HO : Hid (parseG s.data.toList = (gnull, 5)) := by show _ = _; rw [HP.out, hu]
    subst hr'
    clear hr hu
    go_wp2_with fail
    exact bodyPost_ret (v := .tuple #[aggG gnull, .int .i64 5]) (by simp [aggG, gnull, results, Tryd.results18, go_sem, d0, d1, d2, hz1]) rfl ⟨by rw [HO.out], below_set3v HB1.out (Nat.le_refl _) (Nat.le_refl _) (Nat.le_refl _)⟩
  | some m =>
    rw [hu] at hr
    have hr' : e = .returned (.tuple #[.string ⟨m.toArray⟩, .bool true]) := hr
    have hsz : (ByteArray.mk m.toArray).size = m.length := by simp [ByteArray.size]
    have hml : m.length ≤ 9223372036854775807 := by
      unfold unquo at hu
      split at hu
      · cases hu
      · have := (undbl_some hu).2.2.2
        rw [List.length_take, ← Lib.size_eq] at this
        omega
    subst hr'
    by_cases hl : 200 < m.length
    · have HO : Hid (parseG s.data.toList = (gnull, 4)) := by show _ = _; rw [HP.out, hu]; simp only; rw [if_pos hl]
      clear hr hu
      go_wp2_with fail
      exact bodyPost_ret (v := .tuple #[aggG gnull, .int .i64 4]) (by simp [aggG, gnull, results, Tryd.results18, go_sem, d0, d1, d2, hz1]) rfl ⟨by rw [HO.out], below_set3v HB1.out (Nat.le_refl _) (Nat.le_refl _) (Nat.le_refl _)⟩
    · have HO : Hid (parseG s.data.toList = (gtxt m, 0)) := by show _ = _; rw [HP.out, hu]; simp only; rw [if_neg hl]
      clear hr hu
      go_wp2_with fail
      exact bodyPost_ret (v := .tuple #[aggG (gtxt m), .int .i64 0]) (by simp [aggG, gtxt, results, Tryd.results18, go_sem, d0, d1, d2, hz1]) rfl ⟨by rw [HO.out], below_set3v HB1.out (Nat.le_refl _) (Nat.le_refl _) (Nat.le_refl _)⟩
theorem vparse_any (s : ByteArray) (hs : s.size ≤ 100000) (w : World) (hT : Tabs w) :
    Calls Tryd.prog 18 #[.string s] w fun e w' => e = .returned (.tuple #[aggG (parseG s.data.toList).1, .int .i64 (parseG s.data.toList).2]) ∧ Below w.heap.size w w' := by
  by_cases h1 : s.data.toList = sNull
  · exact vparse_const s (.inl h1) w
  · by_cases h2 : s.data.toList = sFalse
    · exact vparse_const s (.inr (.inl h2)) w
    · by_cases h3 : s.data.toList = sTrue
      · exact vparse_const s (.inr (.inr h3)) w
      · cases hf : numForm s.data.toList with
        | true => exact vparse_num s hs w hT h1 h2 h3 hf
        | false => exact vparse_txt s hs w hT h1 h2 h3 hf
end Go.Proofs.YthjgnpicnpfmjaaDoor
