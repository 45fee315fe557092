/- The sanity check of chapter 6. Condition: the library's table and variables read as laid. -/
import Derived.Test.YthjgnpicnpfmjaaDoorValL
import Derived.Test.YthjgnpicnpfmjaaDoorCmpR
namespace Go.Proofs.YthjgnpicnpfmjaaDoor
open Go.RowKit

theorem aw_p1 : parseG [39, 105, 116, 39, 39, 115, 39] = (gtxt [105, 116, 39, 115], 0) := by kernel_rfl
theorem aw_p2 : parseG [48, 48, 55] = (gnull, 10) := by kernel_rfl
theorem aw_p3 : parseG [39, 97, 39, 98, 39] = (gnull, 5) := by kernel_rfl
theorem aw_v : validG (gtxt [105, 116, 39, 115]) = true := by decide +kernel
theorem aw_f : fmtG (gtxt [105, 116, 39, 115]) = [39, 105, 116, 39, 39, 115, 39] := by decide +kernel
theorem aw_c : cmpG gnull (gint (-5)) = -1 := by decide +kernel
theorem aw_9 : validG ⟨9, 0, ⟨#[]⟩⟩ = false := by decide +kernel
theorem heap_alloc_old2 {w : World} {o : Obj} {g : Nat} {b : Obj} (h : w.heap[g]? = some b) : (w.alloc o).heap[g]? = some b := (Below.heap_alloc _ _ _ (Array.getElem?_eq_some_iff.1 h).1).trans h
theorem nil_vals (w : World) : Sl valE w free (.slice none 0 0) [] := Sl.nil _ _ _ _ _
set_option maxHeartbeats 4000000 in
set_option maxRecDepth 100000 in
theorem awake_any (w : World) (hT : Tabs w) : Calls Tryd.prog 11 #[] w fun e w' => e = .returned (.bool true) ∧ Below w.heap.size w w' := by
  have HT := Lib.hid hT
  have HP1 := Lib.hid (vparse_any ⟨#[39, 105, 116, 39, 39, 115, 39]⟩ (by decide) w hT)
  rw [show (ByteArray.mk #[39, 105, 116, 39, 39, 115, 39]).data.toList = [39, 105, 116, 39, 39, 115, 39] from rfl, aw_p1] at HP1
  clear hT
  unfold aggG gtxt at HP1
  dsimp only at HP1
  go_enter Tryd.func11, Tryd.ntmps11
  go_wp2_with fail
  refine HP1.out.mono ?_
  rintro e w1 ⟨rfl, hb1⟩
  have HB1 := Lib.hid (below_alloc_keep (o := .cells #[.int .i64 2, .int .i64 0, .string ⟨#[105, 116, 39, 115]⟩] 23) hb1)
  have HX1 := Lib.hid (heap_alloc_new w1 (.cells #[.int .i64 2, .int .i64 0, .string ⟨#[105, 116, 39, 115]⟩] 23))
  have HT1 := Lib.hid (HT.out.below HB1.out)
  have HP2 := Lib.hid (vparse_any ⟨#[48, 48, 55]⟩ (by decide) _ HT1.out)
  rw [show (ByteArray.mk #[48, 48, 55]).data.toList = [48, 48, 55] from rfl, aw_p2] at HP2
  unfold aggG gnull at HP2
  dsimp only at HP2
  clear hb1 HP1
  go_wp2_with fail
  refine HP2.out.mono ?_
  rintro e w2 ⟨rfl, hb2⟩
  have HX2 := Lib.hid (heap_alloc_old2 (o := .cells #[.int .i64 0, .int .i64 0, .string ⟨#[]⟩] 23) (box_kept HX1.out hb2))
  have HB2 := Lib.hid (below_alloc_keep (o := .cells #[.int .i64 0, .int .i64 0, .string ⟨#[]⟩] 23) (below_keep HB1.out hb2))
  have HT2 := Lib.hid (HT.out.below HB2.out)
  have HP3 := Lib.hid (vparse_any ⟨#[39, 97, 39, 98, 39]⟩ (by decide) _ HT2.out)
  rw [show (ByteArray.mk #[39, 97, 39, 98, 39]).data.toList = [39, 97, 39, 98, 39] from rfl, aw_p3] at HP3
  unfold aggG gnull at HP3
  dsimp only at HP3
  clear hb2 HP2 HX1 HT1
  go_wp2_with fail
  refine HP3.out.mono ?_
  rintro e w3 ⟨rfl, hb3⟩
  have HX3 := Lib.hid (heap_alloc_old2 (o := .cells #[.int .i64 0, .int .i64 0, .string ⟨#[]⟩] 23) (box_kept HX2.out hb3))
  have HB3 := Lib.hid (below_alloc_keep (o := .cells #[.int .i64 0, .int .i64 0, .string ⟨#[]⟩] 23) (below_keep HB2.out hb3))
  have HT3 := Lib.hid (HT.out.below HB3.out)
  obtain ⟨⟨x0, x1, x2⟩, _⟩ := box_three HX3.out
  have HF := Lib.hid (vfmt_any (gtxt [105, 116, 39, 115]) (by decide) (by decide) _ HT3.out)
  rw [aw_f] at HF
  unfold aggG gtxt at HF
  dsimp only at HF
  clear hb3 HP3 HX2 HT2
  go_wp2_with fail
  refine HF.out.mono ?_
  rintro e w4 ⟨rfl, hb4⟩
  have HX4 := Lib.hid (box_kept HX3.out hb4)
  have HB4 := Lib.hid (below_keep HB3.out hb4)
  have HT4 := Lib.hid (HT.out.below HB4.out)
  obtain ⟨⟨x0, x1, x2⟩, _⟩ := box_three HX4.out
  have HC := Lib.hid (valCmp_any gnull (gint (-5)) w4)
  rw [aw_c] at HC
  unfold aggG gnull gint at HC
  dsimp only at HC
  clear hb4 HF HX3 HT3
  go_wp2_with fail
  refine HC.out.mono ?_
  rintro e w5 ⟨rfl, hb5⟩
  have HX5 := Lib.hid (box_kept HX4.out hb5)
  have HB5 := Lib.hid (below_keep HB4.out hb5)
  obtain ⟨⟨x0, x1, x2⟩, _⟩ := box_three HX5.out
  have HV1 := Lib.hid (vvalid_any (gtxt [105, 116, 39, 115]) (by decide) w5)
  rw [aw_v] at HV1
  unfold aggG gtxt at HV1
  dsimp only at HV1
  clear hb5 HC HX4 HT4
  go_wp2_with fail
  refine HV1.out.mono ?_
  rintro e w6 ⟨rfl, hb6⟩
  have HB6 := Lib.hid (below_keep HB5.out hb6)
  have HV2 := Lib.hid (vvalid_any ⟨9, 0, ⟨#[]⟩⟩ (by decide) w6)
  rw [aw_9] at HV2
  unfold aggG at HV2
  dsimp only at HV2
  clear hb6 HV1 HX5 x0 x1 x2
  go_wp2_with fail
  refine HV2.out.mono ?_
  rintro e w7 ⟨rfl, hb7⟩
  have HB7 := Lib.hid (below_keep HB6.out hb7)
  have HT7 := Lib.hid (HT.out.below HB7.out)
  have HK1 := Lib.hid (key_any (.slice none 0 0) [] w7 (nil_vals w7) (by simp) (by simp [keyL]) HT7.out)
  rw [show (keyL []) = [] from rfl] at HK1
  clear hb7 HV2
  go_wp2_with fail
  refine HK1.out.mono ?_
  rintro e w8 ⟨rfl, hb8⟩
  have HB8 := Lib.hid (below_alloc_keep (o := .cells #[.int .i64 0, .int .i64 0, .string ⟨#[]⟩] 23) (below_keep HB7.out hb8))
  have HT8 := Lib.hid (HT.out.below HB8.out)
  have HS8 : Hid (Sl valE (w8.alloc (.cells #[.int .i64 0, .int .i64 0, .string ⟨#[]⟩] 23)) free (.slice (some ⟨w8.heap.size, 0, none⟩) 1 1) [gnull]) :=
    Sl.of_block (n := 1) (m := 1) (heap_alloc_new w8 _) (Els.one (y := gnull) (cs := [.int .i64 0, .int .i64 0, .string ⟨#[]⟩]) (show valE.is _ _ gnull [.int .i64 0, .int .i64 0, .string ⟨#[]⟩] from rfl)) id rfl (by simp) (by simp)
  obtain ⟨ky, hky⟩ : ∃ ky, ky = keyL [gnull] := ⟨_, rfl⟩
  have hkne : ky ≠ [] := by rw [hky]; simp [keyL, keyOf]
  have HK2 := Lib.hid (key_any (.slice (some ⟨w8.heap.size, 0, none⟩) 1 1) [gnull] _ HS8.out (by intro x hx; simp at hx; subst hx; exact ⟨by decide, by decide, by decide⟩) (by
    have := keyOf_length gnull (by decide) (by decide) (by decide)
    simp [keyL]; have h2 : gnull.s.size = 0 := rfl; omega) HT8.out)
  rw [← hky] at HK2
  clear hb8 HK1 HT7 hky
  go_wp2_with fail
  refine HK2.out.mono ?_
  rintro e w9 ⟨rfl, hb9⟩
  have HB9 := Lib.hid (below_keep HB8.out hb9)
  have hke : ky.isEmpty = false := by cases ky <;> simp_all
  clear hb9 HK2
  go_wp2_with fail
  trace_state
  go_ret
  exact ⟨rfl, HB9.out⟩
end Go.Proofs.YthjgnpicnpfmjaaDoor
