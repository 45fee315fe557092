/- The laws of chapter 6, walked: parsing. Condition: the library's table and variables read as laid. -/
import Derived.Test.YthjgnpicnpfmjaaDoorValW
namespace Go.Proofs.YthjgnpicnpfmjaaDoor
open Go.RowKit

theorem vbox_cells (w : World) (k n : Int) (s : ByteArray) : (w.alloc (.cells #[.int .i64 k, .int .i64 n, .string s] 23)).heap[w.heap.size]? = some (.cells #[.int .i64 k, .int .i64 n, .string s] 23 (0, 0)) := heap_alloc_new w _
set_option maxHeartbeats 4000000 in
set_option maxRecDepth 100000 in
theorem vparse_walk (s : ByteArray) (w : World) (hs : s.size ≤ maxLen) (hT : Tabs w) : Calls Tryd.prog 5 #[.string s] w fun e w' => e = .returned (.bool true) ∧ Below w.heap.size w w' := by
  unfold maxLen at hs
  have HT := Lib.hid hT
  by_cases hl : 1000 < s.size
  · have HA := Lib.hid (awake_any w hT)
    clear hT
    go_enter Tryd.func5, Tryd.ntmps5
    go_wp2_with fail
    refine HA.out.mono ?_
    rintro e w1 ⟨rfl, hb1⟩
    have HB1 := Lib.hid hb1
    clear hb1
    go_wp2_with fail
    go_ret
    exact ⟨rfl, HB1.out⟩
  · have HP := Lib.hid (vparse_any s (by omega) w hT)
    have HQ := Lib.hid (fun W => rparse_any s (by omega) W)
    clear hT
    obtain ⟨⟨v, er⟩, hp⟩ : ∃ p, p = parseG s.data.toList := ⟨_, rfl⟩
    rw [← hp] at HP HQ
    clear hp
    obtain ⟨k, n, t⟩ := v
    unfold aggG at HP HQ
    dsimp only at HP HQ
    have heq := val_eql ⟨k, n, t⟩ ⟨k, n, t⟩
    rw [sameG_refl] at heq
    have HEQ := Lib.hid heq
    have hgd := val_guard
    clear heq
    go_enter Tryd.func5, Tryd.ntmps5
    go_wp2_with fail
    refine HP.out.mono ?_
    rintro e w1 ⟨rfl, hb1⟩
    have HX1 := Lib.hid (vbox_cells w1 k n t)
    have HB1 := Lib.hid (below_alloc_keep (o := .cells #[.int .i64 k, .int .i64 n, .string t] 23) hb1)
    clear hb1 HP
    go_wp2_with fail
    refine (HQ.out _).mono ?_
    rintro e w2 ⟨rfl, hb2⟩
    have HX2 := Lib.hid (heap_alloc_old2 (o := .cells #[.int .i64 k, .int .i64 n, .string t] 23) (box_kept HX1.out hb2))
    have HY2 := Lib.hid (vbox_cells w2 k n t)
    have HB2 := Lib.hid (below_alloc_keep (o := .cells #[.int .i64 k, .int .i64 n, .string t] 23) (below_keep HB1.out hb2))
    have HA := Lib.hid (awake_any _ (HT.out.below HB2.out))
    clear hb2 HQ HX1
    go_wp2_with fail
    refine HA.out.mono ?_
    rintro e w3 ⟨rfl, hb3⟩
    obtain ⟨⟨x0, x1, x2⟩, _⟩ := box_three (box_kept HX2.out hb3)
    obtain ⟨⟨y0, y1, y2⟩, _⟩ := box_three (box_kept HY2.out hb3)
    have HB3 := Lib.hid (below_keep HB2.out hb3)
    have heq := HEQ.out
    clear hb3 HA HX2 HY2
    go_wp2_with fail
    go_ret
    exact ⟨rfl, HB3.out⟩
end Go.Proofs.YthjgnpicnpfmjaaDoor
