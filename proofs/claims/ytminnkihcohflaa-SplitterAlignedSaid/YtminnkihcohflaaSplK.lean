/- The sanity check of the laws on splitting answers yes. No condition. -/
import Derived.Test.YtminnkihcohflaaSplJ
namespace Go.Proofs.Ytminnkihcohflaa
open Go.RowKit Go.Lib Go.Shelf

theorem awake_split : splitAt [⟨[], 0, 9, []⟩] [5, 3, 9, 0] = [⟨[], 0, 3, []⟩, ⟨[], 3, 5, []⟩, ⟨[], 5, 9, []⟩] := by
  have h : srt [5, 3, 9, 0] = [0, 3, 5, 9] := by simp [srt, List.mergeSort]
  rw [splitAt, h]
  simp [splitOne, pvalid, cutAt]
set_option maxHeartbeats 4000000 in
set_option maxRecDepth 100000 in
theorem awake_any (w : World) :
    Calls Try.prog 13 #[] w fun e w' => e = .returned (.bool true) ∧ Below w.heap.size w w' := by
  have hgd := per_guard
  go_enter Try.func13, Try.ntmps13
  go_wp2_with fail
  have h1 : ((w.alloc (.cells #[.slice none 0 0, .int .i64 0, .int .i64 9, .slice none 0 0] 67)).alloc (.cells #[.int .i64 5, .int .i64 3, .int .i64 9, .int .i64 0] 3)).heap[w.heap.size]? = some (.cells #[.slice none 0 0, .int .i64 0, .int .i64 9, .slice none 0 0] 67) := heap_alloc_old' _ _ _
  have h2 : ((w.alloc (.cells #[.slice none 0 0, .int .i64 0, .int .i64 9, .slice none 0 0] 67)).alloc (.cells #[.int .i64 5, .int .i64 3, .int .i64 9, .int .i64 0] 3)).heap[w.heap.size + 1]? = some (.cells #[.int .i64 5, .int .i64 3, .int .i64 9, .int .i64 0] 3) := heap_alloc_new' _ _ _
  refine (splitAt_any _ _ [⟨[], 0, 9, []⟩] [5, 3, 9, 0] _ (Sl.of_block h1 (Els.one ⟨_, _, rfl, Sl.nil _ _ _ _ _, Sl.nil _ _ _ _ _⟩) id rfl (by decide) (by decide))
    (Sl.of_block h2 (Els.cons (cs := [.int .i64 5]) rfl (Els.cons (cs := [.int .i64 3]) rfl (Els.cons (cs := [.int .i64 9]) rfl (Els.one (cs := [.int .i64 0]) rfl)))) id rfl (by decide) (by decide)) (by intro t ht; simp at ht; subst ht; simp) (by decide) (by decide)).mono ?_
  rintro e w1 ⟨v, rfl, hO, hb⟩
  rw [awake_split] at hO
  have hS := hO.sl
  obtain ⟨a, c, rfl⟩ := hS.shape
  obtain ⟨b, o, _, _, _, _, rfl, _, _, _, x1, x2, _⟩ := tups_at (k := 0) hS rfl
  obtain ⟨b', o', _, _, _, _, e', _, _, _, y1, y2, _⟩ := tups_at (k := 1) hS rfl
  obtain ⟨b'', o'', _, _, _, _, e'', _, _, _, z1, z2, _⟩ := tups_at (k := 2) hS rfl
  cases e'
  cases e''
  clear hS hO h1 h2
  have HB : Hid (Below w.heap.size w w1) := (below_alloc_two w _ _).trans (hb.mono (by simp; omega))
  clear hb
  simp at x1 x2 y1 y2 z1 z2
  have q1 := per_eql 0 3 0 3
  have q2 := per_eql 3 5 3 5
  have q3 := per_eql 5 9 5 9
  simp at q1 q2 q3
  go_wp2_with fail
  go_ret
  exact ⟨rfl, HB.out⟩
end Go.Proofs.Ytminnkihcohflaa
