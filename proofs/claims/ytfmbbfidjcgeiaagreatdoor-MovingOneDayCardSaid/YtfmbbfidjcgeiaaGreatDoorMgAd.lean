/- A part of the proofs: EvlG, EvlH, EvlI, EvlJ, Agg, Cat, Mrg, RSpl, SplJ, ShCp. No condition beside sizes and tables that read as laid. -/
import Derived.Test.YtfmbbfidjcgeiaaGreatDoorMgAc
import Derived.Test.YtfmbbfidjcgeiaaGreatDoorMgAa
import Derived.Test.YtfmbbfidjcgeiaaGreatDoorMgAb
import Derived.Shelf.Small.Bits
import Derived.Shelf.Small.Strs
import Derived.Shelf.Strconv.Itoa0
import Derived.Shelf.Sort.Plain
import Derived.Shelf.Bits.Mul64
import Derived.Ground.Names2Prog
import Derived.Shelf.Slices.Clone
import Derived.Shelf.Slices.CompactI
import Derived.Shelf.Slices.SearchI
import Derived.Shelf.Slices.Cells
import Derived.Shelf.Slices.In.SortNone
import Derived.Shelf.Slices.Empties
import Derived.Ground.SlgnProg
import Derived.Shelf.SlicesG.SearchI
import Derived.Shelf.SlicesE.Clone
import Derived.Test.YtfmbbfidjcgeiaaGreatDoorProg
namespace Go.Proofs.YtfmbbfidjcgeiaaGreatDoor
open Go.RowKit Go.Lib Go.Shelf

set_option maxHeartbeats 4000000 in
set_option maxRecDepth 100000 in
theorem apply_6a (b o n1 c1 : Nat) (vr : Value) (xa xb col : Int) (c : GVal) (k1 m1 k2 m2 : Int) (s1 s2 : ByteArray) (w : World) (hn : 1 < n1) (h63 : n1 ≤ 9223372036854775807) (h1 : k1 = 0)
    (p0 : w.cell? ⟨b, o, none⟩ = some (.int .i64 k1)) (p1 : w.cell? ⟨b, o + 1, none⟩ = some (.int .i64 m1)) (p2 : w.cell? ⟨b, o + 2, none⟩ = some (.string s1))
    (q0 : w.cell? ⟨b, o + 3, none⟩ = some (.int .i64 k2)) (q1 : w.cell? ⟨b, o + 3 + 1, none⟩ = some (.int .i64 m2)) (q2 : w.cell? ⟨b, o + 3 + 2, none⟩ = some (.string s2)) :
    Calls Tryz.prog 69 #[aggX ⟨6, xa, xb, col, c⟩, .slice (some ⟨b, o, none⟩) n1 c1, vr] w fun e w' => e = .returned (aggG (gbool false)) ∧ Below w.heap.size w w' := by
  have lb : b < w.heap.size := World.block_lt_of_cell? w _ p0
  have hn0 : 0 < n1 := by omega
  have hn1 : (1 : Int) ≤ (n1 : Int) - 1 := by omega
  have hn2 : (1 : Int) < (n1 : Int) := by omega
  have hn3 : ¬ (n1 : Int) ≤ 1 := by omega
  have hn4 : ¬ n1 ≤ 1 := by omega
  subst h1
  have HBL : ∀ W, Hid (Calls Tryz.prog 97 #[.bool false] W fun e w' => e = .returned (.agg #[.int .i64 3, .int .i64 (b2i false), .string ⟨#[]⟩]) ∧ Below W.heap.size W w') := fun W => boolean_ag _ W
  rw [aggG_bool]
  obtain ⟨ck, cn, cs⟩ := c
  unfold aggX
  dsimp only
  have hB0 := below_alloc_two w (.cells #[.int .i64 6, .int .i64 xa, .int .i64 xb, .int .i64 col, .int .i64 ck, .int .i64 cn, .string cs] 67) (.cells #[.int .i64 0, .int .i64 0, .string ⟨#[]⟩] 40)
  have hz0 : w.heap.size + 1 < ((w.alloc (.cells #[.int .i64 6, .int .i64 xa, .int .i64 xb, .int .i64 col, .int .i64 ck, .int .i64 cn, .string cs] 67)).alloc (.cells #[.int .i64 0, .int .i64 0, .string ⟨#[]⟩] 40)).heap.size := by simp
  obtain ⟨⟨r0, r1, r2⟩, f0, f1, f2⟩ := box_three (heap2_1 w (.cells #[.int .i64 6, .int .i64 xa, .int .i64 xb, .int .i64 col, .int .i64 ck, .int .i64 cn, .string cs] 67) (.cells #[.int .i64 0, .int .i64 0, .string ⟨#[]⟩] 40))
  replace r0 := vAt_of r0
  replace r1 := vAt_of r1
  replace r2 := vAt_of r2
  replace p0 := cell_keep hB0 p0
  replace p1 := cell_keep hB0 p1
  replace p2 := cell_keep hB0 p2
  replace q0 := cell_keep hB0 q0
  replace q1 := cell_keep hB0 q1
  replace q2 := cell_keep hB0 q2
  have lb2 : w.heap.size + 1 ≠ b := by omega
  go_enter Tryz.func69, Tryz.ntmps69
  go_wp2_with fail
  refine wp_region_held_drew (S := (fun W => Below w.heap.size w W ∧ w.heap.size + 1 < W.heap.size
      ∧ W.cell? ⟨b, o, none⟩ = some (.int .i64 0) ∧ W.cell? ⟨b, o + 1, none⟩ = some (.int .i64 m1) ∧ W.cell? ⟨b, o + 2, none⟩ = some (.string s1)
      ∧ W.cell? ⟨b, o + 3, none⟩ = some (.int .i64 k2) ∧ W.cell? ⟨b, o + 3 + 1, none⟩ = some (.int .i64 m2) ∧ W.cell? ⟨b, o + 3 + 2, none⟩ = some (.string s2)
      ∧ W.cell? ⟨w.heap.size + 1, 0, none⟩ = some (vAt W ⟨w.heap.size + 1, 0, none⟩) ∧ W.cell? ⟨w.heap.size + 1, 1, none⟩ = some (vAt W ⟨w.heap.size + 1, 1, none⟩) ∧ W.cell? ⟨w.heap.size + 1, 2, none⟩ = some (vAt W ⟨w.heap.size + 1, 2, none⟩)
      ∧ W.frozen? ⟨w.heap.size + 1, 0, none⟩ = false ∧ W.frozen? ⟨w.heap.size + 1, 1, none⟩ = false ∧ W.frozen? ⟨w.heap.size + 1, 2, none⟩ = false)) (by kernel_rfl) ?_ (fun hHeld => ?_)
  · (go_split_ands; refine ⟨?_, ?_, ?_, ?_, ?_, ?_, ?_, ?_, ?_, ?_, ?_, ?_, ?_, ?_⟩ <;> first | (with_reducible assumption) | with_reducible exact Below.drew (by assumption) | with_reducible exact size_drew (by assumption) | with_reducible exact cell_drew (by assumption) | with_reducible exact vAt_drew (by assumption) | with_reducible exact frozen_drew (by assumption) | with_reducible exact below_keep (by assumption) (by assumption) | with_reducible exact size_keep (by assumption) (by assumption) | with_reducible exact cell_keep (by assumption) (by assumption) | with_reducible exact vAt_keep (by assumption) (by assumption) | with_reducible exact frozen_keep (by assumption) (by assumption) (by assumption) | with_reducible exact below_set3 (by assumption) (by simp) (by simp) (by simp) | with_reducible exact size_set3 (by assumption) | with_reducible exact cell_set3 (by assumption) (by simp [*]) rfl rfl | with_reducible exact vAt_set3 (by assumption) | with_reducible exact frozen_set3 (by assumption))
  refine take_y (i := 0) (d := some 46) (v := ?_) rfl rfl (by kernel_rfl) (by kernel_rfl) (by kernel_rfl) (fun _ _ _ h => h) (by assumption) ?_ ?_
  rotate_left
  · intro oi ho
    simp only [List.getElem?_toArray, List.getElem?_cons_zero, Option.some.injEq] at ho
    subst ho
    intro w hSw
    (try dsimp only at hSw)
    go_simp
    (try with_reducible rfl)
  (try simp only [Act.put, List.setIfInBounds_toArray, List.set_cons_zero, List.set_cons_succ])
  refine take_y (i := 1) (d := some 47) (v := ?_) rfl rfl (by kernel_rfl) (by kernel_rfl) (by kernel_rfl) (fun _ _ _ h => h) (by assumption) ?_ ?_
  rotate_left
  · intro oi ho
    simp only [List.getElem?_toArray, List.getElem?_cons_succ, List.getElem?_cons_zero, Option.some.injEq] at ho
    subst ho
    intro w hSw
    (try dsimp only at hSw)
    go_simp
    (try with_reducible rfl)
  (try simp only [Act.put, List.setIfInBounds_toArray, List.set_cons_zero, List.set_cons_succ])
  refine take_y (i := 2) (d := some 48) (v := ?_) rfl rfl (by kernel_rfl) (by kernel_rfl) (by kernel_rfl) (fun _ _ _ h => h) (by assumption) ?_ ?_
  rotate_left
  · intro oi ho
    simp only [List.getElem?_toArray, List.getElem?_cons_succ, List.getElem?_cons_zero, Option.some.injEq] at ho
    subst ho
    intro w hSw
    (try dsimp only at hSw)
    go_simp
    (try with_reducible rfl)
  (try simp only [Act.put, List.setIfInBounds_toArray, List.set_cons_zero, List.set_cons_succ])
  refine take_y (i := 3) (d := some 49) (v := ?_) rfl rfl (by kernel_rfl) (by kernel_rfl) (by kernel_rfl) (fun _ _ _ h => h) (by assumption) ?_ ?_
  rotate_left
  · intro oi ho
    simp only [List.getElem?_toArray, List.getElem?_cons_succ, List.getElem?_cons_zero, Option.some.injEq] at ho
    subst ho
    intro w hSw
    (try dsimp only at hSw)
    go_simp
    (try with_reducible rfl)
  (try simp only [Act.put, List.setIfInBounds_toArray, List.set_cons_zero, List.set_cons_succ])
  refine take_y (i := 4) (d := some 50) (v := ?_) rfl rfl (by kernel_rfl) (by kernel_rfl) (by kernel_rfl) (fun _ _ _ h => h) (by assumption) ?_ ?_
  rotate_left
  · intro oi ho
    simp only [List.getElem?_toArray, List.getElem?_cons_succ, List.getElem?_cons_zero, Option.some.injEq] at ho
    subst ho
    intro w hSw
    (try dsimp only at hSw)
    go_simp
    (try with_reducible rfl)
  (try simp only [Act.put, List.setIfInBounds_toArray, List.set_cons_zero, List.set_cons_succ])
  refine take_y (i := 5) (d := some 51) (v := ?_) rfl rfl (by kernel_rfl) (by kernel_rfl) (by kernel_rfl) (fun _ _ _ h => h) (by assumption) ?_ ?_
  rotate_left
  · intro oi ho
    simp only [List.getElem?_toArray, List.getElem?_cons_succ, List.getElem?_cons_zero, Option.some.injEq] at ho
    subst ho
    intro w hSw
    (try dsimp only at hSw)
    go_simp
    (try with_reducible rfl)
  (try simp only [Act.put, List.setIfInBounds_toArray, List.set_cons_zero, List.set_cons_succ])
  refine take_n (i := 6) (d := some 52) rfl rfl (by kernel_rfl) (by kernel_rfl) (by kernel_rfl) (fun _ _ _ h => h) (by assumption) ?_
  (try simp only [Act.put, List.setIfInBounds_toArray, List.set_cons_zero, List.set_cons_succ])
  refine take_n (i := 7) (d := some 53) rfl rfl (by kernel_rfl) (by kernel_rfl) (by kernel_rfl) (fun _ _ _ h => h) (by assumption) ?_
  (try simp only [Act.put, List.setIfInBounds_toArray, List.set_cons_zero, List.set_cons_succ])
  refine take_n (i := 8) (d := some 54) rfl rfl (by kernel_rfl) (by kernel_rfl) (by kernel_rfl) (fun _ _ _ h => h) (by assumption) ?_
  (try simp only [Act.put, List.setIfInBounds_toArray, List.set_cons_zero, List.set_cons_succ])
  refine take_n (i := 9) (d := some 55) rfl rfl (by kernel_rfl) (by kernel_rfl) (by kernel_rfl) (fun _ _ _ h => h) (by assumption) ?_
  (try simp only [Act.put, List.setIfInBounds_toArray, List.set_cons_zero, List.set_cons_succ])
  refine take_n (i := 10) (d := some 56) rfl rfl (by kernel_rfl) (by kernel_rfl) (by kernel_rfl) (fun _ _ _ h => h) (by assumption) ?_
  (try simp only [Act.put, List.setIfInBounds_toArray, List.set_cons_zero, List.set_cons_succ])
  refine take_y (i := 11) (d := some 57) (v := ?_) rfl rfl (by kernel_rfl) (by kernel_rfl) (by kernel_rfl) (fun _ _ _ h => h) (by assumption) ?_ ?_
  rotate_left
  · intro oi ho
    simp only [List.getElem?_toArray, List.getElem?_cons_succ, List.getElem?_cons_zero, Option.some.injEq] at ho
    subst ho
    intro w hSw
    (try dsimp only at hSw)
    go_simp
    (try with_reducible rfl)
  (try simp only [Act.put, List.setIfInBounds_toArray, List.set_cons_zero, List.set_cons_succ])
  refine take_y (i := 12) (d := some 58) (v := ?_) rfl rfl (by kernel_rfl) (by kernel_rfl) (by kernel_rfl) (fun _ _ _ h => h) (by assumption) ?_ ?_
  rotate_left
  · intro oi ho
    simp only [List.getElem?_toArray, List.getElem?_cons_succ, List.getElem?_cons_zero, Option.some.injEq] at ho
    subst ho
    intro w hSw
    (try dsimp only at hSw)
    go_simp
    (try with_reducible rfl)
  (try simp only [Act.put, List.setIfInBounds_toArray, List.set_cons_zero, List.set_cons_succ])
  refine take_n (i := 13) (d := some 59) rfl rfl (by kernel_rfl) (by kernel_rfl) (by kernel_rfl) (fun _ _ _ h => h) (by assumption) ?_
  (try simp only [Act.put, List.setIfInBounds_toArray, List.set_cons_zero, List.set_cons_succ])
  refine take_n (i := 14) (d := some 60) rfl rfl (by kernel_rfl) (by kernel_rfl) (by kernel_rfl) (fun _ _ _ h => h) (by assumption) ?_
  (try simp only [Act.put, List.setIfInBounds_toArray, List.set_cons_zero, List.set_cons_succ])
  refine take_n (i := 15) (d := some 61) rfl rfl (by kernel_rfl) (by kernel_rfl) (by kernel_rfl) (fun _ _ _ h => h) (by assumption) ?_
  (try simp only [Act.put, List.setIfInBounds_toArray, List.set_cons_zero, List.set_cons_succ])
  refine take_n (i := 16) (d := some 62) rfl rfl (by kernel_rfl) (by kernel_rfl) (by kernel_rfl) (fun _ _ _ h => h) (by assumption) ?_
  (try simp only [Act.put, List.setIfInBounds_toArray, List.set_cons_zero, List.set_cons_succ])
  refine take_n (i := 17) (d := some 63) rfl rfl (by kernel_rfl) (by kernel_rfl) (by kernel_rfl) (fun _ _ _ h => h) (by assumption) ?_
  (try simp only [Act.put, List.setIfInBounds_toArray, List.set_cons_zero, List.set_cons_succ])
  refine take_n (i := 18) (d := some 64) rfl rfl (by kernel_rfl) (by kernel_rfl) (by kernel_rfl) (fun _ _ _ h => h) (by assumption) ?_
  (try simp only [Act.put, List.setIfInBounds_toArray, List.set_cons_zero, List.set_cons_succ])
  refine take_n (i := 19) (d := some 65) rfl rfl (by kernel_rfl) (by kernel_rfl) (by kernel_rfl) (fun _ _ _ h => h) (by assumption) ?_
  (try simp only [Act.put, List.setIfInBounds_toArray, List.set_cons_zero, List.set_cons_succ])
  refine take_n (i := 20) (d := some 66) rfl rfl (by kernel_rfl) (by kernel_rfl) (by kernel_rfl) (fun _ _ _ h => h) (by assumption) ?_
  (try simp only [Act.put, List.setIfInBounds_toArray, List.set_cons_zero, List.set_cons_succ])
  refine take_y (i := 21) (d := some 67) (v := ?_) rfl rfl (by kernel_rfl) (by kernel_rfl) (by kernel_rfl) (fun _ _ _ h => h) (by assumption) ?_ ?_
  rotate_left
  · intro oi ho
    simp only [List.getElem?_toArray, List.getElem?_cons_succ, List.getElem?_cons_zero, Option.some.injEq] at ho
    subst ho
    intro w hSw
    (try dsimp only at hSw)
    go_simp
    (try with_reducible rfl)
  (try simp only [Act.put, List.setIfInBounds_toArray, List.set_cons_zero, List.set_cons_succ])
  refine wpAnyH_ready (rs := [22]) (by kernel_rfl) (by simp) ?_
  refine AllReadyH.cons rfl (fun K hK => ?_) AllReadyH.nil
  go_simp
  (go_at_call 97; refine (HBL _).out.mono ?_; rintro e wA ⟨rfl, hbA⟩)
  refine hK.out _ _ ?_ (fun hHeld => ?_)
  · (try dsimp only)
    (go_split_ands; refine ⟨?_, ?_, ?_, ?_, ?_, ?_, ?_, ?_, ?_, ?_, ?_, ?_, ?_, ?_⟩ <;> first | (with_reducible assumption) | with_reducible exact Below.drew (by assumption) | with_reducible exact size_drew (by assumption) | with_reducible exact cell_drew (by assumption) | with_reducible exact vAt_drew (by assumption) | with_reducible exact frozen_drew (by assumption) | with_reducible exact below_keep (by assumption) (by assumption) | with_reducible exact size_keep (by assumption) (by assumption) | with_reducible exact cell_keep (by assumption) (by assumption) | with_reducible exact vAt_keep (by assumption) (by assumption) | with_reducible exact frozen_keep (by assumption) (by assumption) (by assumption) | with_reducible exact below_set3 (by assumption) (by simp) (by simp) (by simp) | with_reducible exact size_set3 (by assumption) | with_reducible exact cell_set3 (by assumption) (by simp [*]) rfl rfl | with_reducible exact vAt_set3 (by assumption) | with_reducible exact frozen_set3 (by assumption))
  clear hK K
  (try simp only [Act.put, List.setIfInBounds_toArray, List.set_cons_zero, List.set_cons_succ])
  refine wpAnyH_ready (rs := [23]) (by kernel_rfl) (by simp) ?_
  refine AllReadyH.cons rfl (fun K hK => ?_) AllReadyH.nil
  go_simp
  refine hK.out _ _ ?_ (fun hHeld => ?_)
  · (try dsimp only)
    (go_split_ands; refine ⟨?_, ?_, ?_, ?_, ?_, ?_, ?_, ?_, ?_, ?_, ?_, ?_, ?_, ?_⟩ <;> first | (with_reducible assumption) | with_reducible exact Below.drew (by assumption) | with_reducible exact size_drew (by assumption) | with_reducible exact cell_drew (by assumption) | with_reducible exact vAt_drew (by assumption) | with_reducible exact frozen_drew (by assumption) | with_reducible exact below_keep (by assumption) (by assumption) | with_reducible exact size_keep (by assumption) (by assumption) | with_reducible exact cell_keep (by assumption) (by assumption) | with_reducible exact vAt_keep (by assumption) (by assumption) | with_reducible exact frozen_keep (by assumption) (by assumption) (by assumption) | with_reducible exact below_set3 (by assumption) (by simp) (by simp) (by simp) | with_reducible exact size_set3 (by assumption) | with_reducible exact cell_set3 (by assumption) (by simp [*]) rfl rfl | with_reducible exact vAt_set3 (by assumption) | with_reducible exact frozen_set3 (by assumption))
  clear hK K
  (try simp only [Act.put, List.setIfInBounds_toArray, List.set_cons_zero, List.set_cons_succ])
  refine wpAnyH_done (by kernel_rfl) ?_ _
  obtain ⟨⟨e0, e1, e2⟩, _⟩ := box_three (box_kept (heap2_1d w _ _) hbA)
  have hzA : w.heap.size + 1 < wA.heap.size := size_keep hbA (size_drew hz0)
  have hBA := below_keep hB0.drew hbA
  clear hB0 hz0 r0 r1 r2 f0 f1 f2 p0 p1 p2 q0 q1 q2
  go_wp2_with fail
  exact bodyPost_ret (v := .agg #[.int .i64 3, .int .i64 (b2i false), .string ⟨#[]⟩]) (by simp [results, Tryz.results69, go_sem, e0, e1, e2]) rfl ⟨rfl, below_set3 hBA (Nat.le_succ _) (Nat.le_succ _) (Nat.le_succ _)⟩

set_option maxHeartbeats 4000000 in
set_option maxRecDepth 100000 in
theorem apply_6b (b o n1 c1 : Nat) (vr : Value) (xa xb col : Int) (c : GVal) (k1 m1 k2 m2 : Int) (s1 s2 : ByteArray) (w : World) (hn : 1 < n1) (h63 : n1 ≤ 9223372036854775807) (h1 : (k1 != 0) = true) (h2 : k2 = 0)
    (p0 : w.cell? ⟨b, o, none⟩ = some (.int .i64 k1)) (p1 : w.cell? ⟨b, o + 1, none⟩ = some (.int .i64 m1)) (p2 : w.cell? ⟨b, o + 2, none⟩ = some (.string s1))
    (q0 : w.cell? ⟨b, o + 3, none⟩ = some (.int .i64 k2)) (q1 : w.cell? ⟨b, o + 3 + 1, none⟩ = some (.int .i64 m2)) (q2 : w.cell? ⟨b, o + 3 + 2, none⟩ = some (.string s2)) :
    Calls Tryz.prog 69 #[aggX ⟨6, xa, xb, col, c⟩, .slice (some ⟨b, o, none⟩) n1 c1, vr] w fun e w' => e = .returned (aggG (gbool false)) ∧ Below w.heap.size w w' := by
  have lb : b < w.heap.size := World.block_lt_of_cell? w _ p0
  have hn0 : 0 < n1 := by omega
  have hn1 : (1 : Int) ≤ (n1 : Int) - 1 := by omega
  have hn2 : (1 : Int) < (n1 : Int) := by omega
  have hn3 : ¬ (n1 : Int) ≤ 1 := by omega
  have hn4 : ¬ n1 ≤ 1 := by omega
  subst h2
  have HBL : ∀ W, Hid (Calls Tryz.prog 97 #[.bool false] W fun e w' => e = .returned (.agg #[.int .i64 3, .int .i64 (b2i false), .string ⟨#[]⟩]) ∧ Below W.heap.size W w') := fun W => boolean_ag _ W
  rw [aggG_bool]
  obtain ⟨ck, cn, cs⟩ := c
  unfold aggX
  dsimp only
  have hB0 := below_alloc_two w (.cells #[.int .i64 6, .int .i64 xa, .int .i64 xb, .int .i64 col, .int .i64 ck, .int .i64 cn, .string cs] 67) (.cells #[.int .i64 0, .int .i64 0, .string ⟨#[]⟩] 40)
  have hz0 : w.heap.size + 1 < ((w.alloc (.cells #[.int .i64 6, .int .i64 xa, .int .i64 xb, .int .i64 col, .int .i64 ck, .int .i64 cn, .string cs] 67)).alloc (.cells #[.int .i64 0, .int .i64 0, .string ⟨#[]⟩] 40)).heap.size := by simp
  obtain ⟨⟨r0, r1, r2⟩, f0, f1, f2⟩ := box_three (heap2_1 w (.cells #[.int .i64 6, .int .i64 xa, .int .i64 xb, .int .i64 col, .int .i64 ck, .int .i64 cn, .string cs] 67) (.cells #[.int .i64 0, .int .i64 0, .string ⟨#[]⟩] 40))
  replace r0 := vAt_of r0
  replace r1 := vAt_of r1
  replace r2 := vAt_of r2
  replace p0 := cell_keep hB0 p0
  replace p1 := cell_keep hB0 p1
  replace p2 := cell_keep hB0 p2
  replace q0 := cell_keep hB0 q0
  replace q1 := cell_keep hB0 q1
  replace q2 := cell_keep hB0 q2
  have lb2 : w.heap.size + 1 ≠ b := by omega
  go_enter Tryz.func69, Tryz.ntmps69
  go_wp2_with fail
  refine wp_region_held_drew (S := (fun W => Below w.heap.size w W ∧ w.heap.size + 1 < W.heap.size
      ∧ W.cell? ⟨b, o, none⟩ = some (.int .i64 k1) ∧ W.cell? ⟨b, o + 1, none⟩ = some (.int .i64 m1) ∧ W.cell? ⟨b, o + 2, none⟩ = some (.string s1)
      ∧ W.cell? ⟨b, o + 3, none⟩ = some (.int .i64 0) ∧ W.cell? ⟨b, o + 3 + 1, none⟩ = some (.int .i64 m2) ∧ W.cell? ⟨b, o + 3 + 2, none⟩ = some (.string s2)
      ∧ W.cell? ⟨w.heap.size + 1, 0, none⟩ = some (vAt W ⟨w.heap.size + 1, 0, none⟩) ∧ W.cell? ⟨w.heap.size + 1, 1, none⟩ = some (vAt W ⟨w.heap.size + 1, 1, none⟩) ∧ W.cell? ⟨w.heap.size + 1, 2, none⟩ = some (vAt W ⟨w.heap.size + 1, 2, none⟩)
      ∧ W.frozen? ⟨w.heap.size + 1, 0, none⟩ = false ∧ W.frozen? ⟨w.heap.size + 1, 1, none⟩ = false ∧ W.frozen? ⟨w.heap.size + 1, 2, none⟩ = false)) (by kernel_rfl) ?_ (fun hHeld => ?_)
  · (go_split_ands; refine ⟨?_, ?_, ?_, ?_, ?_, ?_, ?_, ?_, ?_, ?_, ?_, ?_, ?_, ?_⟩ <;> first | (with_reducible assumption) | with_reducible exact Below.drew (by assumption) | with_reducible exact size_drew (by assumption) | with_reducible exact cell_drew (by assumption) | with_reducible exact vAt_drew (by assumption) | with_reducible exact frozen_drew (by assumption) | with_reducible exact below_keep (by assumption) (by assumption) | with_reducible exact size_keep (by assumption) (by assumption) | with_reducible exact cell_keep (by assumption) (by assumption) | with_reducible exact vAt_keep (by assumption) (by assumption) | with_reducible exact frozen_keep (by assumption) (by assumption) (by assumption) | with_reducible exact below_set3 (by assumption) (by simp) (by simp) (by simp) | with_reducible exact size_set3 (by assumption) | with_reducible exact cell_set3 (by assumption) (by simp [*]) rfl rfl | with_reducible exact vAt_set3 (by assumption) | with_reducible exact frozen_set3 (by assumption))
  refine take_y (i := 0) (d := some 46) (v := ?_) rfl rfl (by kernel_rfl) (by kernel_rfl) (by kernel_rfl) (fun _ _ _ h => h) (by assumption) ?_ ?_
  rotate_left
  · intro oi ho
    simp only [List.getElem?_toArray, List.getElem?_cons_zero, Option.some.injEq] at ho
    subst ho
    intro w hSw
    (try dsimp only at hSw)
    go_simp
    (try with_reducible rfl)
  (try simp only [Act.put, List.setIfInBounds_toArray, List.set_cons_zero, List.set_cons_succ])
  refine take_y (i := 1) (d := some 47) (v := ?_) rfl rfl (by kernel_rfl) (by kernel_rfl) (by kernel_rfl) (fun _ _ _ h => h) (by assumption) ?_ ?_
  rotate_left
  · intro oi ho
    simp only [List.getElem?_toArray, List.getElem?_cons_succ, List.getElem?_cons_zero, Option.some.injEq] at ho
    subst ho
    intro w hSw
    (try dsimp only at hSw)
    go_simp
    (try with_reducible rfl)
  (try simp only [Act.put, List.setIfInBounds_toArray, List.set_cons_zero, List.set_cons_succ])
  refine take_y (i := 2) (d := some 48) (v := ?_) rfl rfl (by kernel_rfl) (by kernel_rfl) (by kernel_rfl) (fun _ _ _ h => h) (by assumption) ?_ ?_
  rotate_left
  · intro oi ho
    simp only [List.getElem?_toArray, List.getElem?_cons_succ, List.getElem?_cons_zero, Option.some.injEq] at ho
    subst ho
    intro w hSw
    (try dsimp only at hSw)
    go_simp
    (try with_reducible rfl)
  (try simp only [Act.put, List.setIfInBounds_toArray, List.set_cons_zero, List.set_cons_succ])
  refine take_y (i := 3) (d := some 49) (v := ?_) rfl rfl (by kernel_rfl) (by kernel_rfl) (by kernel_rfl) (fun _ _ _ h => h) (by assumption) ?_ ?_
  rotate_left
  · intro oi ho
    simp only [List.getElem?_toArray, List.getElem?_cons_succ, List.getElem?_cons_zero, Option.some.injEq] at ho
    subst ho
    intro w hSw
    (try dsimp only at hSw)
    go_simp
    (try with_reducible rfl)
  (try simp only [Act.put, List.setIfInBounds_toArray, List.set_cons_zero, List.set_cons_succ])
  refine take_y (i := 4) (d := some 50) (v := ?_) rfl rfl (by kernel_rfl) (by kernel_rfl) (by kernel_rfl) (fun _ _ _ h => h) (by assumption) ?_ ?_
  rotate_left
  · intro oi ho
    simp only [List.getElem?_toArray, List.getElem?_cons_succ, List.getElem?_cons_zero, Option.some.injEq] at ho
    subst ho
    intro w hSw
    (try dsimp only at hSw)
    go_simp
    (try with_reducible rfl)
  (try simp only [Act.put, List.setIfInBounds_toArray, List.set_cons_zero, List.set_cons_succ])
  refine take_y (i := 5) (d := some 51) (v := ?_) rfl rfl (by kernel_rfl) (by kernel_rfl) (by kernel_rfl) (fun _ _ _ h => h) (by assumption) ?_ ?_
  rotate_left
  · intro oi ho
    simp only [List.getElem?_toArray, List.getElem?_cons_succ, List.getElem?_cons_zero, Option.some.injEq] at ho
    subst ho
    intro w hSw
    (try dsimp only at hSw)
    go_simp
    (try with_reducible rfl)
  (try simp only [Act.put, List.setIfInBounds_toArray, List.set_cons_zero, List.set_cons_succ])
  refine take_y (i := 6) (d := some 52) (v := ?_) rfl rfl (by kernel_rfl) (by kernel_rfl) (by kernel_rfl) (fun _ _ _ h => h) (by assumption) ?_ ?_
  rotate_left
  · intro oi ho
    simp only [List.getElem?_toArray, List.getElem?_cons_succ, List.getElem?_cons_zero, Option.some.injEq] at ho
    subst ho
    intro w hSw
    (try dsimp only at hSw)
    go_simp
    (try with_reducible rfl)
  (try simp only [Act.put, List.setIfInBounds_toArray, List.set_cons_zero, List.set_cons_succ])
  refine take_y (i := 7) (d := some 53) (v := ?_) rfl rfl (by kernel_rfl) (by kernel_rfl) (by kernel_rfl) (fun _ _ _ h => h) (by assumption) ?_ ?_
  rotate_left
  · intro oi ho
    simp only [List.getElem?_toArray, List.getElem?_cons_succ, List.getElem?_cons_zero, Option.some.injEq] at ho
    subst ho
    intro w hSw
    (try dsimp only at hSw)
    go_simp
    (try with_reducible rfl)
  (try simp only [Act.put, List.setIfInBounds_toArray, List.set_cons_zero, List.set_cons_succ])
  refine take_y (i := 8) (d := some 54) (v := ?_) rfl rfl (by kernel_rfl) (by kernel_rfl) (by kernel_rfl) (fun _ _ _ h => h) (by assumption) ?_ ?_
  rotate_left
  · intro oi ho
    simp only [List.getElem?_toArray, List.getElem?_cons_succ, List.getElem?_cons_zero, Option.some.injEq] at ho
    subst ho
    intro w hSw
    (try dsimp only at hSw)
    go_simp
    (try with_reducible rfl)
  (try simp only [Act.put, List.setIfInBounds_toArray, List.set_cons_zero, List.set_cons_succ])
  refine take_y (i := 9) (d := some 55) (v := ?_) rfl rfl (by kernel_rfl) (by kernel_rfl) (by kernel_rfl) (fun _ _ _ h => h) (by assumption) ?_ ?_
  rotate_left
  · intro oi ho
    simp only [List.getElem?_toArray, List.getElem?_cons_succ, List.getElem?_cons_zero, Option.some.injEq] at ho
    subst ho
    intro w hSw
    (try dsimp only at hSw)
    go_simp
    (try with_reducible rfl)
  (try simp only [Act.put, List.setIfInBounds_toArray, List.set_cons_zero, List.set_cons_succ])
  refine take_y (i := 10) (d := some 56) (v := ?_) rfl rfl (by kernel_rfl) (by kernel_rfl) (by kernel_rfl) (fun _ _ _ h => h) (by assumption) ?_ ?_
  rotate_left
  · intro oi ho
    simp only [List.getElem?_toArray, List.getElem?_cons_succ, List.getElem?_cons_zero, Option.some.injEq] at ho
    subst ho
    intro w hSw
    (try dsimp only at hSw)
    go_simp
    (try with_reducible rfl)
  (try simp only [Act.put, List.setIfInBounds_toArray, List.set_cons_zero, List.set_cons_succ])
  refine take_y (i := 11) (d := some 57) (v := ?_) rfl rfl (by kernel_rfl) (by kernel_rfl) (by kernel_rfl) (fun _ _ _ h => h) (by assumption) ?_ ?_
  rotate_left
  · intro oi ho
    simp only [List.getElem?_toArray, List.getElem?_cons_succ, List.getElem?_cons_zero, Option.some.injEq] at ho
    subst ho
    intro w hSw
    (try dsimp only at hSw)
    go_simp
    (try with_reducible rfl)
  (try simp only [Act.put, List.setIfInBounds_toArray, List.set_cons_zero, List.set_cons_succ])
  refine take_y (i := 12) (d := some 58) (v := ?_) rfl rfl (by kernel_rfl) (by kernel_rfl) (by kernel_rfl) (fun _ _ _ h => h) (by assumption) ?_ ?_
  rotate_left
  · intro oi ho
    simp only [List.getElem?_toArray, List.getElem?_cons_succ, List.getElem?_cons_zero, Option.some.injEq] at ho
    subst ho
    intro w hSw
    (try dsimp only at hSw)
    go_simp
    (try with_reducible rfl)
  (try simp only [Act.put, List.setIfInBounds_toArray, List.set_cons_zero, List.set_cons_succ])
  refine take_n (i := 13) (d := some 59) rfl rfl (by kernel_rfl) (by kernel_rfl) (by kernel_rfl) (fun _ _ _ h => h) (by assumption) ?_
  (try simp only [Act.put, List.setIfInBounds_toArray, List.set_cons_zero, List.set_cons_succ])
  refine take_n (i := 14) (d := some 60) rfl rfl (by kernel_rfl) (by kernel_rfl) (by kernel_rfl) (fun _ _ _ h => h) (by assumption) ?_
  (try simp only [Act.put, List.setIfInBounds_toArray, List.set_cons_zero, List.set_cons_succ])
  refine take_n (i := 15) (d := some 61) rfl rfl (by kernel_rfl) (by kernel_rfl) (by kernel_rfl) (fun _ _ _ h => h) (by assumption) ?_
  (try simp only [Act.put, List.setIfInBounds_toArray, List.set_cons_zero, List.set_cons_succ])
  refine take_n (i := 16) (d := some 62) rfl rfl (by kernel_rfl) (by kernel_rfl) (by kernel_rfl) (fun _ _ _ h => h) (by assumption) ?_
  (try simp only [Act.put, List.setIfInBounds_toArray, List.set_cons_zero, List.set_cons_succ])
  refine take_n (i := 17) (d := some 63) rfl rfl (by kernel_rfl) (by kernel_rfl) (by kernel_rfl) (fun _ _ _ h => h) (by assumption) ?_
  (try simp only [Act.put, List.setIfInBounds_toArray, List.set_cons_zero, List.set_cons_succ])
  refine take_n (i := 18) (d := some 64) rfl rfl (by kernel_rfl) (by kernel_rfl) (by kernel_rfl) (fun _ _ _ h => h) (by assumption) ?_
  (try simp only [Act.put, List.setIfInBounds_toArray, List.set_cons_zero, List.set_cons_succ])
  refine take_n (i := 19) (d := some 65) rfl rfl (by kernel_rfl) (by kernel_rfl) (by kernel_rfl) (fun _ _ _ h => h) (by assumption) ?_
  (try simp only [Act.put, List.setIfInBounds_toArray, List.set_cons_zero, List.set_cons_succ])
  refine take_n (i := 20) (d := some 66) rfl rfl (by kernel_rfl) (by kernel_rfl) (by kernel_rfl) (fun _ _ _ h => h) (by assumption) ?_
  (try simp only [Act.put, List.setIfInBounds_toArray, List.set_cons_zero, List.set_cons_succ])
  refine take_y (i := 21) (d := some 67) (v := ?_) rfl rfl (by kernel_rfl) (by kernel_rfl) (by kernel_rfl) (fun _ _ _ h => h) (by assumption) ?_ ?_
  rotate_left
  · intro oi ho
    simp only [List.getElem?_toArray, List.getElem?_cons_succ, List.getElem?_cons_zero, Option.some.injEq] at ho
    subst ho
    intro w hSw
    (try dsimp only at hSw)
    go_simp
    (try with_reducible rfl)
  (try simp only [Act.put, List.setIfInBounds_toArray, List.set_cons_zero, List.set_cons_succ])
  refine wpAnyH_ready (rs := [22]) (by kernel_rfl) (by simp) ?_
  refine AllReadyH.cons rfl (fun K hK => ?_) AllReadyH.nil
  go_simp
  (go_at_call 97; refine (HBL _).out.mono ?_; rintro e wA ⟨rfl, hbA⟩)
  refine hK.out _ _ ?_ (fun hHeld => ?_)
  · (try dsimp only)
    (go_split_ands; refine ⟨?_, ?_, ?_, ?_, ?_, ?_, ?_, ?_, ?_, ?_, ?_, ?_, ?_, ?_⟩ <;> first | (with_reducible assumption) | with_reducible exact Below.drew (by assumption) | with_reducible exact size_drew (by assumption) | with_reducible exact cell_drew (by assumption) | with_reducible exact vAt_drew (by assumption) | with_reducible exact frozen_drew (by assumption) | with_reducible exact below_keep (by assumption) (by assumption) | with_reducible exact size_keep (by assumption) (by assumption) | with_reducible exact cell_keep (by assumption) (by assumption) | with_reducible exact vAt_keep (by assumption) (by assumption) | with_reducible exact frozen_keep (by assumption) (by assumption) (by assumption) | with_reducible exact below_set3 (by assumption) (by simp) (by simp) (by simp) | with_reducible exact size_set3 (by assumption) | with_reducible exact cell_set3 (by assumption) (by simp [*]) rfl rfl | with_reducible exact vAt_set3 (by assumption) | with_reducible exact frozen_set3 (by assumption))
  clear hK K
  (try simp only [Act.put, List.setIfInBounds_toArray, List.set_cons_zero, List.set_cons_succ])
  refine wpAnyH_ready (rs := [23]) (by kernel_rfl) (by simp) ?_
  refine AllReadyH.cons rfl (fun K hK => ?_) AllReadyH.nil
  go_simp
  refine hK.out _ _ ?_ (fun hHeld => ?_)
  · (try dsimp only)
    (go_split_ands; refine ⟨?_, ?_, ?_, ?_, ?_, ?_, ?_, ?_, ?_, ?_, ?_, ?_, ?_, ?_⟩ <;> first | (with_reducible assumption) | with_reducible exact Below.drew (by assumption) | with_reducible exact size_drew (by assumption) | with_reducible exact cell_drew (by assumption) | with_reducible exact vAt_drew (by assumption) | with_reducible exact frozen_drew (by assumption) | with_reducible exact below_keep (by assumption) (by assumption) | with_reducible exact size_keep (by assumption) (by assumption) | with_reducible exact cell_keep (by assumption) (by assumption) | with_reducible exact vAt_keep (by assumption) (by assumption) | with_reducible exact frozen_keep (by assumption) (by assumption) (by assumption) | with_reducible exact below_set3 (by assumption) (by simp) (by simp) (by simp) | with_reducible exact size_set3 (by assumption) | with_reducible exact cell_set3 (by assumption) (by simp [*]) rfl rfl | with_reducible exact vAt_set3 (by assumption) | with_reducible exact frozen_set3 (by assumption))
  clear hK K
  (try simp only [Act.put, List.setIfInBounds_toArray, List.set_cons_zero, List.set_cons_succ])
  refine wpAnyH_done (by kernel_rfl) ?_ _
  obtain ⟨⟨e0, e1, e2⟩, _⟩ := box_three (box_kept (heap2_1d w _ _) hbA)
  have hzA : w.heap.size + 1 < wA.heap.size := size_keep hbA (size_drew hz0)
  have hBA := below_keep hB0.drew hbA
  clear hB0 hz0 r0 r1 r2 f0 f1 f2 p0 p1 p2 q0 q1 q2
  go_wp2_with fail
  exact bodyPost_ret (v := .agg #[.int .i64 3, .int .i64 (b2i false), .string ⟨#[]⟩]) (by simp [results, Tryz.results69, go_sem, e0, e1, e2]) rfl ⟨rfl, below_set3 hBA (Nat.le_succ _) (Nat.le_succ _) (Nat.le_succ _)⟩

set_option maxHeartbeats 4000000 in
set_option maxRecDepth 100000 in
theorem apply_6c (b o n1 c1 : Nat) (vr : Value) (xa xb col : Int) (c : GVal) (k1 m1 k2 m2 : Int) (s1 s2 : ByteArray) (w : World) (hn : 1 < n1) (h63 : n1 ≤ 9223372036854775807) (h1 : (k1 != 0) = true) (h2 : (k2 != 0) = true)
    (p0 : w.cell? ⟨b, o, none⟩ = some (.int .i64 k1)) (p1 : w.cell? ⟨b, o + 1, none⟩ = some (.int .i64 m1)) (p2 : w.cell? ⟨b, o + 2, none⟩ = some (.string s1))
    (q0 : w.cell? ⟨b, o + 3, none⟩ = some (.int .i64 k2)) (q1 : w.cell? ⟨b, o + 3 + 1, none⟩ = some (.int .i64 m2)) (q2 : w.cell? ⟨b, o + 3 + 2, none⟩ = some (.string s2)) :
    Calls Tryz.prog 69 #[aggX ⟨6, xa, xb, col, c⟩, .slice (some ⟨b, o, none⟩) n1 c1, vr] w fun e w' => e = .returned (aggG (gbool (cmpG ⟨k1, m1, s1⟩ ⟨k2, m2, s2⟩ == 0))) ∧ Below w.heap.size w w' := by
  have lb : b < w.heap.size := World.block_lt_of_cell? w _ p0
  have hn0 : 0 < n1 := by omega
  have hn1 : (1 : Int) ≤ (n1 : Int) - 1 := by omega
  have hn2 : (1 : Int) < (n1 : Int) := by omega
  have hn3 : ¬ (n1 : Int) ≤ 1 := by omega
  have hn4 : ¬ n1 ≤ 1 := by omega
  have HC : ∀ W, Hid (Calls Tryz.prog 29 #[.agg #[.int .i64 k1, .int .i64 m1, .string s1], .agg #[.int .i64 k2, .int .i64 m2, .string s2]] W fun e w' => e = .returned (.int .i64 (cmpG ⟨k1, m1, s1⟩ ⟨k2, m2, s2⟩)) ∧ Below W.heap.size W w') := fun W => valCmp_any ⟨k1, m1, s1⟩ ⟨k2, m2, s2⟩ W
  generalize cmpG ⟨k1, m1, s1⟩ ⟨k2, m2, s2⟩ = x at HC ⊢
  have HBL : ∀ W, Hid (Calls Tryz.prog 97 #[.bool (x == 0)] W fun e w' => e = .returned (.agg #[.int .i64 3, .int .i64 (b2i (x == 0)), .string ⟨#[]⟩]) ∧ Below W.heap.size W w') := fun W => boolean_ag _ W
  rw [aggG_bool]
  obtain ⟨r, hr⟩ : ∃ r, r = b2i (x == 0) := ⟨_, rfl⟩
  rw [← hr] at HBL ⊢
  clear hr
  obtain ⟨ck, cn, cs⟩ := c
  unfold aggX
  dsimp only
  have hB0 := below_alloc_two w (.cells #[.int .i64 6, .int .i64 xa, .int .i64 xb, .int .i64 col, .int .i64 ck, .int .i64 cn, .string cs] 67) (.cells #[.int .i64 0, .int .i64 0, .string ⟨#[]⟩] 40)
  have hz0 : w.heap.size + 1 < ((w.alloc (.cells #[.int .i64 6, .int .i64 xa, .int .i64 xb, .int .i64 col, .int .i64 ck, .int .i64 cn, .string cs] 67)).alloc (.cells #[.int .i64 0, .int .i64 0, .string ⟨#[]⟩] 40)).heap.size := by simp
  obtain ⟨⟨r0, r1, r2⟩, f0, f1, f2⟩ := box_three (heap2_1 w (.cells #[.int .i64 6, .int .i64 xa, .int .i64 xb, .int .i64 col, .int .i64 ck, .int .i64 cn, .string cs] 67) (.cells #[.int .i64 0, .int .i64 0, .string ⟨#[]⟩] 40))
  replace r0 := vAt_of r0
  replace r1 := vAt_of r1
  replace r2 := vAt_of r2
  replace p0 := cell_keep hB0 p0
  replace p1 := cell_keep hB0 p1
  replace p2 := cell_keep hB0 p2
  replace q0 := cell_keep hB0 q0
  replace q1 := cell_keep hB0 q1
  replace q2 := cell_keep hB0 q2
  have lb2 : w.heap.size + 1 ≠ b := by omega
  go_enter Tryz.func69, Tryz.ntmps69
  go_wp2_with fail
  refine wp_region_held_drew (S := (fun W => Below w.heap.size w W ∧ w.heap.size + 1 < W.heap.size
      ∧ W.cell? ⟨b, o, none⟩ = some (.int .i64 k1) ∧ W.cell? ⟨b, o + 1, none⟩ = some (.int .i64 m1) ∧ W.cell? ⟨b, o + 2, none⟩ = some (.string s1)
      ∧ W.cell? ⟨b, o + 3, none⟩ = some (.int .i64 k2) ∧ W.cell? ⟨b, o + 3 + 1, none⟩ = some (.int .i64 m2) ∧ W.cell? ⟨b, o + 3 + 2, none⟩ = some (.string s2)
      ∧ W.cell? ⟨w.heap.size + 1, 0, none⟩ = some (vAt W ⟨w.heap.size + 1, 0, none⟩) ∧ W.cell? ⟨w.heap.size + 1, 1, none⟩ = some (vAt W ⟨w.heap.size + 1, 1, none⟩) ∧ W.cell? ⟨w.heap.size + 1, 2, none⟩ = some (vAt W ⟨w.heap.size + 1, 2, none⟩)
      ∧ W.frozen? ⟨w.heap.size + 1, 0, none⟩ = false ∧ W.frozen? ⟨w.heap.size + 1, 1, none⟩ = false ∧ W.frozen? ⟨w.heap.size + 1, 2, none⟩ = false)) (by kernel_rfl) ?_ (fun hHeld => ?_)
  · (go_split_ands; refine ⟨?_, ?_, ?_, ?_, ?_, ?_, ?_, ?_, ?_, ?_, ?_, ?_, ?_, ?_⟩ <;> first | (with_reducible assumption) | with_reducible exact Below.drew (by assumption) | with_reducible exact size_drew (by assumption) | with_reducible exact cell_drew (by assumption) | with_reducible exact vAt_drew (by assumption) | with_reducible exact frozen_drew (by assumption) | with_reducible exact below_keep (by assumption) (by assumption) | with_reducible exact size_keep (by assumption) (by assumption) | with_reducible exact cell_keep (by assumption) (by assumption) | with_reducible exact vAt_keep (by assumption) (by assumption) | with_reducible exact frozen_keep (by assumption) (by assumption) (by assumption) | with_reducible exact below_set3 (by assumption) (by simp) (by simp) (by simp) | with_reducible exact size_set3 (by assumption) | with_reducible exact cell_set3 (by assumption) (by simp [*]) rfl rfl | with_reducible exact vAt_set3 (by assumption) | with_reducible exact frozen_set3 (by assumption))
  refine take_y (i := 0) (d := some 46) (v := ?_) rfl rfl (by kernel_rfl) (by kernel_rfl) (by kernel_rfl) (fun _ _ _ h => h) (by assumption) ?_ ?_
  rotate_left
  · intro oi ho
    simp only [List.getElem?_toArray, List.getElem?_cons_zero, Option.some.injEq] at ho
    subst ho
    intro w hSw
    (try dsimp only at hSw)
    go_simp
    (try with_reducible rfl)
  (try simp only [Act.put, List.setIfInBounds_toArray, List.set_cons_zero, List.set_cons_succ])
  refine take_y (i := 1) (d := some 47) (v := ?_) rfl rfl (by kernel_rfl) (by kernel_rfl) (by kernel_rfl) (fun _ _ _ h => h) (by assumption) ?_ ?_
  rotate_left
  · intro oi ho
    simp only [List.getElem?_toArray, List.getElem?_cons_succ, List.getElem?_cons_zero, Option.some.injEq] at ho
    subst ho
    intro w hSw
    (try dsimp only at hSw)
    go_simp
    (try with_reducible rfl)
  (try simp only [Act.put, List.setIfInBounds_toArray, List.set_cons_zero, List.set_cons_succ])
  refine take_y (i := 2) (d := some 48) (v := ?_) rfl rfl (by kernel_rfl) (by kernel_rfl) (by kernel_rfl) (fun _ _ _ h => h) (by assumption) ?_ ?_
  rotate_left
  · intro oi ho
    simp only [List.getElem?_toArray, List.getElem?_cons_succ, List.getElem?_cons_zero, Option.some.injEq] at ho
    subst ho
    intro w hSw
    (try dsimp only at hSw)
    go_simp
    (try with_reducible rfl)
  (try simp only [Act.put, List.setIfInBounds_toArray, List.set_cons_zero, List.set_cons_succ])
  refine take_y (i := 3) (d := some 49) (v := ?_) rfl rfl (by kernel_rfl) (by kernel_rfl) (by kernel_rfl) (fun _ _ _ h => h) (by assumption) ?_ ?_
  rotate_left
  · intro oi ho
    simp only [List.getElem?_toArray, List.getElem?_cons_succ, List.getElem?_cons_zero, Option.some.injEq] at ho
    subst ho
    intro w hSw
    (try dsimp only at hSw)
    go_simp
    (try with_reducible rfl)
  (try simp only [Act.put, List.setIfInBounds_toArray, List.set_cons_zero, List.set_cons_succ])
  refine take_y (i := 4) (d := some 50) (v := ?_) rfl rfl (by kernel_rfl) (by kernel_rfl) (by kernel_rfl) (fun _ _ _ h => h) (by assumption) ?_ ?_
  rotate_left
  · intro oi ho
    simp only [List.getElem?_toArray, List.getElem?_cons_succ, List.getElem?_cons_zero, Option.some.injEq] at ho
    subst ho
    intro w hSw
    (try dsimp only at hSw)
    go_simp
    (try with_reducible rfl)
  (try simp only [Act.put, List.setIfInBounds_toArray, List.set_cons_zero, List.set_cons_succ])
  refine take_y (i := 5) (d := some 51) (v := ?_) rfl rfl (by kernel_rfl) (by kernel_rfl) (by kernel_rfl) (fun _ _ _ h => h) (by assumption) ?_ ?_
  rotate_left
  · intro oi ho
    simp only [List.getElem?_toArray, List.getElem?_cons_succ, List.getElem?_cons_zero, Option.some.injEq] at ho
    subst ho
    intro w hSw
    (try dsimp only at hSw)
    go_simp
    (try with_reducible rfl)
  (try simp only [Act.put, List.setIfInBounds_toArray, List.set_cons_zero, List.set_cons_succ])
  refine take_y (i := 6) (d := some 52) (v := ?_) rfl rfl (by kernel_rfl) (by kernel_rfl) (by kernel_rfl) (fun _ _ _ h => h) (by assumption) ?_ ?_
  rotate_left
  · intro oi ho
    simp only [List.getElem?_toArray, List.getElem?_cons_succ, List.getElem?_cons_zero, Option.some.injEq] at ho
    subst ho
    intro w hSw
    (try dsimp only at hSw)
    go_simp
    (try with_reducible rfl)
  (try simp only [Act.put, List.setIfInBounds_toArray, List.set_cons_zero, List.set_cons_succ])
  refine take_y (i := 7) (d := some 53) (v := ?_) rfl rfl (by kernel_rfl) (by kernel_rfl) (by kernel_rfl) (fun _ _ _ h => h) (by assumption) ?_ ?_
  rotate_left
  · intro oi ho
    simp only [List.getElem?_toArray, List.getElem?_cons_succ, List.getElem?_cons_zero, Option.some.injEq] at ho
    subst ho
    intro w hSw
    (try dsimp only at hSw)
    go_simp
    (try with_reducible rfl)
  (try simp only [Act.put, List.setIfInBounds_toArray, List.set_cons_zero, List.set_cons_succ])
  refine take_y (i := 8) (d := some 54) (v := ?_) rfl rfl (by kernel_rfl) (by kernel_rfl) (by kernel_rfl) (fun _ _ _ h => h) (by assumption) ?_ ?_
  rotate_left
  · intro oi ho
    simp only [List.getElem?_toArray, List.getElem?_cons_succ, List.getElem?_cons_zero, Option.some.injEq] at ho
    subst ho
    intro w hSw
    (try dsimp only at hSw)
    go_simp
    (try with_reducible rfl)
  (try simp only [Act.put, List.setIfInBounds_toArray, List.set_cons_zero, List.set_cons_succ])
  refine take_y (i := 9) (d := some 55) (v := ?_) rfl rfl (by kernel_rfl) (by kernel_rfl) (by kernel_rfl) (fun _ _ _ h => h) (by assumption) ?_ ?_
  rotate_left
  · intro oi ho
    simp only [List.getElem?_toArray, List.getElem?_cons_succ, List.getElem?_cons_zero, Option.some.injEq] at ho
    subst ho
    intro w hSw
    (try dsimp only at hSw)
    go_simp
    (try with_reducible rfl)
  (try simp only [Act.put, List.setIfInBounds_toArray, List.set_cons_zero, List.set_cons_succ])
  refine take_y (i := 10) (d := some 56) (v := ?_) rfl rfl (by kernel_rfl) (by kernel_rfl) (by kernel_rfl) (fun _ _ _ h => h) (by assumption) ?_ ?_
  rotate_left
  · intro oi ho
    simp only [List.getElem?_toArray, List.getElem?_cons_succ, List.getElem?_cons_zero, Option.some.injEq] at ho
    subst ho
    intro w hSw
    (try dsimp only at hSw)
    go_simp
    (try with_reducible rfl)
  (try simp only [Act.put, List.setIfInBounds_toArray, List.set_cons_zero, List.set_cons_succ])
  refine take_y (i := 11) (d := some 57) (v := ?_) rfl rfl (by kernel_rfl) (by kernel_rfl) (by kernel_rfl) (fun _ _ _ h => h) (by assumption) ?_ ?_
  rotate_left
  · intro oi ho
    simp only [List.getElem?_toArray, List.getElem?_cons_succ, List.getElem?_cons_zero, Option.some.injEq] at ho
    subst ho
    intro w hSw
    (try dsimp only at hSw)
    go_simp
    (try with_reducible rfl)
  (try simp only [Act.put, List.setIfInBounds_toArray, List.set_cons_zero, List.set_cons_succ])
  refine take_y (i := 12) (d := some 58) (v := ?_) rfl rfl (by kernel_rfl) (by kernel_rfl) (by kernel_rfl) (fun _ _ _ h => h) (by assumption) ?_ ?_
  rotate_left
  · intro oi ho
    simp only [List.getElem?_toArray, List.getElem?_cons_succ, List.getElem?_cons_zero, Option.some.injEq] at ho
    subst ho
    intro w hSw
    (try dsimp only at hSw)
    go_simp
    (try with_reducible rfl)
  (try simp only [Act.put, List.setIfInBounds_toArray, List.set_cons_zero, List.set_cons_succ])
  refine take_y (i := 13) (d := some 59) (v := ?_) rfl rfl (by kernel_rfl) (by kernel_rfl) (by kernel_rfl) (fun _ _ _ h => h) (by assumption) ?_ ?_
  rotate_left
  · intro oi ho
    simp only [List.getElem?_toArray, List.getElem?_cons_succ, List.getElem?_cons_zero, Option.some.injEq] at ho
    subst ho
    intro w hSw
    (try dsimp only at hSw)
    go_simp
    (try with_reducible rfl)
  (try simp only [Act.put, List.setIfInBounds_toArray, List.set_cons_zero, List.set_cons_succ])
  refine take_y (i := 14) (d := some 60) (v := ?_) rfl rfl (by kernel_rfl) (by kernel_rfl) (by kernel_rfl) (fun _ _ _ h => h) (by assumption) ?_ ?_
  rotate_left
  · intro oi ho
    simp only [List.getElem?_toArray, List.getElem?_cons_succ, List.getElem?_cons_zero, Option.some.injEq] at ho
    subst ho
    intro w hSw
    (try dsimp only at hSw)
    go_simp
    (try with_reducible rfl)
  (try simp only [Act.put, List.setIfInBounds_toArray, List.set_cons_zero, List.set_cons_succ])
  refine take_y (i := 15) (d := some 61) (v := ?_) rfl rfl (by kernel_rfl) (by kernel_rfl) (by kernel_rfl) (fun _ _ _ h => h) (by assumption) ?_ ?_
  rotate_left
  · intro oi ho
    simp only [List.getElem?_toArray, List.getElem?_cons_succ, List.getElem?_cons_zero, Option.some.injEq] at ho
    subst ho
    intro w hSw
    (try dsimp only at hSw)
    go_simp
    (try with_reducible rfl)
  (try simp only [Act.put, List.setIfInBounds_toArray, List.set_cons_zero, List.set_cons_succ])
  refine take_y (i := 16) (d := some 62) (v := ?_) rfl rfl (by kernel_rfl) (by kernel_rfl) (by kernel_rfl) (fun _ _ _ h => h) (by assumption) ?_ ?_
  rotate_left
  · intro oi ho
    simp only [List.getElem?_toArray, List.getElem?_cons_succ, List.getElem?_cons_zero, Option.some.injEq] at ho
    subst ho
    intro w hSw
    (try dsimp only at hSw)
    go_simp
    (try with_reducible rfl)
  (try simp only [Act.put, List.setIfInBounds_toArray, List.set_cons_zero, List.set_cons_succ])
  refine take_y (i := 17) (d := some 63) (v := ?_) rfl rfl (by kernel_rfl) (by kernel_rfl) (by kernel_rfl) (fun _ _ _ h => h) (by assumption) ?_ ?_
  rotate_left
  · intro oi ho
    simp only [List.getElem?_toArray, List.getElem?_cons_succ, List.getElem?_cons_zero, Option.some.injEq] at ho
    subst ho
    intro w hSw
    (try dsimp only at hSw)
    go_simp
    (try with_reducible rfl)
  (try simp only [Act.put, List.setIfInBounds_toArray, List.set_cons_zero, List.set_cons_succ])
  refine take_y (i := 18) (d := some 64) (v := ?_) rfl rfl (by kernel_rfl) (by kernel_rfl) (by kernel_rfl) (fun _ _ _ h => h) (by assumption) ?_ ?_
  rotate_left
  · intro oi ho
    simp only [List.getElem?_toArray, List.getElem?_cons_succ, List.getElem?_cons_zero, Option.some.injEq] at ho
    subst ho
    intro w hSw
    (try dsimp only at hSw)
    go_simp
    (try with_reducible rfl)
  (try simp only [Act.put, List.setIfInBounds_toArray, List.set_cons_zero, List.set_cons_succ])
  refine wpAnyH_ready (rs := [19]) (by kernel_rfl) (by simp) ?_
  refine AllReadyH.cons rfl (fun K hK => ?_) AllReadyH.nil
  go_simp
  (go_at_call 29; refine (HC _).out.mono ?_; rintro e wC ⟨rfl, hbC⟩)
  refine hK.out _ _ ?_ (fun hHeld => ?_)
  · (try dsimp only)
    (go_split_ands; refine ⟨?_, ?_, ?_, ?_, ?_, ?_, ?_, ?_, ?_, ?_, ?_, ?_, ?_, ?_⟩ <;> first | (with_reducible assumption) | with_reducible exact Below.drew (by assumption) | with_reducible exact size_drew (by assumption) | with_reducible exact cell_drew (by assumption) | with_reducible exact vAt_drew (by assumption) | with_reducible exact frozen_drew (by assumption) | with_reducible exact below_keep (by assumption) (by assumption) | with_reducible exact size_keep (by assumption) (by assumption) | with_reducible exact cell_keep (by assumption) (by assumption) | with_reducible exact vAt_keep (by assumption) (by assumption) | with_reducible exact frozen_keep (by assumption) (by assumption) (by assumption) | with_reducible exact below_set3 (by assumption) (by simp) (by simp) (by simp) | with_reducible exact size_set3 (by assumption) | with_reducible exact cell_set3 (by assumption) (by simp [*]) rfl rfl | with_reducible exact vAt_set3 (by assumption) | with_reducible exact frozen_set3 (by assumption))
  clear hK K
  (try simp only [Act.put, List.setIfInBounds_toArray, List.set_cons_zero, List.set_cons_succ])
  refine take_y (i := 20) (d := some 66) (v := ?_) rfl rfl (by kernel_rfl) (by kernel_rfl) (by kernel_rfl) (fun _ _ _ h => h) (by assumption) ?_ ?_
  rotate_left
  · intro oi ho
    simp only [List.getElem?_toArray, List.getElem?_cons_succ, List.getElem?_cons_zero, Option.some.injEq] at ho
    subst ho
    intro w hSw
    (try dsimp only at hSw)
    go_simp
    (try with_reducible rfl)
  (try simp only [Act.put, List.setIfInBounds_toArray, List.set_cons_zero, List.set_cons_succ])
  refine take_y (i := 21) (d := some 67) (v := ?_) rfl rfl (by kernel_rfl) (by kernel_rfl) (by kernel_rfl) (fun _ _ _ h => h) (by assumption) ?_ ?_
  rotate_left
  · intro oi ho
    simp only [List.getElem?_toArray, List.getElem?_cons_succ, List.getElem?_cons_zero, Option.some.injEq] at ho
    subst ho
    intro w hSw
    (try dsimp only at hSw)
    go_simp
    (try with_reducible rfl)
  (try simp only [Act.put, List.setIfInBounds_toArray, List.set_cons_zero, List.set_cons_succ])
  refine wpAnyH_ready (rs := [22]) (by kernel_rfl) (by simp) ?_
  refine AllReadyH.cons rfl (fun K hK => ?_) AllReadyH.nil
  go_simp
  (go_at_call 97; refine (HBL _).out.mono ?_; rintro e wA ⟨rfl, hbA⟩)
  refine hK.out _ _ ?_ (fun hHeld => ?_)
  · (try dsimp only)
    (go_split_ands; refine ⟨?_, ?_, ?_, ?_, ?_, ?_, ?_, ?_, ?_, ?_, ?_, ?_, ?_, ?_⟩ <;> first | (with_reducible assumption) | with_reducible exact Below.drew (by assumption) | with_reducible exact size_drew (by assumption) | with_reducible exact cell_drew (by assumption) | with_reducible exact vAt_drew (by assumption) | with_reducible exact frozen_drew (by assumption) | with_reducible exact below_keep (by assumption) (by assumption) | with_reducible exact size_keep (by assumption) (by assumption) | with_reducible exact cell_keep (by assumption) (by assumption) | with_reducible exact vAt_keep (by assumption) (by assumption) | with_reducible exact frozen_keep (by assumption) (by assumption) (by assumption) | with_reducible exact below_set3 (by assumption) (by simp) (by simp) (by simp) | with_reducible exact size_set3 (by assumption) | with_reducible exact cell_set3 (by assumption) (by simp [*]) rfl rfl | with_reducible exact vAt_set3 (by assumption) | with_reducible exact frozen_set3 (by assumption))
  clear hK K
  (try simp only [Act.put, List.setIfInBounds_toArray, List.set_cons_zero, List.set_cons_succ])
  refine wpAnyH_ready (rs := [23]) (by kernel_rfl) (by simp) ?_
  refine AllReadyH.cons rfl (fun K hK => ?_) AllReadyH.nil
  go_simp
  refine hK.out _ _ ?_ (fun hHeld => ?_)
  · (try dsimp only)
    (go_split_ands; refine ⟨?_, ?_, ?_, ?_, ?_, ?_, ?_, ?_, ?_, ?_, ?_, ?_, ?_, ?_⟩ <;> first | (with_reducible assumption) | with_reducible exact Below.drew (by assumption) | with_reducible exact size_drew (by assumption) | with_reducible exact cell_drew (by assumption) | with_reducible exact vAt_drew (by assumption) | with_reducible exact frozen_drew (by assumption) | with_reducible exact below_keep (by assumption) (by assumption) | with_reducible exact size_keep (by assumption) (by assumption) | with_reducible exact cell_keep (by assumption) (by assumption) | with_reducible exact vAt_keep (by assumption) (by assumption) | with_reducible exact frozen_keep (by assumption) (by assumption) (by assumption) | with_reducible exact below_set3 (by assumption) (by simp) (by simp) (by simp) | with_reducible exact size_set3 (by assumption) | with_reducible exact cell_set3 (by assumption) (by simp [*]) rfl rfl | with_reducible exact vAt_set3 (by assumption) | with_reducible exact frozen_set3 (by assumption))
  clear hK K
  (try simp only [Act.put, List.setIfInBounds_toArray, List.set_cons_zero, List.set_cons_succ])
  refine wpAnyH_done (by kernel_rfl) ?_ _
  obtain ⟨⟨e0, e1, e2⟩, _⟩ := box_three (box_kept (box_kept (heap2_1d w _ _) hbC) hbA)
  have hzA : w.heap.size + 1 < wA.heap.size := size_keep hbA (size_keep hbC (size_drew hz0))
  have hBA := below_keep (below_keep hB0.drew hbC) hbA
  clear hB0 hz0 r0 r1 r2 f0 f1 f2 p0 p1 p2 q0 q1 q2
  go_wp2_with fail
  exact bodyPost_ret (v := .agg #[.int .i64 3, .int .i64 r, .string ⟨#[]⟩]) (by simp [results, Tryz.results69, go_sem, e0, e1, e2]) rfl ⟨rfl, below_set3 hBA (Nat.le_succ _) (Nat.le_succ _) (Nat.le_succ _)⟩

set_option maxHeartbeats 4000000 in
set_option maxRecDepth 100000 in
theorem apply_7a (b o n1 c1 : Nat) (vr : Value) (xa xb col : Int) (c : GVal) (k1 m1 k2 m2 : Int) (s1 s2 : ByteArray) (w : World) (hn : 1 < n1) (h63 : n1 ≤ 9223372036854775807) (h1 : k1 = 0)
    (p0 : w.cell? ⟨b, o, none⟩ = some (.int .i64 k1)) (p1 : w.cell? ⟨b, o + 1, none⟩ = some (.int .i64 m1)) (p2 : w.cell? ⟨b, o + 2, none⟩ = some (.string s1))
    (q0 : w.cell? ⟨b, o + 3, none⟩ = some (.int .i64 k2)) (q1 : w.cell? ⟨b, o + 3 + 1, none⟩ = some (.int .i64 m2)) (q2 : w.cell? ⟨b, o + 3 + 2, none⟩ = some (.string s2)) :
    Calls Tryz.prog 69 #[aggX ⟨7, xa, xb, col, c⟩, .slice (some ⟨b, o, none⟩) n1 c1, vr] w fun e w' => e = .returned (aggG (gbool false)) ∧ Below w.heap.size w w' := by
  have lb : b < w.heap.size := World.block_lt_of_cell? w _ p0
  have hn0 : 0 < n1 := by omega
  have hn1 : (1 : Int) ≤ (n1 : Int) - 1 := by omega
  have hn2 : (1 : Int) < (n1 : Int) := by omega
  have hn3 : ¬ (n1 : Int) ≤ 1 := by omega
  have hn4 : ¬ n1 ≤ 1 := by omega
  subst h1
  have HBL : ∀ W, Hid (Calls Tryz.prog 97 #[.bool false] W fun e w' => e = .returned (.agg #[.int .i64 3, .int .i64 (b2i false), .string ⟨#[]⟩]) ∧ Below W.heap.size W w') := fun W => boolean_ag _ W
  rw [aggG_bool]
  obtain ⟨ck, cn, cs⟩ := c
  unfold aggX
  dsimp only
  have hB0 := below_alloc_two w (.cells #[.int .i64 7, .int .i64 xa, .int .i64 xb, .int .i64 col, .int .i64 ck, .int .i64 cn, .string cs] 67) (.cells #[.int .i64 0, .int .i64 0, .string ⟨#[]⟩] 40)
  have hz0 : w.heap.size + 1 < ((w.alloc (.cells #[.int .i64 7, .int .i64 xa, .int .i64 xb, .int .i64 col, .int .i64 ck, .int .i64 cn, .string cs] 67)).alloc (.cells #[.int .i64 0, .int .i64 0, .string ⟨#[]⟩] 40)).heap.size := by simp
  obtain ⟨⟨r0, r1, r2⟩, f0, f1, f2⟩ := box_three (heap2_1 w (.cells #[.int .i64 7, .int .i64 xa, .int .i64 xb, .int .i64 col, .int .i64 ck, .int .i64 cn, .string cs] 67) (.cells #[.int .i64 0, .int .i64 0, .string ⟨#[]⟩] 40))
  replace r0 := vAt_of r0
  replace r1 := vAt_of r1
  replace r2 := vAt_of r2
  replace p0 := cell_keep hB0 p0
  replace p1 := cell_keep hB0 p1
  replace p2 := cell_keep hB0 p2
  replace q0 := cell_keep hB0 q0
  replace q1 := cell_keep hB0 q1
  replace q2 := cell_keep hB0 q2
  have lb2 : w.heap.size + 1 ≠ b := by omega
  go_enter Tryz.func69, Tryz.ntmps69
  go_wp2_with fail
  refine wp_region_held_drew (S := (fun W => Below w.heap.size w W ∧ w.heap.size + 1 < W.heap.size
      ∧ W.cell? ⟨b, o, none⟩ = some (.int .i64 0) ∧ W.cell? ⟨b, o + 1, none⟩ = some (.int .i64 m1) ∧ W.cell? ⟨b, o + 2, none⟩ = some (.string s1)
      ∧ W.cell? ⟨b, o + 3, none⟩ = some (.int .i64 k2) ∧ W.cell? ⟨b, o + 3 + 1, none⟩ = some (.int .i64 m2) ∧ W.cell? ⟨b, o + 3 + 2, none⟩ = some (.string s2)
      ∧ W.cell? ⟨w.heap.size + 1, 0, none⟩ = some (vAt W ⟨w.heap.size + 1, 0, none⟩) ∧ W.cell? ⟨w.heap.size + 1, 1, none⟩ = some (vAt W ⟨w.heap.size + 1, 1, none⟩) ∧ W.cell? ⟨w.heap.size + 1, 2, none⟩ = some (vAt W ⟨w.heap.size + 1, 2, none⟩)
      ∧ W.frozen? ⟨w.heap.size + 1, 0, none⟩ = false ∧ W.frozen? ⟨w.heap.size + 1, 1, none⟩ = false ∧ W.frozen? ⟨w.heap.size + 1, 2, none⟩ = false)) (by kernel_rfl) ?_ (fun hHeld => ?_)
  · (go_split_ands; refine ⟨?_, ?_, ?_, ?_, ?_, ?_, ?_, ?_, ?_, ?_, ?_, ?_, ?_, ?_⟩ <;> first | (with_reducible assumption) | with_reducible exact Below.drew (by assumption) | with_reducible exact size_drew (by assumption) | with_reducible exact cell_drew (by assumption) | with_reducible exact vAt_drew (by assumption) | with_reducible exact frozen_drew (by assumption) | with_reducible exact below_keep (by assumption) (by assumption) | with_reducible exact size_keep (by assumption) (by assumption) | with_reducible exact cell_keep (by assumption) (by assumption) | with_reducible exact vAt_keep (by assumption) (by assumption) | with_reducible exact frozen_keep (by assumption) (by assumption) (by assumption) | with_reducible exact below_set3 (by assumption) (by simp) (by simp) (by simp) | with_reducible exact size_set3 (by assumption) | with_reducible exact cell_set3 (by assumption) (by simp [*]) rfl rfl | with_reducible exact vAt_set3 (by assumption) | with_reducible exact frozen_set3 (by assumption))
  refine take_y (i := 0) (d := some 71) (v := ?_) rfl rfl (by kernel_rfl) (by kernel_rfl) (by kernel_rfl) (fun _ _ _ h => h) (by assumption) ?_ ?_
  rotate_left
  · intro oi ho
    simp only [List.getElem?_toArray, List.getElem?_cons_zero, Option.some.injEq] at ho
    subst ho
    intro w hSw
    (try dsimp only at hSw)
    go_simp
    (try with_reducible rfl)
  (try simp only [Act.put, List.setIfInBounds_toArray, List.set_cons_zero, List.set_cons_succ])
  refine take_y (i := 1) (d := some 72) (v := ?_) rfl rfl (by kernel_rfl) (by kernel_rfl) (by kernel_rfl) (fun _ _ _ h => h) (by assumption) ?_ ?_
  rotate_left
  · intro oi ho
    simp only [List.getElem?_toArray, List.getElem?_cons_succ, List.getElem?_cons_zero, Option.some.injEq] at ho
    subst ho
    intro w hSw
    (try dsimp only at hSw)
    go_simp
    (try with_reducible rfl)
  (try simp only [Act.put, List.setIfInBounds_toArray, List.set_cons_zero, List.set_cons_succ])
  refine take_y (i := 2) (d := some 73) (v := ?_) rfl rfl (by kernel_rfl) (by kernel_rfl) (by kernel_rfl) (fun _ _ _ h => h) (by assumption) ?_ ?_
  rotate_left
  · intro oi ho
    simp only [List.getElem?_toArray, List.getElem?_cons_succ, List.getElem?_cons_zero, Option.some.injEq] at ho
    subst ho
    intro w hSw
    (try dsimp only at hSw)
    go_simp
    (try with_reducible rfl)
  (try simp only [Act.put, List.setIfInBounds_toArray, List.set_cons_zero, List.set_cons_succ])
  refine take_y (i := 3) (d := some 74) (v := ?_) rfl rfl (by kernel_rfl) (by kernel_rfl) (by kernel_rfl) (fun _ _ _ h => h) (by assumption) ?_ ?_
  rotate_left
  · intro oi ho
    simp only [List.getElem?_toArray, List.getElem?_cons_succ, List.getElem?_cons_zero, Option.some.injEq] at ho
    subst ho
    intro w hSw
    (try dsimp only at hSw)
    go_simp
    (try with_reducible rfl)
  (try simp only [Act.put, List.setIfInBounds_toArray, List.set_cons_zero, List.set_cons_succ])
  refine take_y (i := 4) (d := some 75) (v := ?_) rfl rfl (by kernel_rfl) (by kernel_rfl) (by kernel_rfl) (fun _ _ _ h => h) (by assumption) ?_ ?_
  rotate_left
  · intro oi ho
    simp only [List.getElem?_toArray, List.getElem?_cons_succ, List.getElem?_cons_zero, Option.some.injEq] at ho
    subst ho
    intro w hSw
    (try dsimp only at hSw)
    go_simp
    (try with_reducible rfl)
  (try simp only [Act.put, List.setIfInBounds_toArray, List.set_cons_zero, List.set_cons_succ])
  refine take_y (i := 5) (d := some 76) (v := ?_) rfl rfl (by kernel_rfl) (by kernel_rfl) (by kernel_rfl) (fun _ _ _ h => h) (by assumption) ?_ ?_
  rotate_left
  · intro oi ho
    simp only [List.getElem?_toArray, List.getElem?_cons_succ, List.getElem?_cons_zero, Option.some.injEq] at ho
    subst ho
    intro w hSw
    (try dsimp only at hSw)
    go_simp
    (try with_reducible rfl)
  (try simp only [Act.put, List.setIfInBounds_toArray, List.set_cons_zero, List.set_cons_succ])
  refine take_n (i := 6) (d := some 77) rfl rfl (by kernel_rfl) (by kernel_rfl) (by kernel_rfl) (fun _ _ _ h => h) (by assumption) ?_
  (try simp only [Act.put, List.setIfInBounds_toArray, List.set_cons_zero, List.set_cons_succ])
  refine take_n (i := 7) (d := some 78) rfl rfl (by kernel_rfl) (by kernel_rfl) (by kernel_rfl) (fun _ _ _ h => h) (by assumption) ?_
  (try simp only [Act.put, List.setIfInBounds_toArray, List.set_cons_zero, List.set_cons_succ])
  refine take_n (i := 8) (d := some 79) rfl rfl (by kernel_rfl) (by kernel_rfl) (by kernel_rfl) (fun _ _ _ h => h) (by assumption) ?_
  (try simp only [Act.put, List.setIfInBounds_toArray, List.set_cons_zero, List.set_cons_succ])
  refine take_n (i := 9) (d := some 80) rfl rfl (by kernel_rfl) (by kernel_rfl) (by kernel_rfl) (fun _ _ _ h => h) (by assumption) ?_
  (try simp only [Act.put, List.setIfInBounds_toArray, List.set_cons_zero, List.set_cons_succ])
  refine take_n (i := 10) (d := some 81) rfl rfl (by kernel_rfl) (by kernel_rfl) (by kernel_rfl) (fun _ _ _ h => h) (by assumption) ?_
  (try simp only [Act.put, List.setIfInBounds_toArray, List.set_cons_zero, List.set_cons_succ])
  refine take_n (i := 11) (d := some 82) rfl rfl (by kernel_rfl) (by kernel_rfl) (by kernel_rfl) (fun _ _ _ h => h) (by assumption) ?_
  (try simp only [Act.put, List.setIfInBounds_toArray, List.set_cons_zero, List.set_cons_succ])
  refine take_n (i := 12) (d := some 83) rfl rfl (by kernel_rfl) (by kernel_rfl) (by kernel_rfl) (fun _ _ _ h => h) (by assumption) ?_
  (try simp only [Act.put, List.setIfInBounds_toArray, List.set_cons_zero, List.set_cons_succ])
  refine take_n (i := 13) (d := some 84) rfl rfl (by kernel_rfl) (by kernel_rfl) (by kernel_rfl) (fun _ _ _ h => h) (by assumption) ?_
  (try simp only [Act.put, List.setIfInBounds_toArray, List.set_cons_zero, List.set_cons_succ])
  refine take_n (i := 14) (d := some 85) rfl rfl (by kernel_rfl) (by kernel_rfl) (by kernel_rfl) (fun _ _ _ h => h) (by assumption) ?_
  (try simp only [Act.put, List.setIfInBounds_toArray, List.set_cons_zero, List.set_cons_succ])
  refine take_y (i := 15) (d := some 86) (v := ?_) rfl rfl (by kernel_rfl) (by kernel_rfl) (by kernel_rfl) (fun _ _ _ h => h) (by assumption) ?_ ?_
  rotate_left
  · intro oi ho
    simp only [List.getElem?_toArray, List.getElem?_cons_succ, List.getElem?_cons_zero, Option.some.injEq] at ho
    subst ho
    intro w hSw
    (try dsimp only at hSw)
    go_simp
    (try with_reducible rfl)
  (try simp only [Act.put, List.setIfInBounds_toArray, List.set_cons_zero, List.set_cons_succ])
  refine take_y (i := 16) (d := some 87) (v := ?_) rfl rfl (by kernel_rfl) (by kernel_rfl) (by kernel_rfl) (fun _ _ _ h => h) (by assumption) ?_ ?_
  rotate_left
  · intro oi ho
    simp only [List.getElem?_toArray, List.getElem?_cons_succ, List.getElem?_cons_zero, Option.some.injEq] at ho
    subst ho
    intro w hSw
    (try dsimp only at hSw)
    go_simp
    (try with_reducible rfl)
  (try simp only [Act.put, List.setIfInBounds_toArray, List.set_cons_zero, List.set_cons_succ])
  refine take_n (i := 17) (d := some 88) rfl rfl (by kernel_rfl) (by kernel_rfl) (by kernel_rfl) (fun _ _ _ h => h) (by assumption) ?_
  (try simp only [Act.put, List.setIfInBounds_toArray, List.set_cons_zero, List.set_cons_succ])
  refine take_n (i := 18) (d := some 89) rfl rfl (by kernel_rfl) (by kernel_rfl) (by kernel_rfl) (fun _ _ _ h => h) (by assumption) ?_
  (try simp only [Act.put, List.setIfInBounds_toArray, List.set_cons_zero, List.set_cons_succ])
  refine take_n (i := 19) (d := some 90) rfl rfl (by kernel_rfl) (by kernel_rfl) (by kernel_rfl) (fun _ _ _ h => h) (by assumption) ?_
  (try simp only [Act.put, List.setIfInBounds_toArray, List.set_cons_zero, List.set_cons_succ])
  refine take_n (i := 20) (d := some 91) rfl rfl (by kernel_rfl) (by kernel_rfl) (by kernel_rfl) (fun _ _ _ h => h) (by assumption) ?_
  (try simp only [Act.put, List.setIfInBounds_toArray, List.set_cons_zero, List.set_cons_succ])
  refine take_n (i := 21) (d := some 92) rfl rfl (by kernel_rfl) (by kernel_rfl) (by kernel_rfl) (fun _ _ _ h => h) (by assumption) ?_
  (try simp only [Act.put, List.setIfInBounds_toArray, List.set_cons_zero, List.set_cons_succ])
  refine take_n (i := 22) (d := some 93) rfl rfl (by kernel_rfl) (by kernel_rfl) (by kernel_rfl) (fun _ _ _ h => h) (by assumption) ?_
  (try simp only [Act.put, List.setIfInBounds_toArray, List.set_cons_zero, List.set_cons_succ])
  refine take_n (i := 23) (d := some 94) rfl rfl (by kernel_rfl) (by kernel_rfl) (by kernel_rfl) (fun _ _ _ h => h) (by assumption) ?_
  (try simp only [Act.put, List.setIfInBounds_toArray, List.set_cons_zero, List.set_cons_succ])
  refine take_n (i := 24) (d := some 95) rfl rfl (by kernel_rfl) (by kernel_rfl) (by kernel_rfl) (fun _ _ _ h => h) (by assumption) ?_
  (try simp only [Act.put, List.setIfInBounds_toArray, List.set_cons_zero, List.set_cons_succ])
  refine take_y (i := 25) (d := some 96) (v := ?_) rfl rfl (by kernel_rfl) (by kernel_rfl) (by kernel_rfl) (fun _ _ _ h => h) (by assumption) ?_ ?_
  rotate_left
  · intro oi ho
    simp only [List.getElem?_toArray, List.getElem?_cons_succ, List.getElem?_cons_zero, Option.some.injEq] at ho
    subst ho
    intro w hSw
    (try dsimp only at hSw)
    go_simp
    (try with_reducible rfl)
  (try simp only [Act.put, List.setIfInBounds_toArray, List.set_cons_zero, List.set_cons_succ])
  refine wpAnyH_ready (rs := [26]) (by kernel_rfl) (by simp) ?_
  refine AllReadyH.cons rfl (fun K hK => ?_) AllReadyH.nil
  go_simp
  (go_at_call 97; refine (HBL _).out.mono ?_; rintro e wA ⟨rfl, hbA⟩)
  refine hK.out _ _ ?_ (fun hHeld => ?_)
  · (try dsimp only)
    (go_split_ands; refine ⟨?_, ?_, ?_, ?_, ?_, ?_, ?_, ?_, ?_, ?_, ?_, ?_, ?_, ?_⟩ <;> first | (with_reducible assumption) | with_reducible exact Below.drew (by assumption) | with_reducible exact size_drew (by assumption) | with_reducible exact cell_drew (by assumption) | with_reducible exact vAt_drew (by assumption) | with_reducible exact frozen_drew (by assumption) | with_reducible exact below_keep (by assumption) (by assumption) | with_reducible exact size_keep (by assumption) (by assumption) | with_reducible exact cell_keep (by assumption) (by assumption) | with_reducible exact vAt_keep (by assumption) (by assumption) | with_reducible exact frozen_keep (by assumption) (by assumption) (by assumption) | with_reducible exact below_set3 (by assumption) (by simp) (by simp) (by simp) | with_reducible exact size_set3 (by assumption) | with_reducible exact cell_set3 (by assumption) (by simp [*]) rfl rfl | with_reducible exact vAt_set3 (by assumption) | with_reducible exact frozen_set3 (by assumption))
  clear hK K
  (try simp only [Act.put, List.setIfInBounds_toArray, List.set_cons_zero, List.set_cons_succ])
  refine wpAnyH_ready (rs := [27]) (by kernel_rfl) (by simp) ?_
  refine AllReadyH.cons rfl (fun K hK => ?_) AllReadyH.nil
  go_simp
  refine hK.out _ _ ?_ (fun hHeld => ?_)
  · (try dsimp only)
    (go_split_ands; refine ⟨?_, ?_, ?_, ?_, ?_, ?_, ?_, ?_, ?_, ?_, ?_, ?_, ?_, ?_⟩ <;> first | (with_reducible assumption) | with_reducible exact Below.drew (by assumption) | with_reducible exact size_drew (by assumption) | with_reducible exact cell_drew (by assumption) | with_reducible exact vAt_drew (by assumption) | with_reducible exact frozen_drew (by assumption) | with_reducible exact below_keep (by assumption) (by assumption) | with_reducible exact size_keep (by assumption) (by assumption) | with_reducible exact cell_keep (by assumption) (by assumption) | with_reducible exact vAt_keep (by assumption) (by assumption) | with_reducible exact frozen_keep (by assumption) (by assumption) (by assumption) | with_reducible exact below_set3 (by assumption) (by simp) (by simp) (by simp) | with_reducible exact size_set3 (by assumption) | with_reducible exact cell_set3 (by assumption) (by simp [*]) rfl rfl | with_reducible exact vAt_set3 (by assumption) | with_reducible exact frozen_set3 (by assumption))
  clear hK K
  (try simp only [Act.put, List.setIfInBounds_toArray, List.set_cons_zero, List.set_cons_succ])
  refine wpAnyH_done (by kernel_rfl) ?_ _
  obtain ⟨⟨e0, e1, e2⟩, _⟩ := box_three (box_kept (heap2_1d w _ _) hbA)
  have hzA : w.heap.size + 1 < wA.heap.size := size_keep hbA (size_drew hz0)
  have hBA := below_keep hB0.drew hbA
  clear hB0 hz0 r0 r1 r2 f0 f1 f2 p0 p1 p2 q0 q1 q2
  go_wp2_with fail
  exact bodyPost_ret (v := .agg #[.int .i64 3, .int .i64 (b2i false), .string ⟨#[]⟩]) (by simp [results, Tryz.results69, go_sem, e0, e1, e2]) rfl ⟨rfl, below_set3 hBA (Nat.le_succ _) (Nat.le_succ _) (Nat.le_succ _)⟩

set_option maxHeartbeats 4000000 in
set_option maxRecDepth 100000 in
theorem apply_7b (b o n1 c1 : Nat) (vr : Value) (xa xb col : Int) (c : GVal) (k1 m1 k2 m2 : Int) (s1 s2 : ByteArray) (w : World) (hn : 1 < n1) (h63 : n1 ≤ 9223372036854775807) (h1 : (k1 != 0) = true) (h2 : (k1 == k2) = false)
    (p0 : w.cell? ⟨b, o, none⟩ = some (.int .i64 k1)) (p1 : w.cell? ⟨b, o + 1, none⟩ = some (.int .i64 m1)) (p2 : w.cell? ⟨b, o + 2, none⟩ = some (.string s1))
    (q0 : w.cell? ⟨b, o + 3, none⟩ = some (.int .i64 k2)) (q1 : w.cell? ⟨b, o + 3 + 1, none⟩ = some (.int .i64 m2)) (q2 : w.cell? ⟨b, o + 3 + 2, none⟩ = some (.string s2)) :
    Calls Tryz.prog 69 #[aggX ⟨7, xa, xb, col, c⟩, .slice (some ⟨b, o, none⟩) n1 c1, vr] w fun e w' => e = .returned (aggG (gbool false)) ∧ Below w.heap.size w w' := by
  have lb : b < w.heap.size := World.block_lt_of_cell? w _ p0
  have hn0 : 0 < n1 := by omega
  have hn1 : (1 : Int) ≤ (n1 : Int) - 1 := by omega
  have hn2 : (1 : Int) < (n1 : Int) := by omega
  have hn3 : ¬ (n1 : Int) ≤ 1 := by omega
  have hn4 : ¬ n1 ≤ 1 := by omega
  have HBL : ∀ W, Hid (Calls Tryz.prog 97 #[.bool false] W fun e w' => e = .returned (.agg #[.int .i64 3, .int .i64 (b2i false), .string ⟨#[]⟩]) ∧ Below W.heap.size W w') := fun W => boolean_ag _ W
  rw [aggG_bool]
  obtain ⟨ck, cn, cs⟩ := c
  unfold aggX
  dsimp only
  have hB0 := below_alloc_two w (.cells #[.int .i64 7, .int .i64 xa, .int .i64 xb, .int .i64 col, .int .i64 ck, .int .i64 cn, .string cs] 67) (.cells #[.int .i64 0, .int .i64 0, .string ⟨#[]⟩] 40)
  have hz0 : w.heap.size + 1 < ((w.alloc (.cells #[.int .i64 7, .int .i64 xa, .int .i64 xb, .int .i64 col, .int .i64 ck, .int .i64 cn, .string cs] 67)).alloc (.cells #[.int .i64 0, .int .i64 0, .string ⟨#[]⟩] 40)).heap.size := by simp
  obtain ⟨⟨r0, r1, r2⟩, f0, f1, f2⟩ := box_three (heap2_1 w (.cells #[.int .i64 7, .int .i64 xa, .int .i64 xb, .int .i64 col, .int .i64 ck, .int .i64 cn, .string cs] 67) (.cells #[.int .i64 0, .int .i64 0, .string ⟨#[]⟩] 40))
  replace r0 := vAt_of r0
  replace r1 := vAt_of r1
  replace r2 := vAt_of r2
  replace p0 := cell_keep hB0 p0
  replace p1 := cell_keep hB0 p1
  replace p2 := cell_keep hB0 p2
  replace q0 := cell_keep hB0 q0
  replace q1 := cell_keep hB0 q1
  replace q2 := cell_keep hB0 q2
  have lb2 : w.heap.size + 1 ≠ b := by omega
  go_enter Tryz.func69, Tryz.ntmps69
  go_wp2_with fail
  refine wp_region_held_drew (S := (fun W => Below w.heap.size w W ∧ w.heap.size + 1 < W.heap.size
      ∧ W.cell? ⟨b, o, none⟩ = some (.int .i64 k1) ∧ W.cell? ⟨b, o + 1, none⟩ = some (.int .i64 m1) ∧ W.cell? ⟨b, o + 2, none⟩ = some (.string s1)
      ∧ W.cell? ⟨b, o + 3, none⟩ = some (.int .i64 k2) ∧ W.cell? ⟨b, o + 3 + 1, none⟩ = some (.int .i64 m2) ∧ W.cell? ⟨b, o + 3 + 2, none⟩ = some (.string s2)
      ∧ W.cell? ⟨w.heap.size + 1, 0, none⟩ = some (vAt W ⟨w.heap.size + 1, 0, none⟩) ∧ W.cell? ⟨w.heap.size + 1, 1, none⟩ = some (vAt W ⟨w.heap.size + 1, 1, none⟩) ∧ W.cell? ⟨w.heap.size + 1, 2, none⟩ = some (vAt W ⟨w.heap.size + 1, 2, none⟩)
      ∧ W.frozen? ⟨w.heap.size + 1, 0, none⟩ = false ∧ W.frozen? ⟨w.heap.size + 1, 1, none⟩ = false ∧ W.frozen? ⟨w.heap.size + 1, 2, none⟩ = false)) (by kernel_rfl) ?_ (fun hHeld => ?_)
  · (go_split_ands; refine ⟨?_, ?_, ?_, ?_, ?_, ?_, ?_, ?_, ?_, ?_, ?_, ?_, ?_, ?_⟩ <;> first | (with_reducible assumption) | with_reducible exact Below.drew (by assumption) | with_reducible exact size_drew (by assumption) | with_reducible exact cell_drew (by assumption) | with_reducible exact vAt_drew (by assumption) | with_reducible exact frozen_drew (by assumption) | with_reducible exact below_keep (by assumption) (by assumption) | with_reducible exact size_keep (by assumption) (by assumption) | with_reducible exact cell_keep (by assumption) (by assumption) | with_reducible exact vAt_keep (by assumption) (by assumption) | with_reducible exact frozen_keep (by assumption) (by assumption) (by assumption) | with_reducible exact below_set3 (by assumption) (by simp) (by simp) (by simp) | with_reducible exact size_set3 (by assumption) | with_reducible exact cell_set3 (by assumption) (by simp [*]) rfl rfl | with_reducible exact vAt_set3 (by assumption) | with_reducible exact frozen_set3 (by assumption))
  refine take_y (i := 0) (d := some 71) (v := ?_) rfl rfl (by kernel_rfl) (by kernel_rfl) (by kernel_rfl) (fun _ _ _ h => h) (by assumption) ?_ ?_
  rotate_left
  · intro oi ho
    simp only [List.getElem?_toArray, List.getElem?_cons_zero, Option.some.injEq] at ho
    subst ho
    intro w hSw
    (try dsimp only at hSw)
    go_simp
    (try with_reducible rfl)
  (try simp only [Act.put, List.setIfInBounds_toArray, List.set_cons_zero, List.set_cons_succ])
  refine take_y (i := 1) (d := some 72) (v := ?_) rfl rfl (by kernel_rfl) (by kernel_rfl) (by kernel_rfl) (fun _ _ _ h => h) (by assumption) ?_ ?_
  rotate_left
  · intro oi ho
    simp only [List.getElem?_toArray, List.getElem?_cons_succ, List.getElem?_cons_zero, Option.some.injEq] at ho
    subst ho
    intro w hSw
    (try dsimp only at hSw)
    go_simp
    (try with_reducible rfl)
  (try simp only [Act.put, List.setIfInBounds_toArray, List.set_cons_zero, List.set_cons_succ])
  refine take_y (i := 2) (d := some 73) (v := ?_) rfl rfl (by kernel_rfl) (by kernel_rfl) (by kernel_rfl) (fun _ _ _ h => h) (by assumption) ?_ ?_
  rotate_left
  · intro oi ho
    simp only [List.getElem?_toArray, List.getElem?_cons_succ, List.getElem?_cons_zero, Option.some.injEq] at ho
    subst ho
    intro w hSw
    (try dsimp only at hSw)
    go_simp
    (try with_reducible rfl)
  (try simp only [Act.put, List.setIfInBounds_toArray, List.set_cons_zero, List.set_cons_succ])
  refine take_y (i := 3) (d := some 74) (v := ?_) rfl rfl (by kernel_rfl) (by kernel_rfl) (by kernel_rfl) (fun _ _ _ h => h) (by assumption) ?_ ?_
  rotate_left
  · intro oi ho
    simp only [List.getElem?_toArray, List.getElem?_cons_succ, List.getElem?_cons_zero, Option.some.injEq] at ho
    subst ho
    intro w hSw
    (try dsimp only at hSw)
    go_simp
    (try with_reducible rfl)
  (try simp only [Act.put, List.setIfInBounds_toArray, List.set_cons_zero, List.set_cons_succ])
  refine take_y (i := 4) (d := some 75) (v := ?_) rfl rfl (by kernel_rfl) (by kernel_rfl) (by kernel_rfl) (fun _ _ _ h => h) (by assumption) ?_ ?_
  rotate_left
  · intro oi ho
    simp only [List.getElem?_toArray, List.getElem?_cons_succ, List.getElem?_cons_zero, Option.some.injEq] at ho
    subst ho
    intro w hSw
    (try dsimp only at hSw)
    go_simp
    (try with_reducible rfl)
  (try simp only [Act.put, List.setIfInBounds_toArray, List.set_cons_zero, List.set_cons_succ])
  refine take_y (i := 5) (d := some 76) (v := ?_) rfl rfl (by kernel_rfl) (by kernel_rfl) (by kernel_rfl) (fun _ _ _ h => h) (by assumption) ?_ ?_
  rotate_left
  · intro oi ho
    simp only [List.getElem?_toArray, List.getElem?_cons_succ, List.getElem?_cons_zero, Option.some.injEq] at ho
    subst ho
    intro w hSw
    (try dsimp only at hSw)
    go_simp
    (try with_reducible rfl)
  (try simp only [Act.put, List.setIfInBounds_toArray, List.set_cons_zero, List.set_cons_succ])
  refine take_y (i := 6) (d := some 77) (v := ?_) rfl rfl (by kernel_rfl) (by kernel_rfl) (by kernel_rfl) (fun _ _ _ h => h) (by assumption) ?_ ?_
  rotate_left
  · intro oi ho
    simp only [List.getElem?_toArray, List.getElem?_cons_succ, List.getElem?_cons_zero, Option.some.injEq] at ho
    subst ho
    intro w hSw
    (try dsimp only at hSw)
    go_simp
    (try with_reducible rfl)
  (try simp only [Act.put, List.setIfInBounds_toArray, List.set_cons_zero, List.set_cons_succ])
  refine take_y (i := 7) (d := some 78) (v := ?_) rfl rfl (by kernel_rfl) (by kernel_rfl) (by kernel_rfl) (fun _ _ _ h => h) (by assumption) ?_ ?_
  rotate_left
  · intro oi ho
    simp only [List.getElem?_toArray, List.getElem?_cons_succ, List.getElem?_cons_zero, Option.some.injEq] at ho
    subst ho
    intro w hSw
    (try dsimp only at hSw)
    go_simp
    (try with_reducible rfl)
  (try simp only [Act.put, List.setIfInBounds_toArray, List.set_cons_zero, List.set_cons_succ])
  refine take_y (i := 8) (d := some 79) (v := ?_) rfl rfl (by kernel_rfl) (by kernel_rfl) (by kernel_rfl) (fun _ _ _ h => h) (by assumption) ?_ ?_
  rotate_left
  · intro oi ho
    simp only [List.getElem?_toArray, List.getElem?_cons_succ, List.getElem?_cons_zero, Option.some.injEq] at ho
    subst ho
    intro w hSw
    (try dsimp only at hSw)
    go_simp
    (try with_reducible rfl)
  (try simp only [Act.put, List.setIfInBounds_toArray, List.set_cons_zero, List.set_cons_succ])
  refine take_y (i := 9) (d := some 80) (v := ?_) rfl rfl (by kernel_rfl) (by kernel_rfl) (by kernel_rfl) (fun _ _ _ h => h) (by assumption) ?_ ?_
  rotate_left
  · intro oi ho
    simp only [List.getElem?_toArray, List.getElem?_cons_succ, List.getElem?_cons_zero, Option.some.injEq] at ho
    subst ho
    intro w hSw
    (try dsimp only at hSw)
    go_simp
    (try with_reducible rfl)
  (try simp only [Act.put, List.setIfInBounds_toArray, List.set_cons_zero, List.set_cons_succ])
  refine take_y (i := 10) (d := some 81) (v := ?_) rfl rfl (by kernel_rfl) (by kernel_rfl) (by kernel_rfl) (fun _ _ _ h => h) (by assumption) ?_ ?_
  rotate_left
  · intro oi ho
    simp only [List.getElem?_toArray, List.getElem?_cons_succ, List.getElem?_cons_zero, Option.some.injEq] at ho
    subst ho
    intro w hSw
    (try dsimp only at hSw)
    go_simp
    (try with_reducible rfl)
  (try simp only [Act.put, List.setIfInBounds_toArray, List.set_cons_zero, List.set_cons_succ])
  refine take_y (i := 11) (d := some 82) (v := ?_) rfl rfl (by kernel_rfl) (by kernel_rfl) (by kernel_rfl) (fun _ _ _ h => h) (by assumption) ?_ ?_
  rotate_left
  · intro oi ho
    simp only [List.getElem?_toArray, List.getElem?_cons_succ, List.getElem?_cons_zero, Option.some.injEq] at ho
    subst ho
    intro w hSw
    (try dsimp only at hSw)
    go_simp
    (try with_reducible rfl)
  (try simp only [Act.put, List.setIfInBounds_toArray, List.set_cons_zero, List.set_cons_succ])
  refine take_y (i := 12) (d := some 83) (v := ?_) rfl rfl (by kernel_rfl) (by kernel_rfl) (by kernel_rfl) (fun _ _ _ h => h) (by assumption) ?_ ?_
  rotate_left
  · intro oi ho
    simp only [List.getElem?_toArray, List.getElem?_cons_succ, List.getElem?_cons_zero, Option.some.injEq] at ho
    subst ho
    intro w hSw
    (try dsimp only at hSw)
    go_simp
    (try with_reducible rfl)
  (try simp only [Act.put, List.setIfInBounds_toArray, List.set_cons_zero, List.set_cons_succ])
  refine take_y (i := 13) (d := some 84) (v := ?_) rfl rfl (by kernel_rfl) (by kernel_rfl) (by kernel_rfl) (fun _ _ _ h => h) (by assumption) ?_ ?_
  rotate_left
  · intro oi ho
    simp only [List.getElem?_toArray, List.getElem?_cons_succ, List.getElem?_cons_zero, Option.some.injEq] at ho
    subst ho
    intro w hSw
    (try dsimp only at hSw)
    go_simp
    (try with_reducible rfl)
  (try simp only [Act.put, List.setIfInBounds_toArray, List.set_cons_zero, List.set_cons_succ])
  refine take_y (i := 14) (d := some 85) (v := ?_) rfl rfl (by kernel_rfl) (by kernel_rfl) (by kernel_rfl) (fun _ _ _ h => h) (by assumption) ?_ ?_
  rotate_left
  · intro oi ho
    simp only [List.getElem?_toArray, List.getElem?_cons_succ, List.getElem?_cons_zero, Option.some.injEq] at ho
    subst ho
    intro w hSw
    (try dsimp only at hSw)
    go_simp
    (try with_reducible rfl)
  (try simp only [Act.put, List.setIfInBounds_toArray, List.set_cons_zero, List.set_cons_succ])
  refine take_y (i := 15) (d := some 86) (v := ?_) rfl rfl (by kernel_rfl) (by kernel_rfl) (by kernel_rfl) (fun _ _ _ h => h) (by assumption) ?_ ?_
  rotate_left
  · intro oi ho
    simp only [List.getElem?_toArray, List.getElem?_cons_succ, List.getElem?_cons_zero, Option.some.injEq] at ho
    subst ho
    intro w hSw
    (try dsimp only at hSw)
    go_simp
    (try with_reducible rfl)
  (try simp only [Act.put, List.setIfInBounds_toArray, List.set_cons_zero, List.set_cons_succ])
  refine take_y (i := 16) (d := some 87) (v := ?_) rfl rfl (by kernel_rfl) (by kernel_rfl) (by kernel_rfl) (fun _ _ _ h => h) (by assumption) ?_ ?_
  rotate_left
  · intro oi ho
    simp only [List.getElem?_toArray, List.getElem?_cons_succ, List.getElem?_cons_zero, Option.some.injEq] at ho
    subst ho
    intro w hSw
    (try dsimp only at hSw)
    go_simp
    (try with_reducible rfl)
  (try simp only [Act.put, List.setIfInBounds_toArray, List.set_cons_zero, List.set_cons_succ])
  refine take_n (i := 17) (d := some 88) rfl rfl (by kernel_rfl) (by kernel_rfl) (by kernel_rfl) (fun _ _ _ h => h) (by assumption) ?_
  (try simp only [Act.put, List.setIfInBounds_toArray, List.set_cons_zero, List.set_cons_succ])
  refine take_n (i := 18) (d := some 89) rfl rfl (by kernel_rfl) (by kernel_rfl) (by kernel_rfl) (fun _ _ _ h => h) (by assumption) ?_
  (try simp only [Act.put, List.setIfInBounds_toArray, List.set_cons_zero, List.set_cons_succ])
  refine take_n (i := 19) (d := some 90) rfl rfl (by kernel_rfl) (by kernel_rfl) (by kernel_rfl) (fun _ _ _ h => h) (by assumption) ?_
  (try simp only [Act.put, List.setIfInBounds_toArray, List.set_cons_zero, List.set_cons_succ])
  refine take_n (i := 20) (d := some 91) rfl rfl (by kernel_rfl) (by kernel_rfl) (by kernel_rfl) (fun _ _ _ h => h) (by assumption) ?_
  (try simp only [Act.put, List.setIfInBounds_toArray, List.set_cons_zero, List.set_cons_succ])
  refine take_n (i := 21) (d := some 92) rfl rfl (by kernel_rfl) (by kernel_rfl) (by kernel_rfl) (fun _ _ _ h => h) (by assumption) ?_
  (try simp only [Act.put, List.setIfInBounds_toArray, List.set_cons_zero, List.set_cons_succ])
  refine take_n (i := 22) (d := some 93) rfl rfl (by kernel_rfl) (by kernel_rfl) (by kernel_rfl) (fun _ _ _ h => h) (by assumption) ?_
  (try simp only [Act.put, List.setIfInBounds_toArray, List.set_cons_zero, List.set_cons_succ])
  refine take_n (i := 23) (d := some 94) rfl rfl (by kernel_rfl) (by kernel_rfl) (by kernel_rfl) (fun _ _ _ h => h) (by assumption) ?_
  (try simp only [Act.put, List.setIfInBounds_toArray, List.set_cons_zero, List.set_cons_succ])
  refine take_n (i := 24) (d := some 95) rfl rfl (by kernel_rfl) (by kernel_rfl) (by kernel_rfl) (fun _ _ _ h => h) (by assumption) ?_
  (try simp only [Act.put, List.setIfInBounds_toArray, List.set_cons_zero, List.set_cons_succ])
  refine take_y (i := 25) (d := some 96) (v := ?_) rfl rfl (by kernel_rfl) (by kernel_rfl) (by kernel_rfl) (fun _ _ _ h => h) (by assumption) ?_ ?_
  rotate_left
  · intro oi ho
    simp only [List.getElem?_toArray, List.getElem?_cons_succ, List.getElem?_cons_zero, Option.some.injEq] at ho
    subst ho
    intro w hSw
    (try dsimp only at hSw)
    go_simp
    (try with_reducible rfl)
  (try simp only [Act.put, List.setIfInBounds_toArray, List.set_cons_zero, List.set_cons_succ])
  refine wpAnyH_ready (rs := [26]) (by kernel_rfl) (by simp) ?_
  refine AllReadyH.cons rfl (fun K hK => ?_) AllReadyH.nil
  go_simp
  (go_at_call 97; refine (HBL _).out.mono ?_; rintro e wA ⟨rfl, hbA⟩)
  refine hK.out _ _ ?_ (fun hHeld => ?_)
  · (try dsimp only)
    (go_split_ands; refine ⟨?_, ?_, ?_, ?_, ?_, ?_, ?_, ?_, ?_, ?_, ?_, ?_, ?_, ?_⟩ <;> first | (with_reducible assumption) | with_reducible exact Below.drew (by assumption) | with_reducible exact size_drew (by assumption) | with_reducible exact cell_drew (by assumption) | with_reducible exact vAt_drew (by assumption) | with_reducible exact frozen_drew (by assumption) | with_reducible exact below_keep (by assumption) (by assumption) | with_reducible exact size_keep (by assumption) (by assumption) | with_reducible exact cell_keep (by assumption) (by assumption) | with_reducible exact vAt_keep (by assumption) (by assumption) | with_reducible exact frozen_keep (by assumption) (by assumption) (by assumption) | with_reducible exact below_set3 (by assumption) (by simp) (by simp) (by simp) | with_reducible exact size_set3 (by assumption) | with_reducible exact cell_set3 (by assumption) (by simp [*]) rfl rfl | with_reducible exact vAt_set3 (by assumption) | with_reducible exact frozen_set3 (by assumption))
  clear hK K
  (try simp only [Act.put, List.setIfInBounds_toArray, List.set_cons_zero, List.set_cons_succ])
  refine wpAnyH_ready (rs := [27]) (by kernel_rfl) (by simp) ?_
  refine AllReadyH.cons rfl (fun K hK => ?_) AllReadyH.nil
  go_simp
  refine hK.out _ _ ?_ (fun hHeld => ?_)
  · (try dsimp only)
    (go_split_ands; refine ⟨?_, ?_, ?_, ?_, ?_, ?_, ?_, ?_, ?_, ?_, ?_, ?_, ?_, ?_⟩ <;> first | (with_reducible assumption) | with_reducible exact Below.drew (by assumption) | with_reducible exact size_drew (by assumption) | with_reducible exact cell_drew (by assumption) | with_reducible exact vAt_drew (by assumption) | with_reducible exact frozen_drew (by assumption) | with_reducible exact below_keep (by assumption) (by assumption) | with_reducible exact size_keep (by assumption) (by assumption) | with_reducible exact cell_keep (by assumption) (by assumption) | with_reducible exact vAt_keep (by assumption) (by assumption) | with_reducible exact frozen_keep (by assumption) (by assumption) (by assumption) | with_reducible exact below_set3 (by assumption) (by simp) (by simp) (by simp) | with_reducible exact size_set3 (by assumption) | with_reducible exact cell_set3 (by assumption) (by simp [*]) rfl rfl | with_reducible exact vAt_set3 (by assumption) | with_reducible exact frozen_set3 (by assumption))
  clear hK K
  (try simp only [Act.put, List.setIfInBounds_toArray, List.set_cons_zero, List.set_cons_succ])
  refine wpAnyH_done (by kernel_rfl) ?_ _
  obtain ⟨⟨e0, e1, e2⟩, _⟩ := box_three (box_kept (heap2_1d w _ _) hbA)
  have hzA : w.heap.size + 1 < wA.heap.size := size_keep hbA (size_drew hz0)
  have hBA := below_keep hB0.drew hbA
  clear hB0 hz0 r0 r1 r2 f0 f1 f2 p0 p1 p2 q0 q1 q2
  go_wp2_with fail
  exact bodyPost_ret (v := .agg #[.int .i64 3, .int .i64 (b2i false), .string ⟨#[]⟩]) (by simp [results, Tryz.results69, go_sem, e0, e1, e2]) rfl ⟨rfl, below_set3 hBA (Nat.le_succ _) (Nat.le_succ _) (Nat.le_succ _)⟩

set_option maxHeartbeats 4000000 in
set_option maxRecDepth 100000 in
theorem apply_7c (b o n1 c1 : Nat) (vr : Value) (xa xb col : Int) (c : GVal) (k1 m1 k2 m2 : Int) (s1 s2 : ByteArray) (w : World) (hn : 1 < n1) (h63 : n1 ≤ 9223372036854775807) (h1 : (k1 != 0) = true) (h2 : k1 = k2)
    (p0 : w.cell? ⟨b, o, none⟩ = some (.int .i64 k1)) (p1 : w.cell? ⟨b, o + 1, none⟩ = some (.int .i64 m1)) (p2 : w.cell? ⟨b, o + 2, none⟩ = some (.string s1))
    (q0 : w.cell? ⟨b, o + 3, none⟩ = some (.int .i64 k2)) (q1 : w.cell? ⟨b, o + 3 + 1, none⟩ = some (.int .i64 m2)) (q2 : w.cell? ⟨b, o + 3 + 2, none⟩ = some (.string s2)) :
    Calls Tryz.prog 69 #[aggX ⟨7, xa, xb, col, c⟩, .slice (some ⟨b, o, none⟩) n1 c1, vr] w fun e w' => e = .returned (aggG (gbool (decide (cmpG ⟨k1, m1, s1⟩ ⟨k2, m2, s2⟩ < 0)))) ∧ Below w.heap.size w w' := by
  have lb : b < w.heap.size := World.block_lt_of_cell? w _ p0
  have hn0 : 0 < n1 := by omega
  have hn1 : (1 : Int) ≤ (n1 : Int) - 1 := by omega
  have hn2 : (1 : Int) < (n1 : Int) := by omega
  have hn3 : ¬ (n1 : Int) ≤ 1 := by omega
  have hn4 : ¬ n1 ≤ 1 := by omega
  subst h2
  have HC : ∀ W, Hid (Calls Tryz.prog 29 #[.agg #[.int .i64 k1, .int .i64 m1, .string s1], .agg #[.int .i64 k1, .int .i64 m2, .string s2]] W fun e w' => e = .returned (.int .i64 (cmpG ⟨k1, m1, s1⟩ ⟨k1, m2, s2⟩)) ∧ Below W.heap.size W w') := fun W => valCmp_any ⟨k1, m1, s1⟩ ⟨k1, m2, s2⟩ W
  generalize cmpG ⟨k1, m1, s1⟩ ⟨k1, m2, s2⟩ = x at HC ⊢
  have HBL : ∀ W, Hid (Calls Tryz.prog 97 #[.bool (decide (x < 0))] W fun e w' => e = .returned (.agg #[.int .i64 3, .int .i64 (b2i (decide (x < 0))), .string ⟨#[]⟩]) ∧ Below W.heap.size W w') := fun W => boolean_ag _ W
  rw [aggG_bool]
  obtain ⟨r, hr⟩ : ∃ r, r = b2i (decide (x < 0)) := ⟨_, rfl⟩
  rw [← hr] at HBL ⊢
  clear hr
  obtain ⟨ck, cn, cs⟩ := c
  unfold aggX
  dsimp only
  have hB0 := below_alloc_two w (.cells #[.int .i64 7, .int .i64 xa, .int .i64 xb, .int .i64 col, .int .i64 ck, .int .i64 cn, .string cs] 67) (.cells #[.int .i64 0, .int .i64 0, .string ⟨#[]⟩] 40)
  have hz0 : w.heap.size + 1 < ((w.alloc (.cells #[.int .i64 7, .int .i64 xa, .int .i64 xb, .int .i64 col, .int .i64 ck, .int .i64 cn, .string cs] 67)).alloc (.cells #[.int .i64 0, .int .i64 0, .string ⟨#[]⟩] 40)).heap.size := by simp
  obtain ⟨⟨r0, r1, r2⟩, f0, f1, f2⟩ := box_three (heap2_1 w (.cells #[.int .i64 7, .int .i64 xa, .int .i64 xb, .int .i64 col, .int .i64 ck, .int .i64 cn, .string cs] 67) (.cells #[.int .i64 0, .int .i64 0, .string ⟨#[]⟩] 40))
  replace r0 := vAt_of r0
  replace r1 := vAt_of r1
  replace r2 := vAt_of r2
  replace p0 := cell_keep hB0 p0
  replace p1 := cell_keep hB0 p1
  replace p2 := cell_keep hB0 p2
  replace q0 := cell_keep hB0 q0
  replace q1 := cell_keep hB0 q1
  replace q2 := cell_keep hB0 q2
  have lb2 : w.heap.size + 1 ≠ b := by omega
  go_enter Tryz.func69, Tryz.ntmps69
  go_wp2_with fail
  refine wp_region_held_drew (S := (fun W => Below w.heap.size w W ∧ w.heap.size + 1 < W.heap.size
      ∧ W.cell? ⟨b, o, none⟩ = some (.int .i64 k1) ∧ W.cell? ⟨b, o + 1, none⟩ = some (.int .i64 m1) ∧ W.cell? ⟨b, o + 2, none⟩ = some (.string s1)
      ∧ W.cell? ⟨b, o + 3, none⟩ = some (.int .i64 k1) ∧ W.cell? ⟨b, o + 3 + 1, none⟩ = some (.int .i64 m2) ∧ W.cell? ⟨b, o + 3 + 2, none⟩ = some (.string s2)
      ∧ W.cell? ⟨w.heap.size + 1, 0, none⟩ = some (vAt W ⟨w.heap.size + 1, 0, none⟩) ∧ W.cell? ⟨w.heap.size + 1, 1, none⟩ = some (vAt W ⟨w.heap.size + 1, 1, none⟩) ∧ W.cell? ⟨w.heap.size + 1, 2, none⟩ = some (vAt W ⟨w.heap.size + 1, 2, none⟩)
      ∧ W.frozen? ⟨w.heap.size + 1, 0, none⟩ = false ∧ W.frozen? ⟨w.heap.size + 1, 1, none⟩ = false ∧ W.frozen? ⟨w.heap.size + 1, 2, none⟩ = false)) (by kernel_rfl) ?_ (fun hHeld => ?_)
  · (go_split_ands; refine ⟨?_, ?_, ?_, ?_, ?_, ?_, ?_, ?_, ?_, ?_, ?_, ?_, ?_, ?_⟩ <;> first | (with_reducible assumption) | with_reducible exact Below.drew (by assumption) | with_reducible exact size_drew (by assumption) | with_reducible exact cell_drew (by assumption) | with_reducible exact vAt_drew (by assumption) | with_reducible exact frozen_drew (by assumption) | with_reducible exact below_keep (by assumption) (by assumption) | with_reducible exact size_keep (by assumption) (by assumption) | with_reducible exact cell_keep (by assumption) (by assumption) | with_reducible exact vAt_keep (by assumption) (by assumption) | with_reducible exact frozen_keep (by assumption) (by assumption) (by assumption) | with_reducible exact below_set3 (by assumption) (by simp) (by simp) (by simp) | with_reducible exact size_set3 (by assumption) | with_reducible exact cell_set3 (by assumption) (by simp [*]) rfl rfl | with_reducible exact vAt_set3 (by assumption) | with_reducible exact frozen_set3 (by assumption))
  refine take_y (i := 0) (d := some 71) (v := ?_) rfl rfl (by kernel_rfl) (by kernel_rfl) (by kernel_rfl) (fun _ _ _ h => h) (by assumption) ?_ ?_
  rotate_left
  · intro oi ho
    simp only [List.getElem?_toArray, List.getElem?_cons_zero, Option.some.injEq] at ho
    subst ho
    intro w hSw
    (try dsimp only at hSw)
    go_simp
    (try with_reducible rfl)
  (try simp only [Act.put, List.setIfInBounds_toArray, List.set_cons_zero, List.set_cons_succ])
  refine take_y (i := 1) (d := some 72) (v := ?_) rfl rfl (by kernel_rfl) (by kernel_rfl) (by kernel_rfl) (fun _ _ _ h => h) (by assumption) ?_ ?_
  rotate_left
  · intro oi ho
    simp only [List.getElem?_toArray, List.getElem?_cons_succ, List.getElem?_cons_zero, Option.some.injEq] at ho
    subst ho
    intro w hSw
    (try dsimp only at hSw)
    go_simp
    (try with_reducible rfl)
  (try simp only [Act.put, List.setIfInBounds_toArray, List.set_cons_zero, List.set_cons_succ])
  refine take_y (i := 2) (d := some 73) (v := ?_) rfl rfl (by kernel_rfl) (by kernel_rfl) (by kernel_rfl) (fun _ _ _ h => h) (by assumption) ?_ ?_
  rotate_left
  · intro oi ho
    simp only [List.getElem?_toArray, List.getElem?_cons_succ, List.getElem?_cons_zero, Option.some.injEq] at ho
    subst ho
    intro w hSw
    (try dsimp only at hSw)
    go_simp
    (try with_reducible rfl)
  (try simp only [Act.put, List.setIfInBounds_toArray, List.set_cons_zero, List.set_cons_succ])
  refine take_y (i := 3) (d := some 74) (v := ?_) rfl rfl (by kernel_rfl) (by kernel_rfl) (by kernel_rfl) (fun _ _ _ h => h) (by assumption) ?_ ?_
  rotate_left
  · intro oi ho
    simp only [List.getElem?_toArray, List.getElem?_cons_succ, List.getElem?_cons_zero, Option.some.injEq] at ho
    subst ho
    intro w hSw
    (try dsimp only at hSw)
    go_simp
    (try with_reducible rfl)
  (try simp only [Act.put, List.setIfInBounds_toArray, List.set_cons_zero, List.set_cons_succ])
  refine take_y (i := 4) (d := some 75) (v := ?_) rfl rfl (by kernel_rfl) (by kernel_rfl) (by kernel_rfl) (fun _ _ _ h => h) (by assumption) ?_ ?_
  rotate_left
  · intro oi ho
    simp only [List.getElem?_toArray, List.getElem?_cons_succ, List.getElem?_cons_zero, Option.some.injEq] at ho
    subst ho
    intro w hSw
    (try dsimp only at hSw)
    go_simp
    (try with_reducible rfl)
  (try simp only [Act.put, List.setIfInBounds_toArray, List.set_cons_zero, List.set_cons_succ])
  refine take_y (i := 5) (d := some 76) (v := ?_) rfl rfl (by kernel_rfl) (by kernel_rfl) (by kernel_rfl) (fun _ _ _ h => h) (by assumption) ?_ ?_
  rotate_left
  · intro oi ho
    simp only [List.getElem?_toArray, List.getElem?_cons_succ, List.getElem?_cons_zero, Option.some.injEq] at ho
    subst ho
    intro w hSw
    (try dsimp only at hSw)
    go_simp
    (try with_reducible rfl)
  (try simp only [Act.put, List.setIfInBounds_toArray, List.set_cons_zero, List.set_cons_succ])
  refine take_y (i := 6) (d := some 77) (v := ?_) rfl rfl (by kernel_rfl) (by kernel_rfl) (by kernel_rfl) (fun _ _ _ h => h) (by assumption) ?_ ?_
  rotate_left
  · intro oi ho
    simp only [List.getElem?_toArray, List.getElem?_cons_succ, List.getElem?_cons_zero, Option.some.injEq] at ho
    subst ho
    intro w hSw
    (try dsimp only at hSw)
    go_simp
    (try with_reducible rfl)
  (try simp only [Act.put, List.setIfInBounds_toArray, List.set_cons_zero, List.set_cons_succ])
  refine take_y (i := 7) (d := some 78) (v := ?_) rfl rfl (by kernel_rfl) (by kernel_rfl) (by kernel_rfl) (fun _ _ _ h => h) (by assumption) ?_ ?_
  rotate_left
  · intro oi ho
    simp only [List.getElem?_toArray, List.getElem?_cons_succ, List.getElem?_cons_zero, Option.some.injEq] at ho
    subst ho
    intro w hSw
    (try dsimp only at hSw)
    go_simp
    (try with_reducible rfl)
  (try simp only [Act.put, List.setIfInBounds_toArray, List.set_cons_zero, List.set_cons_succ])
  refine take_y (i := 8) (d := some 79) (v := ?_) rfl rfl (by kernel_rfl) (by kernel_rfl) (by kernel_rfl) (fun _ _ _ h => h) (by assumption) ?_ ?_
  rotate_left
  · intro oi ho
    simp only [List.getElem?_toArray, List.getElem?_cons_succ, List.getElem?_cons_zero, Option.some.injEq] at ho
    subst ho
    intro w hSw
    (try dsimp only at hSw)
    go_simp
    (try with_reducible rfl)
  (try simp only [Act.put, List.setIfInBounds_toArray, List.set_cons_zero, List.set_cons_succ])
  refine take_y (i := 9) (d := some 80) (v := ?_) rfl rfl (by kernel_rfl) (by kernel_rfl) (by kernel_rfl) (fun _ _ _ h => h) (by assumption) ?_ ?_
  rotate_left
  · intro oi ho
    simp only [List.getElem?_toArray, List.getElem?_cons_succ, List.getElem?_cons_zero, Option.some.injEq] at ho
    subst ho
    intro w hSw
    (try dsimp only at hSw)
    go_simp
    (try with_reducible rfl)
  (try simp only [Act.put, List.setIfInBounds_toArray, List.set_cons_zero, List.set_cons_succ])
  refine take_y (i := 10) (d := some 81) (v := ?_) rfl rfl (by kernel_rfl) (by kernel_rfl) (by kernel_rfl) (fun _ _ _ h => h) (by assumption) ?_ ?_
  rotate_left
  · intro oi ho
    simp only [List.getElem?_toArray, List.getElem?_cons_succ, List.getElem?_cons_zero, Option.some.injEq] at ho
    subst ho
    intro w hSw
    (try dsimp only at hSw)
    go_simp
    (try with_reducible rfl)
  (try simp only [Act.put, List.setIfInBounds_toArray, List.set_cons_zero, List.set_cons_succ])
  refine take_y (i := 11) (d := some 82) (v := ?_) rfl rfl (by kernel_rfl) (by kernel_rfl) (by kernel_rfl) (fun _ _ _ h => h) (by assumption) ?_ ?_
  rotate_left
  · intro oi ho
    simp only [List.getElem?_toArray, List.getElem?_cons_succ, List.getElem?_cons_zero, Option.some.injEq] at ho
    subst ho
    intro w hSw
    (try dsimp only at hSw)
    go_simp
    (try with_reducible rfl)
  (try simp only [Act.put, List.setIfInBounds_toArray, List.set_cons_zero, List.set_cons_succ])
  refine take_y (i := 12) (d := some 83) (v := ?_) rfl rfl (by kernel_rfl) (by kernel_rfl) (by kernel_rfl) (fun _ _ _ h => h) (by assumption) ?_ ?_
  rotate_left
  · intro oi ho
    simp only [List.getElem?_toArray, List.getElem?_cons_succ, List.getElem?_cons_zero, Option.some.injEq] at ho
    subst ho
    intro w hSw
    (try dsimp only at hSw)
    go_simp
    (try with_reducible rfl)
  (try simp only [Act.put, List.setIfInBounds_toArray, List.set_cons_zero, List.set_cons_succ])
  refine take_y (i := 13) (d := some 84) (v := ?_) rfl rfl (by kernel_rfl) (by kernel_rfl) (by kernel_rfl) (fun _ _ _ h => h) (by assumption) ?_ ?_
  rotate_left
  · intro oi ho
    simp only [List.getElem?_toArray, List.getElem?_cons_succ, List.getElem?_cons_zero, Option.some.injEq] at ho
    subst ho
    intro w hSw
    (try dsimp only at hSw)
    go_simp
    (try with_reducible rfl)
  (try simp only [Act.put, List.setIfInBounds_toArray, List.set_cons_zero, List.set_cons_succ])
  refine take_y (i := 14) (d := some 85) (v := ?_) rfl rfl (by kernel_rfl) (by kernel_rfl) (by kernel_rfl) (fun _ _ _ h => h) (by assumption) ?_ ?_
  rotate_left
  · intro oi ho
    simp only [List.getElem?_toArray, List.getElem?_cons_succ, List.getElem?_cons_zero, Option.some.injEq] at ho
    subst ho
    intro w hSw
    (try dsimp only at hSw)
    go_simp
    (try with_reducible rfl)
  (try simp only [Act.put, List.setIfInBounds_toArray, List.set_cons_zero, List.set_cons_succ])
  refine take_y (i := 15) (d := some 86) (v := ?_) rfl rfl (by kernel_rfl) (by kernel_rfl) (by kernel_rfl) (fun _ _ _ h => h) (by assumption) ?_ ?_
  rotate_left
  · intro oi ho
    simp only [List.getElem?_toArray, List.getElem?_cons_succ, List.getElem?_cons_zero, Option.some.injEq] at ho
    subst ho
    intro w hSw
    (try dsimp only at hSw)
    go_simp
    (try with_reducible rfl)
  (try simp only [Act.put, List.setIfInBounds_toArray, List.set_cons_zero, List.set_cons_succ])
  refine take_y (i := 16) (d := some 87) (v := ?_) rfl rfl (by kernel_rfl) (by kernel_rfl) (by kernel_rfl) (fun _ _ _ h => h) (by assumption) ?_ ?_
  rotate_left
  · intro oi ho
    simp only [List.getElem?_toArray, List.getElem?_cons_succ, List.getElem?_cons_zero, Option.some.injEq] at ho
    subst ho
    intro w hSw
    (try dsimp only at hSw)
    go_simp
    (try with_reducible rfl)
  (try simp only [Act.put, List.setIfInBounds_toArray, List.set_cons_zero, List.set_cons_succ])
  refine take_y (i := 17) (d := some 88) (v := ?_) rfl rfl (by kernel_rfl) (by kernel_rfl) (by kernel_rfl) (fun _ _ _ h => h) (by assumption) ?_ ?_
  rotate_left
  · intro oi ho
    simp only [List.getElem?_toArray, List.getElem?_cons_succ, List.getElem?_cons_zero, Option.some.injEq] at ho
    subst ho
    intro w hSw
    (try dsimp only at hSw)
    go_simp
    (try with_reducible rfl)
  (try simp only [Act.put, List.setIfInBounds_toArray, List.set_cons_zero, List.set_cons_succ])
  refine take_y (i := 18) (d := some 89) (v := ?_) rfl rfl (by kernel_rfl) (by kernel_rfl) (by kernel_rfl) (fun _ _ _ h => h) (by assumption) ?_ ?_
  rotate_left
  · intro oi ho
    simp only [List.getElem?_toArray, List.getElem?_cons_succ, List.getElem?_cons_zero, Option.some.injEq] at ho
    subst ho
    intro w hSw
    (try dsimp only at hSw)
    go_simp
    (try with_reducible rfl)
  (try simp only [Act.put, List.setIfInBounds_toArray, List.set_cons_zero, List.set_cons_succ])
  refine take_y (i := 19) (d := some 90) (v := ?_) rfl rfl (by kernel_rfl) (by kernel_rfl) (by kernel_rfl) (fun _ _ _ h => h) (by assumption) ?_ ?_
  rotate_left
  · intro oi ho
    simp only [List.getElem?_toArray, List.getElem?_cons_succ, List.getElem?_cons_zero, Option.some.injEq] at ho
    subst ho
    intro w hSw
    (try dsimp only at hSw)
    go_simp
    (try with_reducible rfl)
  (try simp only [Act.put, List.setIfInBounds_toArray, List.set_cons_zero, List.set_cons_succ])
  refine take_y (i := 20) (d := some 91) (v := ?_) rfl rfl (by kernel_rfl) (by kernel_rfl) (by kernel_rfl) (fun _ _ _ h => h) (by assumption) ?_ ?_
  rotate_left
  · intro oi ho
    simp only [List.getElem?_toArray, List.getElem?_cons_succ, List.getElem?_cons_zero, Option.some.injEq] at ho
    subst ho
    intro w hSw
    (try dsimp only at hSw)
    go_simp
    (try with_reducible rfl)
  (try simp only [Act.put, List.setIfInBounds_toArray, List.set_cons_zero, List.set_cons_succ])
  refine take_y (i := 21) (d := some 92) (v := ?_) rfl rfl (by kernel_rfl) (by kernel_rfl) (by kernel_rfl) (fun _ _ _ h => h) (by assumption) ?_ ?_
  rotate_left
  · intro oi ho
    simp only [List.getElem?_toArray, List.getElem?_cons_succ, List.getElem?_cons_zero, Option.some.injEq] at ho
    subst ho
    intro w hSw
    (try dsimp only at hSw)
    go_simp
    (try with_reducible rfl)
  (try simp only [Act.put, List.setIfInBounds_toArray, List.set_cons_zero, List.set_cons_succ])
  refine take_y (i := 22) (d := some 93) (v := ?_) rfl rfl (by kernel_rfl) (by kernel_rfl) (by kernel_rfl) (fun _ _ _ h => h) (by assumption) ?_ ?_
  rotate_left
  · intro oi ho
    simp only [List.getElem?_toArray, List.getElem?_cons_succ, List.getElem?_cons_zero, Option.some.injEq] at ho
    subst ho
    intro w hSw
    (try dsimp only at hSw)
    go_simp
    (try with_reducible rfl)
  (try simp only [Act.put, List.setIfInBounds_toArray, List.set_cons_zero, List.set_cons_succ])
  refine wpAnyH_ready (rs := [23]) (by kernel_rfl) (by simp) ?_
  refine AllReadyH.cons rfl (fun K hK => ?_) AllReadyH.nil
  go_simp
  (go_at_call 29; refine (HC _).out.mono ?_; rintro e wC ⟨rfl, hbC⟩)
  refine hK.out _ _ ?_ (fun hHeld => ?_)
  · (try dsimp only)
    (go_split_ands; refine ⟨?_, ?_, ?_, ?_, ?_, ?_, ?_, ?_, ?_, ?_, ?_, ?_, ?_, ?_⟩ <;> first | (with_reducible assumption) | with_reducible exact Below.drew (by assumption) | with_reducible exact size_drew (by assumption) | with_reducible exact cell_drew (by assumption) | with_reducible exact vAt_drew (by assumption) | with_reducible exact frozen_drew (by assumption) | with_reducible exact below_keep (by assumption) (by assumption) | with_reducible exact size_keep (by assumption) (by assumption) | with_reducible exact cell_keep (by assumption) (by assumption) | with_reducible exact vAt_keep (by assumption) (by assumption) | with_reducible exact frozen_keep (by assumption) (by assumption) (by assumption) | with_reducible exact below_set3 (by assumption) (by simp) (by simp) (by simp) | with_reducible exact size_set3 (by assumption) | with_reducible exact cell_set3 (by assumption) (by simp [*]) rfl rfl | with_reducible exact vAt_set3 (by assumption) | with_reducible exact frozen_set3 (by assumption))
  clear hK K
  (try simp only [Act.put, List.setIfInBounds_toArray, List.set_cons_zero, List.set_cons_succ])
  refine take_y (i := 24) (d := some 95) (v := ?_) rfl rfl (by kernel_rfl) (by kernel_rfl) (by kernel_rfl) (fun _ _ _ h => h) (by assumption) ?_ ?_
  rotate_left
  · intro oi ho
    simp only [List.getElem?_toArray, List.getElem?_cons_succ, List.getElem?_cons_zero, Option.some.injEq] at ho
    subst ho
    intro w hSw
    (try dsimp only at hSw)
    go_simp
    (try with_reducible rfl)
  (try simp only [Act.put, List.setIfInBounds_toArray, List.set_cons_zero, List.set_cons_succ])
  refine take_y (i := 25) (d := some 96) (v := ?_) rfl rfl (by kernel_rfl) (by kernel_rfl) (by kernel_rfl) (fun _ _ _ h => h) (by assumption) ?_ ?_
  rotate_left
  · intro oi ho
    simp only [List.getElem?_toArray, List.getElem?_cons_succ, List.getElem?_cons_zero, Option.some.injEq] at ho
    subst ho
    intro w hSw
    (try dsimp only at hSw)
    go_simp
    (try with_reducible rfl)
  (try simp only [Act.put, List.setIfInBounds_toArray, List.set_cons_zero, List.set_cons_succ])
  refine wpAnyH_ready (rs := [26]) (by kernel_rfl) (by simp) ?_
  refine AllReadyH.cons rfl (fun K hK => ?_) AllReadyH.nil
  go_simp
  (go_at_call 97; refine (HBL _).out.mono ?_; rintro e wA ⟨rfl, hbA⟩)
  refine hK.out _ _ ?_ (fun hHeld => ?_)
  · (try dsimp only)
    (go_split_ands; refine ⟨?_, ?_, ?_, ?_, ?_, ?_, ?_, ?_, ?_, ?_, ?_, ?_, ?_, ?_⟩ <;> first | (with_reducible assumption) | with_reducible exact Below.drew (by assumption) | with_reducible exact size_drew (by assumption) | with_reducible exact cell_drew (by assumption) | with_reducible exact vAt_drew (by assumption) | with_reducible exact frozen_drew (by assumption) | with_reducible exact below_keep (by assumption) (by assumption) | with_reducible exact size_keep (by assumption) (by assumption) | with_reducible exact cell_keep (by assumption) (by assumption) | with_reducible exact vAt_keep (by assumption) (by assumption) | with_reducible exact frozen_keep (by assumption) (by assumption) (by assumption) | with_reducible exact below_set3 (by assumption) (by simp) (by simp) (by simp) | with_reducible exact size_set3 (by assumption) | with_reducible exact cell_set3 (by assumption) (by simp [*]) rfl rfl | with_reducible exact vAt_set3 (by assumption) | with_reducible exact frozen_set3 (by assumption))
  clear hK K
  (try simp only [Act.put, List.setIfInBounds_toArray, List.set_cons_zero, List.set_cons_succ])
  refine wpAnyH_ready (rs := [27]) (by kernel_rfl) (by simp) ?_
  refine AllReadyH.cons rfl (fun K hK => ?_) AllReadyH.nil
  go_simp
  refine hK.out _ _ ?_ (fun hHeld => ?_)
  · (try dsimp only)
    (go_split_ands; refine ⟨?_, ?_, ?_, ?_, ?_, ?_, ?_, ?_, ?_, ?_, ?_, ?_, ?_, ?_⟩ <;> first | (with_reducible assumption) | with_reducible exact Below.drew (by assumption) | with_reducible exact size_drew (by assumption) | with_reducible exact cell_drew (by assumption) | with_reducible exact vAt_drew (by assumption) | with_reducible exact frozen_drew (by assumption) | with_reducible exact below_keep (by assumption) (by assumption) | with_reducible exact size_keep (by assumption) (by assumption) | with_reducible exact cell_keep (by assumption) (by assumption) | with_reducible exact vAt_keep (by assumption) (by assumption) | with_reducible exact frozen_keep (by assumption) (by assumption) (by assumption) | with_reducible exact below_set3 (by assumption) (by simp) (by simp) (by simp) | with_reducible exact size_set3 (by assumption) | with_reducible exact cell_set3 (by assumption) (by simp [*]) rfl rfl | with_reducible exact vAt_set3 (by assumption) | with_reducible exact frozen_set3 (by assumption))
  clear hK K
  (try simp only [Act.put, List.setIfInBounds_toArray, List.set_cons_zero, List.set_cons_succ])
  refine wpAnyH_done (by kernel_rfl) ?_ _
  obtain ⟨⟨e0, e1, e2⟩, _⟩ := box_three (box_kept (box_kept (heap2_1d w _ _) hbC) hbA)
  have hzA : w.heap.size + 1 < wA.heap.size := size_keep hbA (size_keep hbC (size_drew hz0))
  have hBA := below_keep (below_keep hB0.drew hbC) hbA
  clear hB0 hz0 r0 r1 r2 f0 f1 f2 p0 p1 p2 q0 q1 q2
  go_wp2_with fail
  exact bodyPost_ret (v := .agg #[.int .i64 3, .int .i64 r, .string ⟨#[]⟩]) (by simp [results, Tryz.results69, go_sem, e0, e1, e2]) rfl ⟨rfl, below_set3 hBA (Nat.le_succ _) (Nat.le_succ _) (Nat.le_succ _)⟩

end Go.Proofs.YtfmbbfidjcgeiaaGreatDoor

namespace Go.Proofs.YtfmbbfidjcgeiaaGreatDoor
open Go.RowKit Go.Lib Go.Shelf

/-- What apply gives. -/
def applyG (x : GExp) (la row : List GVal) : GVal := if arity x.op < 0 then gnull else xapp x.op x.col x.c row (la.getD 0 gnull) (la.getD 1 gnull)
theorem val_two {w : World} {v : Value} {l : List GVal} (h : Sl valE w free v l) (h2 : l.length = 2) : ∃ b o c g1 g2, v = .slice (some ⟨b, o, none⟩) 2 c ∧ l = [g1, g2] ∧
    w.cell? ⟨b, o, none⟩ = some (.int .i64 g1.kind) ∧ w.cell? ⟨b, o + 1, none⟩ = some (.int .i64 g1.n) ∧ w.cell? ⟨b, o + 2, none⟩ = some (.string g1.s) ∧
    w.cell? ⟨b, o + 3, none⟩ = some (.int .i64 g2.kind) ∧ w.cell? ⟨b, o + 3 + 1, none⟩ = some (.int .i64 g2.n) ∧ w.cell? ⟨b, o + 3 + 2, none⟩ = some (.string g2.s) := by
  obtain ⟨g1, g2, rfl⟩ : ∃ g1 g2, l = [g1, g2] := by
    match l, h2 with
    | [g1, g2], _ => exact ⟨g1, g2, rfl⟩
  obtain ⟨a, c, rfl⟩ := h.shape
  obtain ⟨b, o, rfl, p0, p1, p2⟩ := val_at h (k := 0) rfl
  obtain ⟨b', o', e, q0, q1, q2⟩ := val_at h (k := 1) rfl
  cases e
  simp only [Nat.zero_mul, Nat.add_zero, Nat.one_mul] at p0 p1 p2 q0 q1 q2
  exact ⟨b, o, c, g1, g2, rfl, rfl, p0, p1, p2, q0, q1, q2⟩
theorem val_one {w : World} {v : Value} {l : List GVal} (h : Sl valE w free v l) (h2 : l.length = 1) : ∃ b o c g1, v = .slice (some ⟨b, o, none⟩) 1 c ∧ l = [g1] ∧
    w.cell? ⟨b, o, none⟩ = some (.int .i64 g1.kind) ∧ w.cell? ⟨b, o + 1, none⟩ = some (.int .i64 g1.n) ∧ w.cell? ⟨b, o + 2, none⟩ = some (.string g1.s) := by
  obtain ⟨g1, rfl⟩ : ∃ g1, l = [g1] := by
    match l, h2 with
    | [g1], _ => exact ⟨g1, rfl⟩
  obtain ⟨a, c, rfl⟩ := h.shape
  obtain ⟨b, o, rfl, p0, p1, p2⟩ := val_at h (k := 0) rfl
  simp only [Nat.zero_mul, Nat.add_zero] at p0 p1 p2
  exact ⟨b, o, c, g1, rfl, rfl, p0, p1, p2⟩
set_option maxHeartbeats 1000000 in
theorem apply_any (x : GExp) (va vr : Value) (la row : List GVal) (w : World) (ha : Sl valE w free va la) (hr : Sl valE w free vr row) (hla : arity x.op < 0 ∨ la.length = (arity x.op).toNat) (hin : ∀ g ∈ la, In64 g.n) :
    Calls Tryz.prog 69 #[aggX x, va, vr] w fun e w' => e = .returned (aggG (applyG x la row)) ∧ Below w.heap.size w w' := by
  obtain ⟨op, xa, xb, col, c⟩ := x
  unfold applyG
  dsimp only at hla ⊢
  by_cases har : arity op < 0
  · rw [if_pos har]
    exact apply_unknown op har va vr xa xb col c w
  · rw [if_neg har]
    have hop : 1 ≤ op ∧ op ≤ 11 := by have := arity_cases op; omega
    replace hla := hla.resolve_left har
    by_cases h2 : 3 ≤ op ∧ op ≤ 9
    · obtain ⟨b, o, c1, ⟨k1, m1, s1⟩, ⟨k2, m2, s2⟩, rfl, rfl, p0, p1, p2, q0, q1, q2⟩ := val_two ha (by have := arity_cases op; omega)
      have n1 : In64 m1 := hin ⟨k1, m1, s1⟩ (by simp)
      have n2 : In64 m2 := hin ⟨k2, m2, s2⟩ (by simp)
      show Calls _ _ _ _ fun e w' => e = .returned (aggG (xapp op col c row ⟨k1, m1, s1⟩ ⟨k2, m2, s2⟩)) ∧ _
      have hx : ∀ y, (op = 3 ∨ op = 4 ∨ op = 5) → xapp op col c row ⟨k1, m1, s1⟩ y = arithG op ⟨k1, m1, s1⟩ y := fun y h => by rcases h with rfl | rfl | rfl <;> rfl
      rcases (by omega : (op = 3 ∨ op = 4 ∨ op = 5) ∨ op = 6 ∨ op = 7 ∨ op = 8 ∨ op = 9) with h | rfl | rfl | rfl | rfl
      · rw [hx _ h]
        exact apply_arith op h b o 2 c1 vr xa xb col c k1 m1 k2 m2 s1 s2 w (by omega) (by omega) n1 n2 p0 p1 p2 q0 q1 q2
      · by_cases e1 : k1 = 0
        · have := apply_6a b o 2 c1 vr xa xb col c k1 m1 k2 m2 s1 s2 w (by omega) (by omega) e1 p0 p1 p2 q0 q1 q2
          rw [show xapp 6 col c row ⟨k1, m1, s1⟩ ⟨k2, m2, s2⟩ = gbool false by subst e1; simp [xapp]]
          exact this
        · have e1' : (k1 != 0) = true := by simpa using e1
          by_cases e2 : k2 = 0
          · have := apply_6b b o 2 c1 vr xa xb col c k1 m1 k2 m2 s1 s2 w (by omega) (by omega) e1' e2 p0 p1 p2 q0 q1 q2
            rw [show xapp 6 col c row ⟨k1, m1, s1⟩ ⟨k2, m2, s2⟩ = gbool false by subst e2; simp [xapp]]
            exact this
          · have e2' : (k2 != 0) = true := by simpa using e2
            have := apply_6c b o 2 c1 vr xa xb col c k1 m1 k2 m2 s1 s2 w (by omega) (by omega) e1' e2' p0 p1 p2 q0 q1 q2
            rw [show xapp 6 col c row ⟨k1, m1, s1⟩ ⟨k2, m2, s2⟩ = gbool (cmpG ⟨k1, m1, s1⟩ ⟨k2, m2, s2⟩ == 0) by simp [xapp, e1', e2']]
            exact this
      · by_cases e1 : k1 = 0
        · have := apply_7a b o 2 c1 vr xa xb col c k1 m1 k2 m2 s1 s2 w (by omega) (by omega) e1 p0 p1 p2 q0 q1 q2
          rw [show xapp 7 col c row ⟨k1, m1, s1⟩ ⟨k2, m2, s2⟩ = gbool false by subst e1; simp [xapp]]
          exact this
        · have e1' : (k1 != 0) = true := by simpa using e1
          by_cases e2 : k1 = k2
          · have := apply_7c b o 2 c1 vr xa xb col c k1 m1 k2 m2 s1 s2 w (by omega) (by omega) e1' e2 p0 p1 p2 q0 q1 q2
            rw [show xapp 7 col c row ⟨k1, m1, s1⟩ ⟨k2, m2, s2⟩ = gbool (decide (cmpG ⟨k1, m1, s1⟩ ⟨k2, m2, s2⟩ < 0)) by subst e2; simp [xapp, e1']]
            exact this
          · have e2' : (k1 == k2) = false := by simpa using e2
            have := apply_7b b o 2 c1 vr xa xb col c k1 m1 k2 m2 s1 s2 w (by omega) (by omega) e1' e2' p0 p1 p2 q0 q1 q2
            rw [show xapp 7 col c row ⟨k1, m1, s1⟩ ⟨k2, m2, s2⟩ = gbool false by simp [xapp, e2']]
            exact this
      · exact apply_8 b o 2 c1 vr xa xb col c k1 m1 k2 m2 s1 s2 w (by omega) (by omega) p0 p1 p2 q0 q1 q2
      · exact apply_9 b o 2 c1 vr xa xb col c k1 m1 k2 m2 s1 s2 w (by omega) (by omega) p0 p1 p2 q0 q1 q2
    · by_cases h1 : op = 10 ∨ op = 11
      · obtain ⟨b, o, c1, ⟨k1, m1, s1⟩, rfl, rfl, p0, p1, p2⟩ := val_one ha (by have := arity_cases op; omega)
        rcases h1 with rfl | rfl
        · exact apply_10 b o 1 c1 vr xa xb col c k1 m1 s1 w (by omega) (by omega) p0 p1 p2
        · exact apply_11 b o 1 c1 vr xa xb col c k1 w (by omega) (by omega) p0
      · rcases (by omega : op = 1 ∨ op = 2) with rfl | rfl
        · exact apply_1 va vr xa xb col c w
        · obtain ⟨a2, c2, rfl⟩ := hr.shape
          by_cases hc : 0 ≤ col ∧ col < row.length
          · obtain ⟨C, rfl⟩ := Int.eq_ofNat_of_zero_le hc.1
            obtain ⟨g, hg⟩ := lget_some row C (by omega)
            obtain ⟨b4, o4, rfl, r0, r1, r2⟩ := val_at hr hg
            rw [show ∀ a b, xapp 2 (C : Int) c row a b = g from fun a b => by
              unfold xapp
              rw [if_neg (by decide), if_pos rfl, if_pos hc]
              simpa using getD_some hg]
            exact apply_2 va b4 o4 row.length c2 C xa xb c g.kind g.n g.s w (by omega) hr.1 r0 r1 r2
          · rw [show ∀ a b, xapp 2 col c row a b = gnull from fun a b => by
              unfold xapp
              rw [if_neg (by decide), if_pos rfl, if_neg hc]]
            exact apply_2n va a2 row.length c2 xa xb col c w hc
end Go.Proofs.YtfmbbfidjcgeiaaGreatDoor

namespace Go.Proofs.YtfmbbfidjcgeiaaGreatDoor
open Go.RowKit Go.Lib Go.Shelf
theorem cell_of {w : World} {g k : Nat} {c : Array Value} {t : TypeId} {fz : Nat × Nat} {v : Value} (h : w.heap[g]? = some (.cells c t fz)) (hk : c[k]? = some v) : w.cell? ⟨g, k, none⟩ = some v := by
  simp [World.cell?, h, hk]
theorem arity_lits (op : Int) : arity op = -1 ∨ arity op = 0 ∨ arity op = 1 ∨ arity op = 2 := by have := arity_cases op; omega
set_option maxHeartbeats 1000000 in
set_option maxRecDepth 100000 in
theorem operands_any (x : GExp) (w : World) :
    Calls Tryz.prog 67 #[aggX x] w fun e w' => ∃ v, e = .returned v ∧ Sl intE w' free v ([x.a, x.b].take (arity x.op).toNat) ∧ Below w.heap.size w w' := by
  obtain ⟨op, xa, xb, col, ck, cn, cs⟩ := x
  unfold aggX
  dsimp only
  have HA : ∀ W, Hid (Calls Tryz.prog 95 #[.int .i64 op] W fun e w' => e = .returned (.int .i64 (arity op)) ∧ W = w') := fun W => arity_any op W
  have hl := arity_lits op
  generalize arity op = a at HA hl ⊢
  have hB0 : Below w.heap.size w (w.alloc (.cells #[.int .i64 op, .int .i64 xa, .int .i64 xb, .int .i64 col, .int .i64 ck, .int .i64 cn, .string cs] 67)) := below_alloc _ _
  have hX := World.alloc_heap_new w (.cells #[.int .i64 op, .int .i64 xa, .int .i64 xb, .int .i64 col, .int .i64 ck, .int .i64 cn, .string cs] 67)
  have e0 : (w.alloc (.cells #[.int .i64 op, .int .i64 xa, .int .i64 xb, .int .i64 col, .int .i64 ck, .int .i64 cn, .string cs] 67)).cell? ⟨w.heap.size, 0, none⟩ = some (.int .i64 op) := cell_of hX rfl
  have e1 : (w.alloc (.cells #[.int .i64 op, .int .i64 xa, .int .i64 xb, .int .i64 col, .int .i64 ck, .int .i64 cn, .string cs] 67)).cell? ⟨w.heap.size, 1, none⟩ = some (.int .i64 xa) := cell_of hX rfl
  have e2 : (w.alloc (.cells #[.int .i64 op, .int .i64 xa, .int .i64 xb, .int .i64 col, .int .i64 ck, .int .i64 cn, .string cs] 67)).cell? ⟨w.heap.size, 2, none⟩ = some (.int .i64 xb) := cell_of hX rfl
  clear hX
  have hm0 : max (-1 : Int) 0 = 0 := by decide
  have hm1 : max (0 : Int) 0 = 0 := by decide
  have hm2 : max (1 : Int) 0 = 1 := by decide
  have hm3 : max (2 : Int) 0 = 2 := by decide
  rcases hl with rfl | rfl | rfl | rfl
  all_goals
    go_enter Tryz.func67, Tryz.ntmps67
    go_wp2_with fail
    go_region_held3 (fun W => Below w.heap.size w W ∧ W.cell? ⟨w.heap.size, 0, none⟩ = some (.int .i64 op) ∧ W.cell? ⟨w.heap.size, 1, none⟩ = some (.int .i64 xa) ∧ W.cell? ⟨w.heap.size, 2, none⟩ = some (.int .i64 xb))
      ((go_split_ands; refine ⟨?_, ?_, ?_, ?_⟩ <;> first | (with_reducible assumption) | with_reducible exact Below.drew (by assumption) | with_reducible exact cell_drew (by assumption) | with_reducible exact below_alloc_keep (by assumption) | with_reducible exact Below.drew (below_alloc_keep (by assumption)) | with_reducible exact cell_keep (below_alloc _ _) (by assumption)))
      (first
        | (go_at_call 95; refine (HA _).out.mono ?_; rintro e wA ⟨rfl, rfl⟩))
  all_goals
    go_wp2_with fail
    go_ret
    have hS : Sl intE ((w.alloc (.cells #[.int .i64 op, .int .i64 xa, .int .i64 xb, .int .i64 col, .int .i64 ck, .int .i64 cn, .string cs] 67)).alloc (.cells #[.int .i64 xa, .int .i64 xb] 3)).drew free (.slice (some ⟨w.heap.size + 1, 0, none⟩) 2 2) [xa, xb] :=
      Sl.of_block (heap2_1d w _ _) (Els.cons (cs := [.int .i64 xa]) rfl (Els.one (cs := [.int .i64 xb]) rfl)) (fun h => h.elim) rfl (by simp) (by simp)
    refine ⟨_, rfl, ?_, (below_alloc_keep hB0).drew⟩
    exact hS.takeS (by decide)
end Go.Proofs.YtfmbbfidjcgeiaaGreatDoor

namespace Go.Proofs.YtfmbbfidjcgeiaaGreatDoor
open Go.RowKit Go.Lib Go.Shelf

/-- The operands that an expression reads. -/
def opsG (x : GExp) : List Int := [x.a, x.b].take (arity x.op).toNat
theorem opsG_length (x : GExp) : (opsG x).length = (arity x.op).toNat := by
  have := arity_lits x.op
  unfold opsG
  rw [List.length_take]
  simp
  omega
theorem xev_ill (x : GExp) (k : Nat) (row d : List GVal) (o : Int) (ho : o ∈ opsG x) (h : legalB k o = false) : xev x k row d = gnull := by
  rw [xev, if_pos]
  right
  unfold opsG at ho
  unfold legalX
  rcases arity_lits x.op with e | e | e | e <;> rw [e] at ho ⊢ <;> simp at ho
  · subst ho; unfold legalB at h; rw [h]; rfl
  · rcases ho with rfl | rfl <;> unfold legalB at h <;> rw [h] <;> simp
theorem xev_leg (x : GExp) (k : Nat) (row d : List GVal) (h : ∀ o ∈ opsG x, legalB k o = true) : xev x k row d = applyG x ((opsG x).map fun o => d.getD o.toNat gnull) row := by
  unfold xev applyG
  by_cases ha : arity x.op < 0
  · rw [if_pos (.inl ha), if_pos ha]
  · have hl : legalX x k = true := by
      unfold opsG at h
      unfold legalX
      rcases arity_lits x.op with e | e | e | e <;> rw [e] at h ha ⊢ <;> simp at h ha ⊢
      · unfold legalB at h; simp at h; exact h
      · obtain ⟨h1, h2⟩ := h; unfold legalB at h1 h2; simp at h1 h2; exact ⟨h1, h2⟩
    rw [if_neg (by rw [hl]; simp [ha]), if_neg ha]
    unfold opsG
    rcases arity_lits x.op with e | e | e | e
    · omega
    · rw [e]; exact xapp_none (by omega) (by omega) _ _ _ _ _ _ _
    · rw [e]; exact xapp_one (by omega) (by omega) _ _ _ _ _ _
    · rw [e]; rfl
theorem vals_rep (l : List GExp) (row : List GVal) (R k : Nat) (hk : k < R + 1) (h : xev (l.getD k gx0) k row (vals l row k) = gnull) : vals l row k ++ List.replicate (R + 1 - k) gnull = vals l row (k + 1) ++ List.replicate (R + 1 - (k + 1)) gnull := by
  show _ = (vals l row k ++ [xev (l.getD k gx0) k row (vals l row k)]) ++ _
  rw [h, show R + 1 - k = R + 1 - (k + 1) + 1 by omega, List.replicate_succ, List.append_assoc]
  rfl
set_option maxHeartbeats 2000000 in
theorem eval_none (v vr : Value) (l : List GExp) (root : Int) (w : World) (hv : Sl expE w free v l) (hroot : root < 0 ∨ (l.length : Int) ≤ root) :
    Calls Tryz.prog 37 #[v, .int .i64 root, vr] w fun e w' => e = .returned (aggG gnull) ∧ Below w.heap.size w w' := by
  obtain ⟨a1, c1, rfl⟩ := hv.shape
  obtain ⟨n, hn⟩ : ∃ n, n = l.length := ⟨_, rfl⟩
  rw [← hn] at hroot ⊢
  clear hv hn
  go_enter Tryz.func37, Tryz.ntmps37
  by_cases h0 : root < 0
  · go_wp2_with fail
    apply wp_scope_straight
    go_wp2_with fail
    rw [Exit.noGoto_ret]
    exact bodyPost_ret (v := aggG gnull) (by simp [aggG, gnull, results, Tryz.results37, go_sem]) rfl ⟨rfl, (Below.refl _ _).alloc (Nat.le_refl _) _⟩
  · have h1 : (n : Int) ≤ root := by omega
    go_wp2_with fail
    apply wp_scope_straight
    go_wp2_with fail
    rw [Exit.noGoto_ret]
    exact bodyPost_ret (v := aggG gnull) (by simp [aggG, gnull, results, Tryz.results37, go_sem]) rfl ⟨rfl, (Below.refl _ _).alloc (Nat.le_refl _) _⟩
set_option maxRecDepth 100000 in
set_option maxHeartbeats 4000000 in
theorem eval_some (v vr : Value) (l : List GExp) (R : Nat) (row : List GVal) (w : World) (hv : Sl expE w free v l) (hr : Sl valE w free vr row) (hR : R < l.length) (hsz : 32 * (R + 1) ≤ 281474976710656) (hc : ∀ x ∈ l, In64 x.c.n) (hrow : ∀ g ∈ row, In64 g.n) :
    Calls Tryz.prog 37 #[v, .int .i64 (R : Int), vr] w fun e w' => e = .returned (aggG ((vals l row (R + 1)).getD R gnull)) ∧ Below w.heap.size w w' := by
  obtain ⟨a1, c1, rfl⟩ := hv.shape
  obtain ⟨a2, c2, rfl⟩ := hr.shape
  have h63 := hv.1
  have hcap : l.length ≤ c1 := by obtain ⟨_, a', c', e, h3, _⟩ := hv; cases e; exact h3
  have HV := Lib.hid hv
  have HRW := Lib.hid hr
  have HC := Lib.hid hc
  have HRO := Lib.hid hrow
  obtain ⟨n, hn⟩ : ∃ n, n = l.length := ⟨_, rfl⟩
  obtain ⟨m, hm⟩ : ∃ m, m = row.length := ⟨_, rfl⟩
  have HN := Lib.hid hn
  have HM := Lib.hid hm
  rw [← hn] at hR h63 HV hcap ⊢
  rw [← hm] at HRW ⊢
  have hR1 : (R : Int) + 1 ≤ c1 := by omega
  clear hv hr hc hrow hn hm
  obtain ⟨i0, hi, hj0, hj1, hj2⟩ := val_parts
  go_enter Tryz.func37, Tryz.ntmps37
  go_wp2_with fail
  apply wp_scope_straight
  go_wp2_with (at_make; refine wpList_make_full _ rfl _ _ 35 rfl (w.heap.size + 1) 40 i0 _ 3 Tryz.underlying35 hi hj0 hj1 _ _ _ _ (R + 1) rfl rfl (by go_num) (by go_num) (by rw [hj2]; omega) (by unfold maxLen; omega) (by simp) ?_; intro w1 hown1 hg1)
  apply wp_label
  have hO1 : Own valE w1 (w.heap.size + 1) (.slice (some ⟨w.heap.size + 1, 0, none⟩) (R + 1) (R + 1)) (List.replicate (R + 1) gnull) := own_made (by have h := hown1; rw [show (w.alloc (.cells #[.int .i64 0, .int .i64 0, .string ⟨#[]⟩] 40)).heap.size = w.heap.size + 1 by simp] at h; exact h)
  have hB1 : Below w.heap.size w w1 := ((Below.refl _ _).alloc (Nat.le_refl _) _).grown hg1 (by simp) (fun k hk => by cases hk)
  have hx1 : w1.heap[w.heap.size]? = some (.cells #[.int .i64 0, .int .i64 0, .string ⟨#[]⟩] 40 (0, 0)) := (hg1.block w.heap.size (by simp) (by simp)).trans (World.alloc_heap_new w _)
  clear hown1 hg1
  go_wp2_with fail
  go_loopw [30] (fun i wr => ∃ k : Nat, k ≤ R + 1 ∧ i = .int .i64 k ∧ Own valE wr (w.heap.size + 1) (.slice (some ⟨w.heap.size + 1, 0, none⟩) (R + 1) (R + 1)) (vals l row k ++ List.replicate (R + 1 - k) gnull) ∧ wr.heap[w.heap.size]? = some (.cells #[.int .i64 0, .int .i64 0, .string ⟨#[]⟩] 40 (0, 0)) ∧ Below w.heap.size w wr) (fun i _ => R + 1 - (intOf i).toNat)
  case atStart => exact ⟨0, Nat.zero_le _, rfl, hO1, hx1, hB1⟩
  case round =>
    obtain ⟨k, hk, rfl, hO, hx, hB⟩ := hrel
    obtain ⟨wo, rfl⟩ : ∃ wo : World, wo = wr := ⟨_, rfl⟩
    clear hO1 hx1 hB1
    by_cases hlt : k < R + 1
    · obtain ⟨x, hgx⟩ := lget_some l k (by rw [← HN.out]; omega)
      obtain ⟨b, o, rfl, p0, p1, p2, p3, p4, p5, p6⟩ := exp_at (HV.out.below hB) hgx
      have hbo : b < w.heap.size := by
        obtain ⟨b', o', e, q0, _⟩ := exp_at HV.out hgx
        cases e
        exact World.block_lt_of_cell? w _ q0
      have HX : Hid (xev (l.getD k gx0) k row (vals l row k) = xev x k row (vals l row k)) := by show _ = _; rw [getD_some hgx]
      have HO := Lib.hid hO
      have HXB := Lib.hid hx
      have HB := Lib.hid hB
      have hzo := hB.size
      obtain ⟨op, xa, xb, col, ck, cn, cs⟩ := x
      dsimp only at p0 p1 p2 p3 p4 p5 p6
      clear hgx hO hx hB
      go_wp2_with fail
      refine (operands_any ⟨op, xa, xb, col, ⟨ck, cn, cs⟩⟩ _).mono ?_
      rintro e w2 ⟨vo, rfl, hOp, hb2⟩
      replace hOp : Sl intE w2 free vo (opsG ⟨op, xa, xb, col, ⟨ck, cn, cs⟩⟩) := hOp
      have hql := opsG_length ⟨op, xa, xb, col, ⟨ck, cn, cs⟩⟩
      have hal := arity_lits op
      dsimp only at hql
      obtain ⟨ol, hol⟩ : ∃ ol, ol = opsG ⟨op, xa, xb, col, ⟨ck, cn, cs⟩⟩ := ⟨_, rfl⟩
      obtain ⟨q, hq⟩ : ∃ q, q = ol.length := ⟨_, rfl⟩
      rw [← hol] at hOp hql
      obtain ⟨a3, c3, rfl⟩ := hOp.shape
      rw [← hq] at hOp hql ⊢
      have hq2 : q ≤ 2 := by omega
      have HQA : Hid (q = (arity op).toNat) := hql
      have HOL := Lib.hid hol
      have HQ := Lib.hid hq
      have HOP := Lib.hid hOp
      have hbx := box_kept (World.alloc_heap_new wo (.cells #[.int .i64 op, .int .i64 xa, .int .i64 xb, .int .i64 col, .int .i64 ck, .int .i64 cn, .string cs] 67)) hb2
      have hbw : Below wo.heap.size wo w2 := below_alloc2' hb2
      have HBX := Lib.hid hbx
      have HBW := Lib.hid hbw
      have hz2 : wo.heap.size + 1 ≤ w2.heap.size := by simpa using hb2.size
      clear hOp hql hal hol hq hbx hbw hb2 p0 p1 p2 p3 p4 p5 p6
      go_wp2_with fail
      go_loopw [38, 10] (fun i ar w4 => ∃ (j : Nat) (la : List GVal), j ≤ q ∧ i = .int .i64 j ∧ Own valE w4 w2.heap.size ar la ∧ Hid (la = (ol.take j).map fun o => (vals l row k).getD o.toNat gnull) ∧ Hid (∀ o ∈ ol.take j, legalB k o = true) ∧ Below w2.heap.size w2 w4) (fun i _ _ => q - (intOf i).toNat)
      case atStart => exact ⟨0, [], Nat.zero_le _, rfl, Own.nil _ _ _, by show _ = _; simp, by show ∀ _ ∈ _, _; simp, Below.refl _ _⟩
      case round =>
        obtain ⟨j, la, hj, rfl, hO4, HLA, HLG, hB4⟩ := hrel
        obtain ⟨w4, rfl⟩ : ∃ w4 : World, w4 = wr := ⟨_, rfl⟩
        obtain ⟨ob, oc, rfl⟩ := hO4.shape
        have hll : la.length = j := by rw [HLA.out, List.length_map, List.length_take, ← HQ.out]; omega
        have hBw : Below w.heap.size w w4 := below_keep (below_keep HB.out HBW.out) hB4
        have hOv := (HO.out.below HBW.out).below hB4
        have hxr := box_kept (box_kept HXB.out HBW.out) hB4
        have hz4 := hB4.size
        have HOV := Lib.hid hOv
        have HXR := Lib.hid hxr
        have HBW4 := Lib.hid hBw
        have HO4 := Lib.hid hO4
        have HB4 := Lib.hid hB4
        have HLL := Lib.hid hll
        have hl2 : la.length ≤ 2 := by omega
        clear hll
        have hvl : (vals l row k ++ List.replicate (R + 1 - k) gnull).length = R + 1 := by simp [vals_length]; omega
        by_cases hlt4 : j < q
        · obtain ⟨y, hy⟩ := lget_some ol j (by rw [← HQ.out]; exact hlt4)
          obtain ⟨bA, oA, rfl, hat⟩ := ints_at' HOP.out hy
          replace hat := cell_keep hB4 hat
          have HY := Lib.hid hy
          have HCL : ∀ W, Hid (Calls Tryz.prog 68 #[.int .i64 (k : Int), .int .i64 y] W fun e w' => e = .returned (.bool (legalB k y)) ∧ W = w') := fun W => legal_any _ _ W
          have hmem : y ∈ ol := List.mem_of_getElem? hy
          clear hO4 hB4 hBw hOv hxr hy
          cases hlg : legalB k y
          · rw [hlg] at HCL
            have HT : Hid (vals l row k ++ List.replicate (R + 1 - k) gnull = vals l row (k + 1) ++ List.replicate (R + 1 - (k + 1)) gnull) :=
              vals_rep l row R k hlt (HX.out.trans (xev_ill _ k row _ y (by rw [← HOL.out]; exact hmem) hlg))
            clear hlg hmem hvl
            go_wp2_with fail
            refine (HCL _).out.mono ?_
            rintro e w5 ⟨rfl, rfl⟩
            go_wp2_with fail
            go_roundw
            case rel => exact ⟨k + 1, by omega, by go_num, by rw [← HT.out]; exact HOV.out, HXR.out, HBW4.out⟩
            case measure => simp [intOf]; omega
          · rw [hlg] at HCL
            obtain ⟨Y, rfl⟩ := Int.eq_ofNat_of_zero_le (show 0 ≤ y by unfold legalB at hlg; simp at hlg; exact hlg.1)
            have hYk : Y < k := by unfold legalB at hlg; simp at hlg; exact hlg
            obtain ⟨z, hz⟩ := lget_some (vals l row k ++ List.replicate (R + 1 - k) gnull) Y (by omega)
            obtain ⟨q0, q1, q2⟩ := own_at3 HOV.out hz
            have HZ : Hid ((vals l row k).getD Y gnull = z) := by
              show _ = _
              rw [← getD_left (vals l row k) (List.replicate (R + 1 - k) gnull) gnull (by rw [vals_length]; exact hYk), getD_some hz]
            have HLG' : Hid (∀ o ∈ ol.take (j + 1), legalB k o = true) := by
              show ∀ o ∈ _, _
              rw [take_get HY.out]
              intro o ho
              rcases List.mem_append.1 ho with h | h
              · exact HLG.out o h
              · rw [List.mem_singleton.1 h]; exact hlg
            have HLA' : Hid (la ++ [z] = (ol.take (j + 1)).map fun o => (vals l row k).getD o.toNat gnull) := by
              show _ = _
              rw [take_get HY.out, List.map_append, ← HLA.out]
              simp only [List.map_cons, List.map_nil, Int.toNat_natCast, HZ.out]
            have hYR : Y < R + 1 := by omega
            have hvz := (HOV.out.lt _ rfl).2
            clear hlg hz hmem hvl
            go_wp2_with fail
            refine (HCL _).out.mono ?_
            rintro e w5 ⟨rfl, rfl⟩
            go_wp2_with (at_builtin; refine wpList_push rfl _ _ 35 rfl valE Tryz.underlying35 w2.heap.size (.slice ob la.length oc) la rfl HO4.out [z] #[.int .i64 z.kind, .int .i64 z.n, .string z.s] (Els.one (cs := [.int .i64 z.kind, .int .i64 z.n, .string z.s]) rfl) 1 1 rfl rfl (by decide) (by unfold maxLen; omega) (by show _ * 32 ≤ _; omega) hz4 ?_; intro g cap w5 hP hPa)
            go_roundw
            case rel => exact ⟨j + 1, la ++ [z], by omega, by go_num, hP.own' (by simp), HLA', HLG', HB4.out.trans hP.below⟩
            case measure => simp [intOf]; omega
        · have hjq : j = q := by omega
          subst hjq
          have hall : ol.take j = ol := List.take_of_length_le (by rw [← HQ.out]; omega)
          have HAP : Hid (applyG ⟨op, xa, xb, col, ⟨ck, cn, cs⟩⟩ la row = xev (l.getD k gx0) k row (vals l row k)) := by
            show _ = _
            rw [HX.out, xev_leg _ k row _ (by rw [← HOL.out, ← hall]; exact HLG.out), HLA.out, hall, HOL.out]
          have hap := apply_any ⟨op, xa, xb, col, ⟨ck, cn, cs⟩⟩ (.slice ob la.length oc) (.slice a2 m c2) la row w4 hO4.sl (HRW.out.below HBW4.out) (.inr (HLL.out.trans HQA.out)) (by
            rw [HLA.out, hall]
            intro g hg
            obtain ⟨o', ho', rfl⟩ := List.mem_map.1 hg
            by_cases hlo : o'.toNat < (vals l row k).length
            · obtain ⟨z, hz⟩ := lget_some (vals l row k) o'.toNat hlo
              rw [getD_some hz]
              exact in64_vals l row HC.out HRO.out k z (List.mem_of_getElem? hz)
            · rw [show (vals l row k).getD o'.toNat gnull = gnull by rw [List.getD_eq_getElem?_getD, List.getElem?_eq_none (by omega)]; rfl]
              exact in64_gnull)
          rw [HAP.out] at hap
          obtain ⟨y, hy⟩ : ∃ y, y = xev (l.getD k gx0) k row (vals l row k) := ⟨_, rfl⟩
          rw [← hy] at hap
          have HY := Lib.hid hy
          have HAPP := Lib.hid hap
          have hbx4 := box_kept HBX.out hB4
          have x0 : w4.cell? ⟨wo.heap.size, 0, none⟩ = some (.int .i64 op) := cell_of hbx4 rfl
          have x1 : w4.cell? ⟨wo.heap.size, 1, none⟩ = some (.int .i64 xa) := cell_of hbx4 rfl
          have x2 : w4.cell? ⟨wo.heap.size, 2, none⟩ = some (.int .i64 xb) := cell_of hbx4 rfl
          have x3 : w4.cell? ⟨wo.heap.size, 3, none⟩ = some (.int .i64 col) := cell_of hbx4 rfl
          have x4 : w4.cell? ⟨wo.heap.size, 4, none⟩ = some (.int .i64 ck) := cell_of hbx4 rfl
          have x5 : w4.cell? ⟨wo.heap.size, 5, none⟩ = some (.int .i64 cn) := cell_of hbx4 rfl
          have x6 : w4.cell? ⟨wo.heap.size, 6, none⟩ = some (.string cs) := cell_of hbx4 rfl
          clear hap hall hy hO4 hB4 hBw hOv hxr hbx4
          go_wp2_with fail
          refine HAPP.out.mono ?_
          rintro e w5 ⟨rfl, hb5⟩
          have hO5 := HOV.out.below hb5
          have hx5 := box_kept HXR.out hb5
          have hB5 : Below w.heap.size w w5 := HBW4.out.trans (hb5.mono HBW4.out.size)
          have HV5 : Hid ((vals l row k ++ List.replicate (R + 1 - k) gnull).set k y = vals l row (k + 1) ++ List.replicate (R + 1 - (k + 1)) gnull) := by
            show _ = _
            have h := fill_set (vals l row k) gnull y (R + 1 - (k + 1))
            rw [vals_length, show R + 1 - (k + 1) + 1 = R + 1 - k by omega] at h
            rw [h, HY.out]; rfl
          have hS := own_set3 hO5 hvl hlt y
          rw [HV5.out] at hS
          obtain ⟨z, hz⟩ := lget_some (vals l row k ++ List.replicate (R + 1 - k) gnull) k (by omega)
          obtain ⟨q0, q1, q2⟩ := own_at3 hO5 hz
          have f0 := own_frozen hO5 hvl (k * 3)
          have f1 := own_frozen hO5 hvl (k * 3 + 1)
          have f2 := own_frozen hO5 hvl (k * 3 + 2)
          have HS := Lib.hid hS
          have HX5 := Lib.hid hx5
          have HB5 := Lib.hid hB5
          have hsz5 := hb5.size
          have hsz3 := (hO5.lt _ rfl).2
          clear hO5 hx5 hB5 hS hz hvl hb5 HAPP x0 x1 x2 x3 x4 x5 x6
          unfold aggG
          go_wp2_with fail
          go_roundw
          case rel =>
            refine ⟨k + 1, by omega, by go_num, HS.out, ?_, ((HB5.out.setCell (Nat.le_succ _) _).setCell (Nat.le_succ _) _).setCell (Nat.le_succ _) _⟩
            rw [heap_setCell_other _ _ _ _ (Nat.ne_of_lt (Nat.lt_succ_self _)), heap_setCell_other _ _ _ _ (Nat.ne_of_lt (Nat.lt_succ_self _)), heap_setCell_other _ _ _ _ (Nat.ne_of_lt (Nat.lt_succ_self _))]
            exact HX5.out
          case measure => simp [intOf]; omega
    · have hkR : k = R + 1 := by omega
      subst hkR
      obtain ⟨z, hz⟩ := lget_some (vals l row (R + 1) ++ List.replicate (R + 1 - (R + 1)) gnull) R (by simp [vals_length])
      obtain ⟨p0, p1, p2⟩ := own_at3 hO hz
      have HG : Hid ((vals l row (R + 1)).getD R gnull = z) := by
        show _ = _
        rw [← getD_left (vals l row (R + 1)) (List.replicate (R + 1 - (R + 1)) gnull) gnull (by rw [vals_length]; omega), getD_some hz]
      obtain ⟨⟨x0, x1, x2⟩, f0, f1, f2⟩ := box_three hx
      have hsz3 := hB.size
      have HB := Lib.hid hB
      have hsz4 := (hO.lt _ rfl).2
      clear hO hx hB hz
      go_wp2_with fail
      have hwz : w.heap.size < wo.heap.size := by omega
      exact bodyPost_ret (v := aggG z) (by simp [aggG, results, Tryz.results37, go_sem, x0, x1, x2]) rfl ⟨by rw [HG.out], ((HB.out.setCell (Nat.le_refl _) _).setCell (Nat.le_refl _) _).setCell (Nat.le_refl _) _⟩
/-- The program's Eval is the definition's. -/
theorem eval_any (v vr : Value) (l : List GExp) (root : Int) (row : List GVal) (w : World) (hv : Sl expE w free v l) (hr : Sl valE w free vr row) (hsz : 32 * l.length ≤ 281474976710656) (hc : ∀ x ∈ l, In64 x.c.n) (hrow : ∀ g ∈ row, In64 g.n) :
    Calls Tryz.prog 37 #[v, .int .i64 root, vr] w fun e w' => e = .returned (aggG (evalG l root row)) ∧ Below w.heap.size w w' := by
  unfold evalG
  by_cases h : root < 0 ∨ (l.length : Int) ≤ root
  · rw [if_pos h]; exact eval_none v vr l root w hv h
  · rw [if_neg h]
    obtain ⟨R, rfl⟩ := Int.eq_ofNat_of_zero_le (show 0 ≤ root by omega)
    exact eval_some v vr l R row w hv hr (by omega) (by omega) hc hrow
end Go.Proofs.YtfmbbfidjcgeiaaGreatDoor

namespace Go.Proofs.YtfmbbfidjcgeiaaGreatDoor
open Go.RowKit Go.Lib

theorem vals_info : (Tryz.prog.info? 35).map (fun i => (i.zero, i.size, i.bytes)) = some (some (.slice none 0 0), 1, 24) := by kernel_rfl
/-- Lists of values. -/
def valsE : El Tryz.prog (List GVal) where
  ty := 35
  size := 1
  bytes := 24
  pos := by decide
  info := info_mk vals_info rfl
  is := fun w G x cs => ∃ v, cs = [v] ∧ Sl valE w G v x
  len := by rintro w G t cs ⟨v, rfl, _⟩; rfl
  one := by
    rintro w G t cs ⟨v, rfl, h1⟩ x hx
    simp at hx
    subst hx
    exact h1.one
  mono := by rintro w G G' t cs ⟨v, rfl, h1⟩ hm; exact ⟨v, rfl, h1.mono hm⟩
  kept := by rintro w w' G t cs ⟨v, rfl, h1⟩ hk; exact ⟨v, rfl, h1.kept hk⟩
theorem vals_at {w : World} {a : Option Addr} {n c k : Nat} {l : List (List GVal)} {x : List GVal} (h : Sl valsE w free (.slice a n c) l) (hk : l[k]? = some x) :
    ∃ b o a1 n1, a = some ⟨b, o, none⟩ ∧ Sl valE w free (.slice a1 x.length n1) x ∧ w.cell? ⟨b, o + k, none⟩ = some (.slice a1 x.length n1) := by
  obtain ⟨b, o, cs, ha, ⟨v, rfl, hv⟩, hc⟩ := Sl.at h hk
  obtain ⟨a1, n1, rfl⟩ := hv.shape
  have h0 := hc 0 _ rfl
  rw [show valsE.size = 1 from rfl, Nat.mul_one, Nat.add_zero] at h0
  exact ⟨b, o, a1, n1, ha, hv, h0⟩
theorem in64_eval {l : List GExp} {root : Int} {row : List GVal} (hc : ∀ x ∈ l, In64 x.c.n) (hr : ∀ g ∈ row, In64 g.n) : In64 (evalG l root row).n := by
  unfold evalG
  split
  · exact in64_gnull
  · rw [List.getD_eq_getElem?_getD]
    cases e : (vals l row (root.toNat + 1))[root.toNat]? with
    | none => exact in64_gnull
    | some x => exact in64_vals l row hc hr _ x (List.mem_of_getElem? e)
theorem nonNull_snoc (l : List GVal) (x : GVal) : nonNull (l ++ [x]) = nonNull l ++ if x.kind = 0 then [] else [x] := by
  unfold nonNull
  rw [List.filter_append]
  by_cases e : x.kind = 0 <;> simp [e]
theorem intsL_nonNull (l : List GVal) : intsL (nonNull l) = intsL l := by
  unfold intsL nonNull
  rw [List.filter_filter]
  congr 1
  refine List.filter_congr fun x _ => ?_
  by_cases e : x.kind = 1
  · simp [e]
  · simp [e]
theorem sumG_nonNull (l : List GVal) : sumG (nonNull l) = sumG l := by unfold sumG; rw [intsL_nonNull]
theorem nonNull_len (l : List GVal) : (nonNull l).length ≤ l.length := List.length_filter_le _ _
/-- Lists of values in memory, their values in 64 bits. -/
def Rows64 (g : List (List GVal)) : Prop := ∀ r ∈ g, ∀ x ∈ r, In64 x.n
def argsL (e : List GExp) (arg : Int) (g : List (List GVal)) : List GVal := g.map fun r => evalG e arg r
theorem argsL_snoc {e : List GExp} {arg : Int} {g : List (List GVal)} {k : Nat} {r : List GVal} (h : g[k]? = some r) : nonNull (argsL e arg (g.take (k + 1))) = nonNull (argsL e arg (g.take k)) ++ if (evalG e arg r).kind = 0 then [] else [evalG e arg r] := by
  unfold argsL
  rw [take_get h, List.map_append, List.map_singleton, nonNull_snoc]
theorem argsL_len (e : List GExp) (arg : Int) (g : List (List GVal)) (k : Nat) : (nonNull (argsL e arg (g.take k))).length ≤ g.length := by
  refine Nat.le_trans (nonNull_len _) ?_
  unfold argsL
  rw [List.length_map, List.length_take]
  omega
theorem args64 {e : List GExp} {arg : Int} {g : List (List GVal)} (hc : ∀ x ∈ e, In64 x.c.n) (hg : Rows64 g) : ∀ x ∈ nonNull (argsL e arg g), In64 x.n := fun x hx => by
  have h1 := (List.mem_filter.1 hx).1
  unfold argsL at h1
  obtain ⟨r, hr, rfl⟩ := List.mem_map.1 h1
  exact in64_eval hc (hg r hr)
set_option maxHeartbeats 8000000 in
set_option maxRecDepth 100000 in
theorem aggr_any (ve vg : Value) (e : List GExp) (kind arg : Int) (g : List (List GVal)) (w : World) (hve : Sl expE w free ve e) (hvg : Sl valsE w free vg g) (he : e.length ≤ 1000) (hg : g.length ≤ 100000) (hc : ∀ x ∈ e, In64 x.c.n) (hg64 : Rows64 g) :
    Calls Tryz.prog 28 #[ve, .agg #[.int .i64 kind, .int .i64 arg], vg] w fun en w' => en = .returned (aggG (aggP kind (argsL e arg g))) ∧ Below w.heap.size w w' := by
  obtain ⟨a, c, rfl⟩ := hvg.shape
  have h63 := hvg.1
  have HEV := fun (W : World) (hb : Below w.heap.size w W) (vr : Value) (row : List GVal) (hr : Sl valE W free vr row) (h64 : ∀ x ∈ row, In64 x.n) => Lib.hid (eval_any ve vr e arg row W (hve.below hb) hr (by omega) hc h64)
  obtain ⟨n, hn⟩ : ∃ n, n = g.length := ⟨_, rfl⟩
  have HV := Lib.hid hvg
  have HN := Lib.hid hn
  have H64 := Lib.hid hg64
  have HA64 := Lib.hid (args64 (arg := arg) hc hg64)
  have HAP : Hid (∀ vals, vals = argsL e arg g → aggP kind (argsL e arg g) = if kind = 1 then gint (n : Int) else if kind = 2 then sumG (nonNull vals) else if kind = 3 then extG (-1) (nonNull vals) else if kind = 4 then extG 1 (nonNull vals) else gnull) := Lib.hid (by
    rintro vals rfl
    unfold aggP
    rw [sumG_nonNull, hn]
    unfold argsL
    rw [List.length_map])
  obtain ⟨res, hres⟩ : ∃ res, res = aggP kind (argsL e arg g) := ⟨_, rfl⟩
  rw [← hres] at HAP ⊢
  rw [← hn] at HV h63 hg ⊢
  have hB0 : Below w.heap.size w ((w.alloc (.cells #[.int .i64 kind, .int .i64 arg] 32)).alloc (.cells #[.int .i64 0, .int .i64 0, .string ⟨#[]⟩] 40)) := below_alloc_two _ _ _
  have hr0 : BoxV ((w.alloc (.cells #[.int .i64 kind, .int .i64 arg] 32)).alloc (.cells #[.int .i64 0, .int .i64 0, .string ⟨#[]⟩] 40)) (w.heap.size + 1) gnull := heap_alloc_new' _ _ _
  have hm0 : ((w.alloc (.cells #[.int .i64 kind, .int .i64 arg] 32)).alloc (.cells #[.int .i64 0, .int .i64 0, .string ⟨#[]⟩] 40)).heap[w.heap.size]? = some (.cells #[.int .i64 kind, .int .i64 arg] 32) := heap_alloc_old' _ _ _
  obtain ⟨w1, hw1⟩ : ∃ w1, w1 = ((w.alloc (.cells #[.int .i64 kind, .int .i64 arg] 32)).alloc (.cells #[.int .i64 0, .int .i64 0, .string ⟨#[]⟩] 40)) := ⟨_, rfl⟩
  clear hve hvg hn hg64 hc hres
  by_cases k1 : kind = 1
  · subst k1
    have HR : Hid (res = gint (n : Int)) := Lib.hid (by rw [HAP.out _ rfl, if_pos rfl])
    clear HAP HEV hm0 hr0 hw1 hB0
    go_enter Tryz.func28, Tryz.ntmps28
    go_wp2_with fail
    refine bodyPost_ret (v := aggG (gint (n : Int))) (by simp [aggG, gint, results, Tryz.results28, go_sem]) rfl ⟨by rw [HR.out], ?_⟩
    exact below_alloc_two _ _ _
  · have hk1 : (kind == 1) = false := by simpa using k1
    have K1 := Lib.hid k1
    clear k1
    go_enter Tryz.func28, Tryz.ntmps28
    have hz1 : w1.heap.size = w.heap.size + 2 := by rw [hw1]; simp
    go_wp2_with fail
    rw [← hw1] at hB0 hr0 hm0 ⊢
    have HB0 := Lib.hid hB0
    have HR0 := Lib.hid hr0
    have HM0 := Lib.hid hm0
    have HZ1 := Lib.hid hz1
    clear hB0 hr0 hm0 hw1 hz1
    go_loopw [19, 7] (fun i o wr => ∃ k : Nat, k ≤ n ∧ i = .int .i64 (k : Int) ∧ Own valE wr w1.heap.size o (nonNull (argsL e arg (g.take k))) ∧ Hid (Below w1.heap.size w1 wr)) (fun i _ _ => n - (intOf i).toNat)
    case atStart => exact ⟨0, Nat.zero_le _, rfl, Own.nil _ _ _, Lib.hid (.refl _ _)⟩
    case round =>
      obtain ⟨k, hk, rfl, hO, HB⟩ := hrel
      obtain ⟨wo, rfl⟩ : ∃ wo : World, wo = wr := ⟨_, rfl⟩
      have HBW : Hid (Below w.heap.size w wo) := Lib.hid (HB0.out.trans (HB.out.mono HB0.out.size))
      obtain ⟨x0, x1, _, _⟩ := box_two (box_kept HM0.out HB.out)
      by_cases hlt : k < n
      · obtain ⟨row, hrow⟩ := lget_some g k (by rw [← HN.out]; exact hlt)
        obtain ⟨b, o, a1, n1, rfl, hrv, hrc⟩ := vals_at HV.out hrow
        replace hrc := cell_keep HBW.out hrc
        have HEV1 := HEV wo HBW.out _ row (hrv.below HBW.out) (H64.out row (List.mem_of_getElem? hrow))
        have HT := Lib.hid (argsL_snoc (e := e) (arg := arg) hrow)
        have HLN := Lib.hid (argsL_len e arg g k)
        obtain ⟨lk, hlk⟩ : ∃ lk, lk = nonNull (argsL e arg (g.take k)) := ⟨_, rfl⟩
        obtain ⟨x, hx⟩ : ∃ x, x = evalG e arg row := ⟨_, rfl⟩
        rw [← hx] at HEV1 HT
        rw [← hlk] at hO HT HLN
        obtain ⟨ao, co, rfl⟩ := hO.shape
        obtain ⟨m, hm⟩ : ∃ m, m = row.length := ⟨_, rfl⟩
        rw [← hm] at HEV1 hrc
        have HO := Lib.hid hO
        have hll : lk.length ≤ 100000 := by have := HLN.out; rw [← HN.out] at this; omega
        obtain ⟨xk, xn, xs⟩ := x
        unfold aggG at HEV1
        dsimp only at HEV1 HT
        clear hrow hrv hlk hx hm hO HR0 HLN
        go_wp2_with fail
        refine HEV1.out.mono ?_
        rintro _ w2 ⟨rfl, hb2⟩
        have HB2 := Lib.hid (below_keep HB.out hb2)
        have HO2 := Lib.hid (HO.out.below hb2)
        clear hb2 HEV1 HO x0 x1 hrc
        by_cases hk0 : xk = 0
        · subst hk0
          have HT' : Hid (nonNull (argsL e arg (g.take (k + 1))) = lk) := Lib.hid (by rw [HT.out, if_pos rfl, List.append_nil])
          go_wp2_with fail
          go_roundw
          case rel => exact ⟨k + 1, by omega, by go_num, by rw [HT'.out]; exact HO2.out.below (below_alloc _ _), Lib.hid (below_alloc_keep HB2.out)⟩
          case measure => simp [intOf]; omega
        · have HT' : Hid (nonNull (argsL e arg (g.take (k + 1))) = lk ++ [⟨xk, xn, xs⟩]) := Lib.hid (by rw [HT.out, if_neg hk0])
          have hkb : (xk != 0) = true := by simpa using hk0
          have HO3 := Lib.hid (HO2.out.below (below_alloc w2 (.cells #[.int .i64 xk, .int .i64 xn, .string xs] 40)))
          have HB3 := Lib.hid (below_alloc_keep (o := .cells #[.int .i64 xk, .int .i64 xn, .string xs] 40) HB2.out)
          clear hk0 HO2 HB2 HT
          go_wp2_with (at_builtin; refine wpList_push rfl (.tmp 31) (.tmp 33) 35 rfl valE Tryz.underlying35 w1.heap.size (.slice ao lk.length co) lk rfl HO3.out [⟨xk, xn, xs⟩] #[.int .i64 xk, .int .i64 xn, .string xs] (Els.one rfl) 1 1 rfl (congrArg (fun k => Value.slice (some ⟨k, 0, none⟩) 1 1) (World.size_alloc _ _).symm) (by decide) (by unfold maxLen; omega) (by show _ * 32 ≤ _; omega) HB3.out.size ?_; intro g cap w5 hP hPa)
          go_roundw
          case rel => exact ⟨k + 1, by omega, by go_num, by rw [HT'.out]; exact hP.own' (by simp), Lib.hid (HB3.out.trans hP.below)⟩
          case measure => simp [intOf]; omega
      · have hkk : g.take k = g := List.take_of_length_le (by rw [← HN.out]; omega)
        rw [hkk] at hO
        have hln := argsL_len e arg g k
        rw [hkk, ← HN.out] at hln
        have HAP2 := Lib.hid (HAP.out _ rfl)
        obtain ⟨vals, hvals⟩ : ∃ vals, vals = nonNull (argsL e arg g) := ⟨_, rfl⟩
        have ha64 := HA64.out
        rw [← hvals] at hO HAP2 hln ha64
        obtain ⟨ao, co, rfl⟩ := hO.shape
        have HSL := Lib.hid hO.sl
        have hbx := box_kept HR0.out HB.out
        obtain ⟨⟨r0, r1, r2⟩, f0, f1, f2⟩ := box_three hbx
        have HBX := Lib.hid hbx
        have hzz : w.heap.size + 1 < wo.heap.size := by have := HB.out.size; have := HZ1.out; omega
        have hle : w.heap.size ≤ w.heap.size + 1 := Nat.le_succ _
        have HBF := HBW
        by_cases k2 : kind = 2
        · subst k2
          have HR : Hid (res = sumG vals) := Lib.hid (by rw [HAP2.out, if_neg (by decide), if_pos rfl])
          have HSM := Lib.hid (asum_any _ vals wo HSL.out ha64 (by omega))
          generalize sumG vals = sv at HR HSM
          obtain ⟨sk, sn, ss⟩ := sv
          unfold aggG at HSM
          dsimp only at HSM
          clear HAP2 ha64 hvals hkk
          clear r0 r1 r2 f0 f1 f2 hO
          go_wp2_with fail
          refine HSM.out.mono ?_
          rintro _ w2 ⟨rfl, hb2⟩
          obtain ⟨⟨r0, r1, r2⟩, f0, f1, f2⟩ := box_three (box_kept HBX.out hb2)
          have HBF := Lib.hid (below_keep HBW.out hb2)
          have hzw : w.heap.size + 1 < w2.heap.size := Nat.lt_of_lt_of_le hzz hb2.size
          clear hb2
          go_wp2_with fail
          refine bodyPost_ret (v := aggG ⟨sk, sn, ss⟩) (by simp [aggG, gnull, results, Tryz.results28, go_sem, r0, r1, r2]) rfl ⟨by rw [HR.out], ?_⟩
          exact below_box3 (q := w.heap.size + 1) HBF.out hle
        · have hk2 : (kind == 2) = false := by simpa using k2
          have HAP3 : Hid (res = if kind = 3 then extG (-1) vals else if kind = 4 then extG 1 vals else gnull) := Lib.hid (by rw [HAP2.out, if_neg K1.out, if_neg k2])
          clear k2 HAP2 ha64
          cases hvv : vals with
          | nil =>
            subst hvv
            have HR : Hid (res = gnull) := Lib.hid (by rw [HAP3.out]; split; rfl; split <;> rfl)
            clear hvals hO HAP3
            go_wp2_with fail
            refine bodyPost_ret (v := aggG gnull) (by simp [aggG, gnull, results, Tryz.results28, go_sem, r0, r1, r2]) rfl ⟨by rw [HR.out], ?_⟩
            exact below_box3 (q := w.heap.size + 1) HBF.out hle
          | cons v0 vt =>
            subst hvv
            have hnz : ((v0 :: vt).length == 0) = false := by simp
            have hlz : ¬ (v0 :: vt).length = 0 := by simp
            obtain ⟨nv, hnv⟩ : ∃ nv, nv = (v0 :: vt).length := ⟨_, rfl⟩
            rw [← hnv] at HSL hnz hlz hO ⊢
            clear hvals
            by_cases k3 : kind = 3
            · subst k3
              have HR : Hid (res = bestG (-1) v0 vt) := Lib.hid (by rw [HAP3.out, if_pos rfl]; rfl)
              have HSM := Lib.hid (minF_any _ v0 vt wo HSL.out)
              generalize bestG (-1) v0 vt = sv at HR HSM
              obtain ⟨sk, sn, ss⟩ := sv
              unfold aggG at HSM
              dsimp only at HSM
              clear HAP3 hkk hnv
              clear r0 r1 r2 f0 f1 f2 hO
              go_wp2_with fail
              refine HSM.out.mono ?_
              rintro _ w2 ⟨rfl, hb2⟩
              obtain ⟨⟨r0, r1, r2⟩, f0, f1, f2⟩ := box_three (box_kept HBX.out hb2)
              have HBF := Lib.hid (below_keep HBW.out hb2)
              have hzw : w.heap.size + 1 < w2.heap.size := Nat.lt_of_lt_of_le hzz hb2.size
              clear hb2
              go_wp2_with fail
              refine bodyPost_ret (v := aggG ⟨sk, sn, ss⟩) (by simp [aggG, gnull, results, Tryz.results28, go_sem, r0, r1, r2]) rfl ⟨by rw [HR.out], ?_⟩
              exact below_box3 (q := w.heap.size + 1) HBF.out hle
            · by_cases k4 : kind = 4
              · subst k4
                have HR : Hid (res = bestG 1 v0 vt) := Lib.hid (by rw [HAP3.out, if_neg (by decide), if_pos rfl]; rfl)
                have HSM := Lib.hid (maxF_any _ v0 vt wo HSL.out)
                generalize bestG 1 v0 vt = sv at HR HSM
                obtain ⟨sk, sn, ss⟩ := sv
                unfold aggG at HSM
                dsimp only at HSM
                clear HAP3 hkk hnv
                clear r0 r1 r2 f0 f1 f2 hO
                go_wp2_with fail
                refine HSM.out.mono ?_
                rintro _ w2 ⟨rfl, hb2⟩
                obtain ⟨⟨r0, r1, r2⟩, f0, f1, f2⟩ := box_three (box_kept HBX.out hb2)
                have HBF := Lib.hid (below_keep HBW.out hb2)
                have hzw : w.heap.size + 1 < w2.heap.size := Nat.lt_of_lt_of_le hzz hb2.size
                clear hb2
                go_wp2_with fail
                refine bodyPost_ret (v := aggG ⟨sk, sn, ss⟩) (by simp [aggG, gnull, results, Tryz.results28, go_sem, r0, r1, r2]) rfl ⟨by rw [HR.out], ?_⟩
                exact below_box3 (q := w.heap.size + 1) HBF.out hle
              · have hk3 : (kind == 3) = false := by simpa using k3
                have hk4 : (kind == 4) = false := by simpa using k4
                have HR : Hid (res = gnull) := Lib.hid (by rw [HAP3.out, if_neg k3, if_neg k4])
                clear k3 k4 HAP3 hkk hnv hO
                go_wp2_with fail
                refine bodyPost_ret (v := aggG gnull) (by simp [aggG, gnull, results, Tryz.results28, go_sem, r0, r1, r2]) rfl ⟨by rw [HR.out], ?_⟩
                exact below_box3 (q := w.heap.size + 1) HBF.out hle
end Go.Proofs.YtfmbbfidjcgeiaaGreatDoor

namespace Go.Proofs.YtfmbbfidjcgeiaaGreatDoor
open Go.RowKit Go.Lib

theorem Own.take {P : Program} {α : Type} {E : El P α} {w : World} {B n c k : Nat} {a : Option Addr} {l : List α} (h : Own E w B (.slice a n c) l) (hk : k ≤ n) : Own E w B (.slice a k c) (l.take k) := by
  obtain ⟨xs, h1, h2⟩ := h
  have hn : n = l.length := by
    obtain ⟨a', c', e⟩ := own_shape h1
    exact (Value.slice.inj e).2.1
  subst hn
  have hxl : xs.length = l.length * E.size := h1.1
  have hm : k * E.size ≤ l.length * E.size := Nat.mul_le_mul_right _ hk
  have ho : (Value.slice a l.length c).ownBlock = (Value.slice a k c).ownBlock := by cases a <;> rfl
  rw [ho] at h2
  refine ⟨xs.take (k * E.size), ⟨?_, ?_⟩, fun i x hi => ?_⟩
  · show (xs.take _).length = (l.take k).length * E.size
    rw [List.length_take, List.length_take, Nat.min_eq_left hk, hxl, Nat.min_eq_left hm]
  · rw [List.length_take, Nat.min_eq_left hk]
    rcases h1.2 with ⟨e, hz⟩ | ⟨g, cap, cur, e, q1, q2, q3, q4, q5, q6⟩
    · obtain ⟨e1, e2, e3⟩ := Value.slice.inj e
      obtain rfl : k = 0 := by omega
      exact .inl ⟨by rw [e1, e3], rfl⟩
    · obtain ⟨e1, e2, e3⟩ := Value.slice.inj e
      refine .inr ⟨g, cap, cur, by rw [e1, e3], q1, q2, by omega, q4, q5, ?_⟩
      have h7 := congrArg (List.take (k * E.size)) q6
      rw [List.take_take, Nat.min_eq_left hm] at h7
      exact h7
  · rw [List.getElem?_take] at hi
    split at hi
    · rename_i hik
      have h3 := h2 i x hi
      have h4 : i * E.size + E.size ≤ k * E.size := by
        have := Nat.mul_le_mul_right E.size (show i + 1 ≤ k from hik); rwa [Nat.add_mul, Nat.one_mul] at this
      have e1 : ((xs.take (k * E.size)).drop (i * E.size)).take E.size = (xs.drop (i * E.size)).take E.size := by
        rw [List.drop_take, List.take_take, Nat.min_eq_left (by omega)]
      rw [e1]
      exact h3
    · cases hi
theorem cap_ge (w : World) (n : Nat) (e : TypeId) : n ≤ (Question.appendCap n 0 e).cut (w.tape w.drawn (Question.appendCap n 0 e)) := grownCap_ge w n 0 e
theorem cap_le (w : World) (n : Nat) (e : TypeId) (h : n ≤ maxLen) : (Question.appendCap n 0 e).cut (w.tape w.drawn (Question.appendCap n 0 e)) ≤ maxLen := grownCap_le_maxLen w n 0 e h
theorem made_own {P : Program} {α : Type} (E : El P α) (w : World) (z : Array Value) (n c : Nat) (hz : z.size = E.size) (hn : n ≤ c) (hc : c ≤ maxLen) : Own E (w.alloc (.cells (Builtin.zeroCells z n ++ Builtin.zeroCells z (c - n)) E.ty)).drew w.heap.size (.slice (some ⟨w.heap.size, 0, none⟩) 0 c) [] := by
  refine Own.drew ⟨[], World.ownsRow_made w _ c (Nat.le_refl _) hc ?_, by simp⟩
  rw [Array.size_append, size_zeroCells, size_zeroCells, hz, ← Nat.add_mul]
  congr 1
  omega
def szC (n1 n2 : Nat) : Nat → Nat
  | 0 => 0
  | 1 => n1
  | _ => n1 + n2
def acC {α : Type} (a b : List α) : Nat → List α
  | 0 => []
  | 1 => a
  | _ => a ++ b
set_option maxHeartbeats 2000000 in
set_option maxRecDepth 100000 in
theorem growI_any (n : Nat) (w : World) (hn : n ≤ 2000000) : Calls Tryz.prog 113 #[.slice none 0 0, .int .i64 n] w fun e w' => ∃ a c, e = .returned (.slice a 0 c) ∧ Own intE w' w.heap.size (.slice a 0 c) [] ∧ Below w.heap.size w w' := by
  have hby : (Tryz.t3).bytes = 8 := by kernel_rfl
  have hnx : Builtin.nextslicecap n 0 = n := by
    unfold Builtin.nextslicecap
    split
    · rfl
    · rw [if_pos (by decide)]; omega
  have hb1 : (n : Int) * ((Tryz.t3).bytes : Int) ≤ 281474976710656 := by rw [hby]; omega
  have hb2 : ¬ 281474976710656 < Builtin.nextslicecap n 0 * (Tryz.t3).bytes := by rw [hby, hnx]; omega
  have hc1 := cap_ge w n 3
  have hc2 := cap_le w n 3 (by unfold maxLen; omega)
  have hMO := Lib.hid (made_own intE w #[.int .i64 0] n _ rfl hc1 hc2)
  clear hby hnx hc1 hc2
  go_enter Tryz.func113, Tryz.ntmps113
  go_wp2_with fail
  · go_ret
    exact ⟨_, _, rfl, hMO.out, (below_alloc w _).drew⟩
  · go_ret
    exact ⟨_, _, rfl, Own.nil _ _ _, .refl _ _⟩
set_option maxHeartbeats 4000000 in
set_option maxRecDepth 100000 in
theorem concatI_any (g : Nat) (v u : Value) (a b : List Int) (w : World) (h0 : w.cell? ⟨g, 0, none⟩ = some v) (h1 : w.cell? ⟨g, 1, none⟩ = some u) (hv : Sl intE w free v a) (hu : Sl intE w free u b) (hs : a.length + b.length ≤ 1000000) :
    Calls Tryz.prog 74 #[.slice (some ⟨g, 0, none⟩) 2 2] w (RetOwn intE w (a ++ b)) := by
  obtain ⟨a1, c1, rfl⟩ := hv.shape
  obtain ⟨a2, c2, rfl⟩ := hu.shape
  have HA := Lib.hid hv
  have HU := Lib.hid hu
  obtain ⟨n1, hn1⟩ : ∃ n, n = a.length := ⟨_, rfl⟩
  obtain ⟨n2, hn2⟩ : ∃ n, n = b.length := ⟨_, rfl⟩
  have HN1 := Lib.hid hn1
  have HN2 := Lib.hid hn2
  rw [← hn1] at HA h0 hs
  rw [← hn2] at HU h1 hs
  have hEA : ∀ j, j < 2 → ∃ a3 c3 n3 l3, w.cell? ⟨g, j, none⟩ = some (.slice a3 n3 c3) ∧ Sl intE w free (.slice a3 n3 c3) l3 ∧ l3.length = n3 ∧ n3 ≤ 1000000 ∧ szC n1 n2 j + n3 = szC n1 n2 (j + 1) ∧ acC a b j ++ l3 = acC a b (j + 1) := by
    intro j hj
    rcases (by omega : j = 0 ∨ j = 1) with rfl | rfl
    · exact ⟨a1, c1, n1, a, h0, HA.out, HN1.out.symm, by omega, Nat.zero_add _, rfl⟩
    · exact ⟨a2, c2, n2, b, h1, HU.out, HN2.out.symm, by omega, rfl, rfl⟩
  have HEA := Lib.hid hEA
  have hsz : ∀ j, szC n1 n2 j ≤ 1000000 := fun j => by unfold szC; split <;> omega
  have HSZ := Lib.hid hsz
  have HAC : Hid (∀ j, (acC a b j).length = szC n1 n2 j) := Lib.hid (fun j => by unfold acC szC; split <;> simp [HN1.out, HN2.out])
  clear hv hu hn1 hn2 h0 h1 hEA hsz
  go_enter Tryz.func74, Tryz.ntmps74
  go_wp2_with fail
  go_loopw [11, 3] (fun i z wr => ∃ j : Nat, j ≤ 2 ∧ i = .int .i64 j ∧ z = .int .i64 (szC n1 n2 j : Nat) ∧ Hid (Below w.heap.size w wr)) (fun i _ _ => 2 - (RowKit.intOf i).toNat)
  case atStart => exact ⟨0, Nat.zero_le _, rfl, rfl, Lib.hid (.refl _ _)⟩
  case round =>
    obtain ⟨j, hj, rfl, rfl, HB⟩ := hrel
    obtain ⟨wo, rfl⟩ : ∃ wo : World, wo = wr := ⟨_, rfl⟩
    by_cases hlt : j < 2
    · obtain ⟨a3, c3, n3, l3, hc, _, _, hn3, hss, _⟩ := HEA.out j hlt
      have p0 := cell_keep HB.out hc
      have hs1 := HSZ.out j
      have HSS := Lib.hid hss
      have hji : (j : Int) < 2 := by omega
      generalize szC n1 n2 j = s at hs1 HSS ⊢
      clear hc hss
      go_wp2_with fail
      go_roundw
      case rel => exact ⟨j + 1, by omega, by go_num, by rw [← HSS.out]; first | rfl | go_num, HB⟩
      case measure => simp [RowKit.intOf]; omega
    · obtain rfl : j = 2 := by omega
      have hs1 := HSZ.out 2
      have HGR := fun W => Lib.hid (growI_any (szC n1 n2 2) W (by omega))
      generalize szC n1 n2 2 = s at hs1 HGR ⊢
      go_wp2_with fail
      refine (HGR _).out.mono ?_
      rintro _ w2 ⟨ao, co, rfl, hO, hb2⟩
      have HO := Lib.hid (hO.mono HB.out.size)
      have HB2 := Lib.hid (below_keep HB.out hb2)
      clear hO hb2 HGR
      go_wp2_with fail
      go_loopw [27, 6] (fun i o wr => ∃ j : Nat, j ≤ 2 ∧ i = .int .i64 j ∧ Own intE wr w.heap.size o (acC a b j) ∧ Hid (Below w.heap.size w wr)) (fun i _ _ => 2 - (RowKit.intOf i).toNat)
      case atStart => exact ⟨0, Nat.zero_le _, rfl, HO.out, HB2⟩
      case round =>
        obtain ⟨j, hj, rfl, hOj, HBj⟩ := hrel
        obtain ⟨wo, rfl⟩ : ∃ wo : World, wo = wr := ⟨_, rfl⟩
        have hlj := HAC.out j
        have hs2 := HSZ.out j
        by_cases hlt : j < 2
        · obtain ⟨a3, c3, n3, l3, hc, hsl, hl3, hn3, _, hac⟩ := HEA.out j hlt
          have p0 := cell_keep HBj.out hc
          have HAJ := Lib.hid hac
          have hji : (j : Int) < 2 := by omega
          obtain ⟨lk, hlk⟩ : ∃ lk, lk = acC a b j := ⟨_, rfl⟩
          rw [← hlk] at hOj hlj HAJ
          obtain ⟨ap, cp, rfl⟩ := hOj.shape
          have HOJ := Lib.hid hOj
          have HIS : Hid (Sl intE wo (fun k => some k = (Value.slice ap lk.length cp).ownBlock) (.slice a3 n3 c3) l3) := Lib.hid (((hsl.old (Nat.le_refl _)).below HBj.out).mono fun k _ hk => (HOJ.out.lt k hk.symm).1)
          obtain ⟨nt, hnt⟩ : ∃ nt, lk.length + l3.length = nt := ⟨_, rfl⟩
          have hnt1 : nt ≤ 2000000 := by omega
          have HNT := Lib.hid hnt
          have hlb : lk.length + l3.length ≤ 2000000 := by omega
          clear hc hsl hl3 hac hOj hlk hnt hlj
          go_wp2_with (at_builtin; refine wpList_join rfl (.tmp 31) (.tmp 32) 36 rfl intE Tryz.underlying36 w.heap.size (.slice ap lk.length cp) (.slice a3 n3 c3) lk l3 rfl rfl HOJ.out HIS.out (by unfold maxLen; omega) (by show _ * 8 ≤ _; omega) HBj.out.size nt HNT.out ?_; intro a5 c5 w5 hJ)
          go_roundw
          case rel => exact ⟨j + 1, by omega, by go_num, by rw [← HAJ.out]; exact hJ.own, Lib.hid (HBj.out.trans hJ.below)⟩
          case measure => simp [RowKit.intOf]; omega
        · obtain rfl : j = 2 := by omega
          obtain ⟨ap, cp, rfl⟩ := hOj.shape
          have HOJ : Hid (Own intE wo w.heap.size (.slice ap (acC a b 2).length cp) (a ++ b)) := Lib.hid hOj
          clear hOj hlj
          generalize (acC a b 2).length = s3 at HOJ ⊢
          go_wp2_with fail
          go_ret
          exact ⟨_, rfl, HOJ.out, HBj.out⟩
end Go.Proofs.YtfmbbfidjcgeiaaGreatDoor

namespace Go.Proofs.YtfmbbfidjcgeiaaGreatDoor
open Go.RowKit Go.Lib Go.Shelf

theorem ints_at {w : World} {G : Nat → Prop} {a : Option Addr} {n c k : Nat} {l : List Int} {x : Int} (h : Sl intE w G (.slice a n c) l) (hk : l[k]? = some x) : ∃ b o, a = some ⟨b, o, none⟩ ∧ w.cell? ⟨b, o + k, none⟩ = some (.int .i64 x) := by
  obtain ⟨b, o, cs, ha, rfl, hc⟩ := Sl.at h hk
  have h0 : w.cell? ⟨b, o + k * 1 + 0, none⟩ = some (.int .i64 x) := hc 0 _ rfl
  rw [Nat.mul_one, Nat.add_zero] at h0
  exact ⟨b, o, ha, h0⟩
/-- After j of both slices. -/
def accU (a b : List Int) : Nat → List Int
  | 0 => []
  | 1 => a.foldl ins []
  | _ => mergeL a b
theorem accU_length (a b : List Int) (j : Nat) : (accU a b j).length ≤ a.length + b.length := by
  match j with
  | 0 => simp [accU]
  | 1 => have := foldIns_length a []; simp [accU] at *; omega
  | j + 2 => exact mergeL_length a b

end Go.Proofs.YtfmbbfidjcgeiaaGreatDoor

namespace Go.Proofs.YtfmbbfidjcgeiaaGreatDoor
open Go.RowKit Go.Lib Go.Shelf
/-- What was there before the call is clear of a row of the call's own. -/
theorem Sl.clearOf {P : Program} {α : Type} {E : El P α} {w0 w : World} {G : Nat → Prop} {v u : Value} {ys : List α} (hu : Sl E w0 G u ys) (hb : Below w0.heap.size w0 w) (hlt : ∀ k, v.ownBlock = some k → w0.heap.size ≤ k) : Sl E w (fun k => some k = v.ownBlock) u ys :=
  ((hu.old (Nat.le_refl _)).below hb).mono (fun k _ hk => hlt k hk.symm)

end Go.Proofs.YtfmbbfidjcgeiaaGreatDoor

namespace Go.Proofs.YtfmbbfidjcgeiaaGreatDoor
open Go.RowKit Go.Lib Go.Shelf
end Go.Proofs.YtfmbbfidjcgeiaaGreatDoor

namespace Go.Proofs.YtfmbbfidjcgeiaaGreatDoor
open Go.Shelf Go.RowKit Go.Lib Go.Sort
def sh_laysNm220_ren : Go.Shelf.Ren := ⟨fun | 20 => 43 | n => n, fun | 22 => 36 | 3 => 3 | 4 => 4 | 0 => 0 | n => n, fun | n => n⟩
theorem sh_laysNm220 : Lays2.n20 Tryz.prog sh_laysNm220_ren := {
  mixed := by kernel_rfl
  f20 := Tryz.func43.trans (congrArg some (by kernel_rfl))
  t0 := Tryz.underlying0
  a0 := Tryz.isAgg0
  z0 := Tryz.sizeOf0
  v0 := Tryz.zeroValue0
  t3 := Tryz.underlying3
  a3 := Tryz.isAgg3
  z3 := Tryz.sizeOf3
  v3 := Tryz.zeroValue3
  t4 := Tryz.underlying4
  a4 := Tryz.isAgg4
  z4 := Tryz.sizeOf4
  v4 := Tryz.zeroValue4
  t22 := Tryz.underlying36
  a22 := Tryz.isAgg36
  z22 := Tryz.sizeOf36
  v22 := Tryz.zeroValue36
  i3 := by kernel_rfl }
theorem sh_slices_Compact_int (blk off cap : Nat) (zs : List Int) (w : World) (hH : Holds (Value.int .i64) w blk off zs.toArray) (hsz : zs.length ≤ 9223372036854775807) (hcap : zs.length ≤ cap) :
    Calls Tryz.prog 43 #[.slice (some ⟨blk, off, none⟩) zs.length cap] w fun e w' => e = .returned (.slice (some ⟨blk, off, none⟩) (Lib.compact zs).length cap) ∧ ∃ q, w' = putRow (Value.int .i64) (Sort.ahead w q) blk off (Lib.compact zs ++ List.replicate (zs.length - (Lib.compact zs).length) 0).toArray := Any.slices_Compact_int sh_laysNm220 blk off cap zs w hH hsz hcap
theorem sh_slices_Compact_int_empty (a : Option Addr) (cap : Nat) (w : World) :
    Calls Tryz.prog 43 #[.slice a 0 cap] w fun e w' => e = .returned (.slice a 0 cap) ∧ w' = w := Any.slices_Compact_int_empty sh_laysNm220 a cap w
theorem sh_slices_Compact_int_cells (b off n c : Nat) (zs : List Int) (w : World) (hz : n ≤ zs.length) (hbig : n ≤ 9223372036854775807) (hcap : n ≤ c) (hc : ∀ j, j < zs.length → w.cell? ⟨b, off + j, none⟩ = some (.int .i64 (zs.getD j 0))) (hf : ∀ j, j < n → w.frozen? ⟨b, off + j, none⟩ = false) :
    Calls Tryz.prog 43 #[.slice (some ⟨b, off, none⟩) n c] w fun e w' => e = .returned (.slice (some ⟨b, off, none⟩) (Lib.compact (zs.take n)).length c) ∧ ∃ q, w' = (w.drewN q).setCells b off ((Lib.compact (zs.take n) ++ List.replicate (n - (Lib.compact (zs.take n)).length) 0).map (Value.int .i64)) := Any.slices_Compact_int_cells sh_laysNm220 b off n c zs w hz hbig hcap hc hf
end Go.Proofs.YtfmbbfidjcgeiaaGreatDoor
