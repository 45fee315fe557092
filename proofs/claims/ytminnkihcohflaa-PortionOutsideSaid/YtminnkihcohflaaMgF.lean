/- A part of the proofs of the laws of chapter 19: EvlD, EvlE, EvlF. No condition beside sizes. -/
import Derived.Test.YtminnkihcohflaaMgE
import Derived.Test.YtminnkihcohflaaMgB
namespace Go.Proofs.Ytminnkihcohflaa
open Go.RowKit Go.Lib Go.Shelf

set_option maxHeartbeats 4000000 in
set_option maxRecDepth 100000 in
theorem apply_8 (b o n1 c1 : Nat) (vr : Value) (xa xb col : Int) (c : GVal) (k1 m1 k2 m2 : Int) (s1 s2 : ByteArray) (w : World) (hn : 1 < n1) (h63 : n1 ≤ 9223372036854775807)
    (p0 : w.cell? ⟨b, o, none⟩ = some (.int .i64 k1)) (p1 : w.cell? ⟨b, o + 1, none⟩ = some (.int .i64 m1)) (p2 : w.cell? ⟨b, o + 2, none⟩ = some (.string s1))
    (q0 : w.cell? ⟨b, o + 3, none⟩ = some (.int .i64 k2)) (q1 : w.cell? ⟨b, o + 3 + 1, none⟩ = some (.int .i64 m2)) (q2 : w.cell? ⟨b, o + 3 + 2, none⟩ = some (.string s2)) :
    Calls Try.prog 92 #[aggX ⟨8, xa, xb, col, c⟩, .slice (some ⟨b, o, none⟩) n1 c1, vr] w fun e w' => e = .returned (aggG (gbool (isTrueG ⟨k1, m1, s1⟩ && isTrueG ⟨k2, m2, s2⟩))) ∧ Below w.heap.size w w' := by
  have lb : b < w.heap.size := World.block_lt_of_cell? w _ p0
  have lb1 : b < w.heap.size + 1 := by omega
  have lb2 : b < w.heap.size + 1 + 1 := by omega
  have hn0 : 0 < n1 := by omega
  obtain ⟨ck, cn, cs⟩ := c
  obtain ⟨r, hr⟩ : ∃ r, r = isTrueG ⟨k1, m1, s1⟩ := ⟨_, rfl⟩
  obtain ⟨t, ht⟩ : ∃ t, t = isTrueG ⟨k2, m2, s2⟩ := ⟨_, rfl⟩
  rw [← hr, ← ht]
  have HR := Lib.hid hr
  have HT := Lib.hid ht
  clear hr ht
  unfold aggX
  dsimp only
  go_enter Try.func92, Try.ntmps92
  go_wp2_with fail
  refine (isTrue_ag k1 m1 s1 _).mono ?_
  rintro e w1 ⟨rfl, hb1⟩
  rw [← HR.out]
  have hB1 : Below w.heap.size w w1 := below_keep (below_alloc_two w _ _) hb1
  have bx := box_kept (heap2_1 w _ _) hb1
  have hz : w.heap.size + 1 < w1.heap.size := by have := hb1.size; simp at this; omega
  replace q0 := cell_keep hB1 q0
  replace q1 := cell_keep hB1 q1
  replace q2 := cell_keep hB1 q2
  clear hb1
  cases r
  · go_wp2_with fail
    refine (boolean_ag false _).mono ?_
    rintro e w3 ⟨rfl, hb3⟩
    obtain ⟨⟨d0, d1, d2⟩, f0, f1, f2⟩ := box_three (box_kept bx hb3)
    have hB3 := below_keep hB1 hb3
    have hz3 : w.heap.size + 1 < w3.heap.size := by have := hb3.size; omega
    clear hb3 hB1 bx
    go_wp2_with fail
    exact bodyPost_ret (v := .agg #[.int .i64 3, .int .i64 (b2i false), .string ⟨#[]⟩]) (by simp [results, Try.results92, go_sem, d0, d1, d2]) rfl ⟨by simp only [Bool.false_and]; rfl, ((hB3.setCell (Nat.le_succ _) _).setCell (Nat.le_succ _) _).setCell (Nat.le_succ _) _⟩
  · go_wp2_with fail
    refine (isTrue_ag k2 m2 s2 _).mono ?_
    rintro e w2 ⟨rfl, hb2⟩
    rw [← HT.out]
    replace bx := box_kept bx hb2
    replace hB1 := below_keep hB1 hb2
    replace hz : w.heap.size + 1 < w2.heap.size := by have := hb2.size; omega
    clear hb2
    go_wp2_with fail
    refine (boolean_ag t _).mono ?_
    rintro e w3 ⟨rfl, hb3⟩
    obtain ⟨⟨d0, d1, d2⟩, f0, f1, f2⟩ := box_three (box_kept bx hb3)
    have hB3 := below_keep hB1 hb3
    have hz3 : w.heap.size + 1 < w3.heap.size := by have := hb3.size; omega
    clear hb3 hB1 bx
    go_wp2_with fail
    exact bodyPost_ret (v := .agg #[.int .i64 3, .int .i64 (b2i t), .string ⟨#[]⟩]) (by simp [results, Try.results92, go_sem, d0, d1, d2]) rfl ⟨by simp only [Bool.true_and]; rfl, ((hB3.setCell (Nat.le_succ _) _).setCell (Nat.le_succ _) _).setCell (Nat.le_succ _) _⟩
set_option maxHeartbeats 4000000 in
set_option maxRecDepth 100000 in
theorem apply_9 (b o n1 c1 : Nat) (vr : Value) (xa xb col : Int) (c : GVal) (k1 m1 k2 m2 : Int) (s1 s2 : ByteArray) (w : World) (hn : 1 < n1) (h63 : n1 ≤ 9223372036854775807)
    (p0 : w.cell? ⟨b, o, none⟩ = some (.int .i64 k1)) (p1 : w.cell? ⟨b, o + 1, none⟩ = some (.int .i64 m1)) (p2 : w.cell? ⟨b, o + 2, none⟩ = some (.string s1))
    (q0 : w.cell? ⟨b, o + 3, none⟩ = some (.int .i64 k2)) (q1 : w.cell? ⟨b, o + 3 + 1, none⟩ = some (.int .i64 m2)) (q2 : w.cell? ⟨b, o + 3 + 2, none⟩ = some (.string s2)) :
    Calls Try.prog 92 #[aggX ⟨9, xa, xb, col, c⟩, .slice (some ⟨b, o, none⟩) n1 c1, vr] w fun e w' => e = .returned (aggG (gbool (isTrueG ⟨k1, m1, s1⟩ || isTrueG ⟨k2, m2, s2⟩))) ∧ Below w.heap.size w w' := by
  have lb : b < w.heap.size := World.block_lt_of_cell? w _ p0
  have lb1 : b < w.heap.size + 1 := by omega
  have lb2 : b < w.heap.size + 1 + 1 := by omega
  have hn0 : 0 < n1 := by omega
  obtain ⟨ck, cn, cs⟩ := c
  obtain ⟨r, hr⟩ : ∃ r, r = isTrueG ⟨k1, m1, s1⟩ := ⟨_, rfl⟩
  obtain ⟨t, ht⟩ : ∃ t, t = isTrueG ⟨k2, m2, s2⟩ := ⟨_, rfl⟩
  rw [← hr, ← ht]
  have HR := Lib.hid hr
  have HT := Lib.hid ht
  clear hr ht
  unfold aggX
  dsimp only
  go_enter Try.func92, Try.ntmps92
  go_wp2_with fail
  refine (isTrue_ag k1 m1 s1 _).mono ?_
  rintro e w1 ⟨rfl, hb1⟩
  rw [← HR.out]
  have hB1 : Below w.heap.size w w1 := below_keep (below_alloc_two w _ _) hb1
  have bx := box_kept (heap2_1 w _ _) hb1
  have hz : w.heap.size + 1 < w1.heap.size := by have := hb1.size; simp at this; omega
  replace q0 := cell_keep hB1 q0
  replace q1 := cell_keep hB1 q1
  replace q2 := cell_keep hB1 q2
  clear hb1
  cases r
  · go_wp2_with fail
    refine (isTrue_ag k2 m2 s2 _).mono ?_
    rintro e w2 ⟨rfl, hb2⟩
    rw [← HT.out]
    replace bx := box_kept bx hb2
    replace hB1 := below_keep hB1 hb2
    replace hz : w.heap.size + 1 < w2.heap.size := by have := hb2.size; omega
    clear hb2
    go_wp2_with fail
    refine (boolean_ag t _).mono ?_
    rintro e w3 ⟨rfl, hb3⟩
    obtain ⟨⟨d0, d1, d2⟩, f0, f1, f2⟩ := box_three (box_kept bx hb3)
    have hB3 := below_keep hB1 hb3
    have hz3 : w.heap.size + 1 < w3.heap.size := by have := hb3.size; omega
    clear hb3 hB1 bx
    go_wp2_with fail
    exact bodyPost_ret (v := .agg #[.int .i64 3, .int .i64 (b2i t), .string ⟨#[]⟩]) (by simp [results, Try.results92, go_sem, d0, d1, d2]) rfl ⟨by simp only [Bool.false_or]; rfl, ((hB3.setCell (Nat.le_succ _) _).setCell (Nat.le_succ _) _).setCell (Nat.le_succ _) _⟩
  · go_wp2_with fail
    refine (boolean_ag true _).mono ?_
    rintro e w3 ⟨rfl, hb3⟩
    obtain ⟨⟨d0, d1, d2⟩, f0, f1, f2⟩ := box_three (box_kept bx hb3)
    have hB3 := below_keep hB1 hb3
    have hz3 : w.heap.size + 1 < w3.heap.size := by have := hb3.size; omega
    clear hb3 hB1 bx
    go_wp2_with fail
    exact bodyPost_ret (v := .agg #[.int .i64 3, .int .i64 (b2i true), .string ⟨#[]⟩]) (by simp [results, Try.results92, go_sem, d0, d1, d2]) rfl ⟨by simp only [Bool.true_or]; rfl, ((hB3.setCell (Nat.le_succ _) _).setCell (Nat.le_succ _) _).setCell (Nat.le_succ _) _⟩
set_option maxHeartbeats 4000000 in
set_option maxRecDepth 100000 in
theorem apply_11 (b o n1 c1 : Nat) (vr : Value) (xa xb col : Int) (c : GVal) (k1 : Int) (w : World) (hn : 0 < n1) (_h63 : n1 ≤ 9223372036854775807)
    (p0 : w.cell? ⟨b, o, none⟩ = some (.int .i64 k1)) :
    Calls Try.prog 92 #[aggX ⟨11, xa, xb, col, c⟩, .slice (some ⟨b, o, none⟩) n1 c1, vr] w fun e w' => e = .returned (aggG (gbool (k1 == 0))) ∧ Below w.heap.size w w' := by
  have lb : b < w.heap.size := World.block_lt_of_cell? w _ p0
  have lb1 : b < w.heap.size + 1 := by omega
  have lb2 : b < w.heap.size + 1 + 1 := by omega
  obtain ⟨ck, cn, cs⟩ := c
  unfold aggX
  dsimp only
  go_enter Try.func92, Try.ntmps92
  go_wp2_with fail
  refine (boolean_ag (k1 == 0) _).mono ?_
  rintro e w3 ⟨rfl, hb3⟩
  have hB3 := below_keep (below_alloc_two w _ _) hb3
  obtain ⟨⟨d0, d1, d2⟩, f0, f1, f2⟩ := box_three (box_kept (heap2_1 w _ _) hb3)
  have hz3 : w.heap.size + 1 < w3.heap.size := by have := hb3.size; simp at this; omega
  clear hb3
  go_wp2_with fail
  exact bodyPost_ret (v := .agg #[.int .i64 3, .int .i64 (b2i (k1 == 0)), .string ⟨#[]⟩]) (by simp [results, Try.results92, go_sem, d0, d1, d2]) rfl ⟨rfl, ((hB3.setCell (Nat.le_succ _) _).setCell (Nat.le_succ _) _).setCell (Nat.le_succ _) _⟩
end Go.Proofs.Ytminnkihcohflaa

namespace Go.Proofs.Ytminnkihcohflaa
open Go.RowKit Go.Lib Go.Shelf

theorem vAt_set3 {W : World} {p q1 q2 q3 : Addr} {u1 u2 u3 v : Value} (h : W.cell? p = some v) : (((W.setCell q1 u1).setCell q2 u2).setCell q3 u3).cell? p = some (vAt (((W.setCell q1 u1).setCell q2 u2).setCell q3 u3) p) := vAt_set (vAt_set (vAt_set h))
theorem cell_set3 {W : World} {p q1 q2 q3 : Addr} {u1 u2 u3 v : Value} (h : W.cell? p = some v) (h1 : q1.block ≠ p.block) (h2 : q2.block = q1.block) (h3 : q3.block = q1.block) : (((W.setCell q1 u1).setCell q2 u2).setCell q3 u3).cell? p = some v := by
  rw [World.cell?_setCell_far _ _ _ _ (by rw [h3]; exact h1), World.cell?_setCell_far _ _ _ _ (by rw [h2]; exact h1), World.cell?_setCell_far _ _ _ _ h1]
  exact h
theorem below_set3 {w W : World} {q1 q2 q3 : Addr} {u1 u2 u3 : Value} (h : Below w.heap.size w W) (h1 : w.heap.size ≤ q1.block) (h2 : w.heap.size ≤ q2.block) (h3 : w.heap.size ≤ q3.block) : Below w.heap.size w (((W.setCell q1 u1).setCell q2 u2).setCell q3 u3) :=
  ((h.setCell h1 _).setCell h2 _).setCell h3 _
theorem frozen_set3 {W : World} {p q1 q2 q3 : Addr} {u1 u2 u3 : Value} (h : W.frozen? p = false) : (((W.setCell q1 u1).setCell q2 u2).setCell q3 u3).frozen? p = false := by simp [h]
theorem heap2_1d (w : World) (c1 c2 : Obj) : ((w.alloc c1).alloc c2).drew.heap[w.heap.size + 1]? = some c2 := heap2_1 w c1 c2
theorem size_set3 {n : Nat} {W : World} {q1 q2 q3 : Addr} {u1 u2 u3 : Value} (h : n < W.heap.size) : n < (((W.setCell q1 u1).setCell q2 u2).setCell q3 u3).heap.size := by simpa [World.setCell] using h
set_option maxHeartbeats 4000000 in
set_option maxRecDepth 100000 in
theorem apply_arith (op : Int) (ho : op = 3 ∨ op = 4 ∨ op = 5) (b o n1 c1 : Nat) (vr : Value) (xa xb col : Int) (c : GVal) (k1 m1 k2 m2 : Int) (s1 s2 : ByteArray) (w : World) (hn : 1 < n1) (h63 : n1 ≤ 9223372036854775807) (hm1 : In64 m1) (hm2 : In64 m2)
    (p0 : w.cell? ⟨b, o, none⟩ = some (.int .i64 k1)) (p1 : w.cell? ⟨b, o + 1, none⟩ = some (.int .i64 m1)) (p2 : w.cell? ⟨b, o + 2, none⟩ = some (.string s1))
    (q0 : w.cell? ⟨b, o + 3, none⟩ = some (.int .i64 k2)) (q1 : w.cell? ⟨b, o + 3 + 1, none⟩ = some (.int .i64 m2)) (q2 : w.cell? ⟨b, o + 3 + 2, none⟩ = some (.string s2)) :
    Calls Try.prog 92 #[aggX ⟨op, xa, xb, col, c⟩, .slice (some ⟨b, o, none⟩) n1 c1, vr] w fun e w' => e = .returned (aggG (arithG op ⟨k1, m1, s1⟩ ⟨k2, m2, s2⟩)) ∧ Below w.heap.size w w' := by
  have lb : b < w.heap.size := World.block_lt_of_cell? w _ p0
  have hn0 : 0 < n1 := by omega
  have hn1 : (1 : Int) ≤ (n1 : Int) - 1 := by omega
  have hn2 : (1 : Int) < (n1 : Int) := by omega
  have hn3 : ¬ (n1 : Int) ≤ 1 := by omega
  have hn4 : ¬ n1 ≤ 1 := by omega
  have HA : ∀ W, Hid (Calls Try.prog 120 #[.int .i64 op, .agg #[.int .i64 k1, .int .i64 m1, .string s1], .agg #[.int .i64 k2, .int .i64 m2, .string s2]] W fun e w' => e = .returned (aggG (arithG op ⟨k1, m1, s1⟩ ⟨k2, m2, s2⟩)) ∧ Below W.heap.size W w') := fun W => arith_any op ⟨k1, m1, s1⟩ ⟨k2, m2, s2⟩ ho hm1 hm2 W
  obtain ⟨ck, cn, cs⟩ := c
  obtain ⟨y, hy⟩ : ∃ y, y = arithG op ⟨k1, m1, s1⟩ ⟨k2, m2, s2⟩ := ⟨_, rfl⟩
  rw [← hy]
  rw [← hy] at HA
  clear hy hm1 hm2
  obtain ⟨ky, ny, sy⟩ := y
  unfold aggX
  unfold aggG at HA ⊢
  dsimp only at HA ⊢
  have hB0 := below_alloc_two w (.cells #[.int .i64 op, .int .i64 xa, .int .i64 xb, .int .i64 col, .int .i64 ck, .int .i64 cn, .string cs] 81) (.cells #[.int .i64 0, .int .i64 0, .string ⟨#[]⟩] 79)
  have hz0 : w.heap.size + 1 < ((w.alloc (.cells #[.int .i64 op, .int .i64 xa, .int .i64 xb, .int .i64 col, .int .i64 ck, .int .i64 cn, .string cs] 81)).alloc (.cells #[.int .i64 0, .int .i64 0, .string ⟨#[]⟩] 79)).heap.size := by simp
  have d0 : ((w.alloc (.cells #[.int .i64 op, .int .i64 xa, .int .i64 xb, .int .i64 col, .int .i64 ck, .int .i64 cn, .string cs] 81)).alloc (.cells #[.int .i64 0, .int .i64 0, .string ⟨#[]⟩] 79)).cell? ⟨w.heap.size, 0, none⟩ = some (.int .i64 op) := by simp [World.cell?, heap_alloc_old' w (.cells #[.int .i64 op, .int .i64 xa, .int .i64 xb, .int .i64 col, .int .i64 ck, .int .i64 cn, .string cs] 81) (.cells #[.int .i64 0, .int .i64 0, .string ⟨#[]⟩] 79)]
  obtain ⟨⟨r0, r1, r2⟩, f0, f1, f2⟩ := box_three (heap2_1 w (.cells #[.int .i64 op, .int .i64 xa, .int .i64 xb, .int .i64 col, .int .i64 ck, .int .i64 cn, .string cs] 81) (.cells #[.int .i64 0, .int .i64 0, .string ⟨#[]⟩] 79))
  replace r0 := vAt_of r0
  replace r1 := vAt_of r1
  replace r2 := vAt_of r2
  replace p0 := cell_keep hB0 p0
  replace p1 := cell_keep hB0 p1
  replace p2 := cell_keep hB0 p2
  replace q0 := cell_keep hB0 q0
  replace q1 := cell_keep hB0 q1
  replace q2 := cell_keep hB0 q2
  have lb1 : w.heap.size ≠ b := by omega
  have lb2 : w.heap.size + 1 ≠ b := by omega
  have lb3 : w.heap.size + 1 ≠ w.heap.size := by omega
  rcases ho with rfl | rfl | rfl
  · go_enter Try.func92, Try.ntmps92
    go_wp2_with fail
    go_region_held3 (fun W => Below w.heap.size w W ∧ w.heap.size + 1 < W.heap.size ∧ W.cell? ⟨w.heap.size, 0, none⟩ = some (.int .i64 3)
        ∧ W.cell? ⟨b, o, none⟩ = some (.int .i64 k1) ∧ W.cell? ⟨b, o + 1, none⟩ = some (.int .i64 m1) ∧ W.cell? ⟨b, o + 2, none⟩ = some (.string s1)
        ∧ W.cell? ⟨b, o + 3, none⟩ = some (.int .i64 k2) ∧ W.cell? ⟨b, o + 3 + 1, none⟩ = some (.int .i64 m2) ∧ W.cell? ⟨b, o + 3 + 2, none⟩ = some (.string s2)
        ∧ W.cell? ⟨w.heap.size + 1, 0, none⟩ = some (vAt W ⟨w.heap.size + 1, 0, none⟩) ∧ W.cell? ⟨w.heap.size + 1, 1, none⟩ = some (vAt W ⟨w.heap.size + 1, 1, none⟩) ∧ W.cell? ⟨w.heap.size + 1, 2, none⟩ = some (vAt W ⟨w.heap.size + 1, 2, none⟩)
        ∧ W.frozen? ⟨w.heap.size + 1, 0, none⟩ = false ∧ W.frozen? ⟨w.heap.size + 1, 1, none⟩ = false ∧ W.frozen? ⟨w.heap.size + 1, 2, none⟩ = false)
      ((go_split_ands; refine ⟨?_, ?_, ?_, ?_, ?_, ?_, ?_, ?_, ?_, ?_, ?_, ?_, ?_, ?_, ?_⟩ <;> first | (with_reducible assumption) | with_reducible exact Below.drew (by assumption) | with_reducible exact size_drew (by assumption) | with_reducible exact cell_drew (by assumption) | with_reducible exact vAt_drew (by assumption) | with_reducible exact frozen_drew (by assumption) | with_reducible exact below_keep (by assumption) (by assumption) | with_reducible exact size_keep (by assumption) (by assumption) | with_reducible exact cell_keep (by assumption) (by assumption) | with_reducible exact vAt_keep (by assumption) (by assumption) | with_reducible exact frozen_keep (by assumption) (by assumption) (by assumption) | with_reducible exact below_set3 (by assumption) (by simp) (by simp) (by simp) | with_reducible exact size_set3 (by assumption) | with_reducible exact cell_set3 (by assumption) (by simp [*]) rfl rfl | with_reducible exact vAt_set3 (by assumption) | with_reducible exact frozen_set3 (by assumption)))
      (first
        | (go_at_call 120; refine (HA _).out.mono ?_; rintro e wA ⟨rfl, hbA⟩))
    obtain ⟨⟨e0, e1, e2⟩, _⟩ := box_three (box_kept (heap2_1d w _ _) hbA)
    have hzA : w.heap.size + 1 < wA.heap.size := size_keep hbA (size_drew hz0)
    have hBA := below_keep hB0.drew hbA
    clear HA hB0 hz0 d0 r0 r1 r2 f0 f1 f2 p0 p1 p2 q0 q1 q2
    go_wp2_with fail
    exact bodyPost_ret (v := .agg #[.int .i64 ky, .int .i64 ny, .string sy]) (by simp [results, Try.results92, go_sem, e0, e1, e2]) rfl ⟨rfl, below_set3 hBA (Nat.le_succ _) (Nat.le_succ _) (Nat.le_succ _)⟩
  · go_enter Try.func92, Try.ntmps92
    go_wp2_with fail
    go_region_held3 (fun W => Below w.heap.size w W ∧ w.heap.size + 1 < W.heap.size ∧ W.cell? ⟨w.heap.size, 0, none⟩ = some (.int .i64 4)
        ∧ W.cell? ⟨b, o, none⟩ = some (.int .i64 k1) ∧ W.cell? ⟨b, o + 1, none⟩ = some (.int .i64 m1) ∧ W.cell? ⟨b, o + 2, none⟩ = some (.string s1)
        ∧ W.cell? ⟨b, o + 3, none⟩ = some (.int .i64 k2) ∧ W.cell? ⟨b, o + 3 + 1, none⟩ = some (.int .i64 m2) ∧ W.cell? ⟨b, o + 3 + 2, none⟩ = some (.string s2)
        ∧ W.cell? ⟨w.heap.size + 1, 0, none⟩ = some (vAt W ⟨w.heap.size + 1, 0, none⟩) ∧ W.cell? ⟨w.heap.size + 1, 1, none⟩ = some (vAt W ⟨w.heap.size + 1, 1, none⟩) ∧ W.cell? ⟨w.heap.size + 1, 2, none⟩ = some (vAt W ⟨w.heap.size + 1, 2, none⟩)
        ∧ W.frozen? ⟨w.heap.size + 1, 0, none⟩ = false ∧ W.frozen? ⟨w.heap.size + 1, 1, none⟩ = false ∧ W.frozen? ⟨w.heap.size + 1, 2, none⟩ = false)
      ((go_split_ands; refine ⟨?_, ?_, ?_, ?_, ?_, ?_, ?_, ?_, ?_, ?_, ?_, ?_, ?_, ?_, ?_⟩ <;> first | (with_reducible assumption) | with_reducible exact Below.drew (by assumption) | with_reducible exact size_drew (by assumption) | with_reducible exact cell_drew (by assumption) | with_reducible exact vAt_drew (by assumption) | with_reducible exact frozen_drew (by assumption) | with_reducible exact below_keep (by assumption) (by assumption) | with_reducible exact size_keep (by assumption) (by assumption) | with_reducible exact cell_keep (by assumption) (by assumption) | with_reducible exact vAt_keep (by assumption) (by assumption) | with_reducible exact frozen_keep (by assumption) (by assumption) (by assumption) | with_reducible exact below_set3 (by assumption) (by simp) (by simp) (by simp) | with_reducible exact size_set3 (by assumption) | with_reducible exact cell_set3 (by assumption) (by simp [*]) rfl rfl | with_reducible exact vAt_set3 (by assumption) | with_reducible exact frozen_set3 (by assumption)))
      (first
        | (go_at_call 120; refine (HA _).out.mono ?_; rintro e wA ⟨rfl, hbA⟩))
    obtain ⟨⟨e0, e1, e2⟩, _⟩ := box_three (box_kept (heap2_1d w _ _) hbA)
    have hzA : w.heap.size + 1 < wA.heap.size := size_keep hbA (size_drew hz0)
    have hBA := below_keep hB0.drew hbA
    clear HA hB0 hz0 d0 r0 r1 r2 f0 f1 f2 p0 p1 p2 q0 q1 q2
    go_wp2_with fail
    exact bodyPost_ret (v := .agg #[.int .i64 ky, .int .i64 ny, .string sy]) (by simp [results, Try.results92, go_sem, e0, e1, e2]) rfl ⟨rfl, below_set3 hBA (Nat.le_succ _) (Nat.le_succ _) (Nat.le_succ _)⟩
  · go_enter Try.func92, Try.ntmps92
    go_wp2_with fail
    go_region_held3 (fun W => Below w.heap.size w W ∧ w.heap.size + 1 < W.heap.size ∧ W.cell? ⟨w.heap.size, 0, none⟩ = some (.int .i64 5)
        ∧ W.cell? ⟨b, o, none⟩ = some (.int .i64 k1) ∧ W.cell? ⟨b, o + 1, none⟩ = some (.int .i64 m1) ∧ W.cell? ⟨b, o + 2, none⟩ = some (.string s1)
        ∧ W.cell? ⟨b, o + 3, none⟩ = some (.int .i64 k2) ∧ W.cell? ⟨b, o + 3 + 1, none⟩ = some (.int .i64 m2) ∧ W.cell? ⟨b, o + 3 + 2, none⟩ = some (.string s2)
        ∧ W.cell? ⟨w.heap.size + 1, 0, none⟩ = some (vAt W ⟨w.heap.size + 1, 0, none⟩) ∧ W.cell? ⟨w.heap.size + 1, 1, none⟩ = some (vAt W ⟨w.heap.size + 1, 1, none⟩) ∧ W.cell? ⟨w.heap.size + 1, 2, none⟩ = some (vAt W ⟨w.heap.size + 1, 2, none⟩)
        ∧ W.frozen? ⟨w.heap.size + 1, 0, none⟩ = false ∧ W.frozen? ⟨w.heap.size + 1, 1, none⟩ = false ∧ W.frozen? ⟨w.heap.size + 1, 2, none⟩ = false)
      ((go_split_ands; refine ⟨?_, ?_, ?_, ?_, ?_, ?_, ?_, ?_, ?_, ?_, ?_, ?_, ?_, ?_, ?_⟩ <;> first | (with_reducible assumption) | with_reducible exact Below.drew (by assumption) | with_reducible exact size_drew (by assumption) | with_reducible exact cell_drew (by assumption) | with_reducible exact vAt_drew (by assumption) | with_reducible exact frozen_drew (by assumption) | with_reducible exact below_keep (by assumption) (by assumption) | with_reducible exact size_keep (by assumption) (by assumption) | with_reducible exact cell_keep (by assumption) (by assumption) | with_reducible exact vAt_keep (by assumption) (by assumption) | with_reducible exact frozen_keep (by assumption) (by assumption) (by assumption) | with_reducible exact below_set3 (by assumption) (by simp) (by simp) (by simp) | with_reducible exact size_set3 (by assumption) | with_reducible exact cell_set3 (by assumption) (by simp [*]) rfl rfl | with_reducible exact vAt_set3 (by assumption) | with_reducible exact frozen_set3 (by assumption)))
      (first
        | (go_at_call 120; refine (HA _).out.mono ?_; rintro e wA ⟨rfl, hbA⟩))
    obtain ⟨⟨e0, e1, e2⟩, _⟩ := box_three (box_kept (heap2_1d w _ _) hbA)
    have hzA : w.heap.size + 1 < wA.heap.size := size_keep hbA (size_drew hz0)
    have hBA := below_keep hB0.drew hbA
    clear HA hB0 hz0 d0 r0 r1 r2 f0 f1 f2 p0 p1 p2 q0 q1 q2
    go_wp2_with fail
    exact bodyPost_ret (v := .agg #[.int .i64 ky, .int .i64 ny, .string sy]) (by simp [results, Try.results92, go_sem, e0, e1, e2]) rfl ⟨rfl, below_set3 hBA (Nat.le_succ _) (Nat.le_succ _) (Nat.le_succ _)⟩
end Go.Proofs.Ytminnkihcohflaa

namespace Go.Proofs.Ytminnkihcohflaa
open Go.RowKit Go.Lib Go.Shelf

set_option maxHeartbeats 4000000 in
set_option maxRecDepth 100000 in
theorem apply_unknown (op : Int) (ho : arity op < 0) (va vr : Value) (xa xb col : Int) (c : GVal) (w : World) :
    Calls Try.prog 92 #[aggX ⟨op, xa, xb, col, c⟩, va, vr] w fun e w' => e = .returned (aggG gnull) ∧ Below w.heap.size w w' := by
  have hop : op < 1 ∨ 11 < op := by have := arity_cases op; omega
  have b1 : (op == 1) = false := by rw [beq_eq_false_iff_ne]; omega
  have b2 : (op == 2) = false := by rw [beq_eq_false_iff_ne]; omega
  have b3 : (op == 3) = false := by rw [beq_eq_false_iff_ne]; omega
  have b4 : (op == 4) = false := by rw [beq_eq_false_iff_ne]; omega
  have b5 : (op == 5) = false := by rw [beq_eq_false_iff_ne]; omega
  have b6 : (op == 6) = false := by rw [beq_eq_false_iff_ne]; omega
  have b7 : (op == 7) = false := by rw [beq_eq_false_iff_ne]; omega
  have b8 : (op == 8) = false := by rw [beq_eq_false_iff_ne]; omega
  have b9 : (op == 9) = false := by rw [beq_eq_false_iff_ne]; omega
  have b10 : (op == 10) = false := by rw [beq_eq_false_iff_ne]; omega
  have b11 : (op == 11) = false := by rw [beq_eq_false_iff_ne]; omega
  clear ho hop
  obtain ⟨ck, cn, cs⟩ := c
  unfold aggX
  dsimp only
  go_enter Try.func92, Try.ntmps92
  go_wp2_with fail
  exact bodyPost_ret (v := aggG gnull) (by simp [aggG, gnull, results, Try.results92, go_sem]) rfl ⟨rfl, by first | exact below_alloc_two w _ _ | exact (below_alloc_two w _ _).setCell (by simp) _⟩
end Go.Proofs.Ytminnkihcohflaa
