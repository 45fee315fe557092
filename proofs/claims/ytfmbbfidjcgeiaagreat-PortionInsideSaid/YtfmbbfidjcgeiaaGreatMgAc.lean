/- A part of the proofs: EvlE, EvlF, EvlG, EvlH, EvlI, EvlJ, Aff, Afr. No condition beside sizes and tables that read as laid. -/
import Derived.Test.YtfmbbfidjcgeiaaGreatMgAb
import Derived.Test.YtfmbbfidjcgeiaaGreatMgAa
namespace Go.Proofs.YtfmbbfidjcgeiaaGreat
open Go.RowKit Go.Lib Go.Shelf

theorem vAt_set3 {W : World} {p q1 q2 q3 : Addr} {u1 u2 u3 v : Value} (h : W.cell? p = some v) : (((W.setCell q1 u1).setCell q2 u2).setCell q3 u3).cell? p = some (vAt (((W.setCell q1 u1).setCell q2 u2).setCell q3 u3) p) := vAt_set (vAt_set (vAt_set h))
theorem cell_set3 {W : World} {p q1 q2 q3 : Addr} {u1 u2 u3 v : Value} (h : W.cell? p = some v) (h1 : q1.block ≠ p.block) (h2 : q2.block = q1.block) (h3 : q3.block = q1.block) : (((W.setCell q1 u1).setCell q2 u2).setCell q3 u3).cell? p = some v := by
  rw [World.cell?_setCell_far _ _ _ _ (by rw [h3]; exact h1), World.cell?_setCell_far _ _ _ _ (by rw [h2]; exact h1), World.cell?_setCell_far _ _ _ _ h1]
  exact h
theorem below_set3 {w W : World} {q1 q2 q3 : Addr} {u1 u2 u3 : Value} (h : Below w.heap.size w W) (h1 : w.heap.size ≤ q1.block) (h2 : w.heap.size ≤ q2.block) (h3 : w.heap.size ≤ q3.block) : Below w.heap.size w (((W.setCell q1 u1).setCell q2 u2).setCell q3 u3) :=
  ((h.setCell h1 _).setCell h2 _).setCell h3 _
theorem frozen_set3 {W : World} {p q1 q2 q3 : Addr} {u1 u2 u3 : Value} (h : W.frozen? p = false) : (((W.setCell q1 u1).setCell q2 u2).setCell q3 u3).frozen? p = false := by simp [h]
theorem heap2_1d (w : World) (c1 c2 : Obj) : ((w.alloc c1).alloc c2).drew.heap[w.heap.size + 1]? = some c2 := heap2_1 w c1 c2
theorem size_set3 {n : Nat} {W : World} {q1 q2 q3 : Addr} {u1 u2 u3 : Value} (h : n < W.heap.size) : n < (((W.setCell q1 u1).setCell q2 u2).setCell q3 u3).heap.size := by simpa [World.setCell] using h
set_option maxHeartbeats 4000000 in
set_option maxRecDepth 100000 in
theorem apply_arith (op : Int) (ho : op = 3 ∨ op = 4 ∨ op = 5) (b o n1 c1 : Nat) (vr : Value) (xa xb col : Int) (c : GVal) (k1 m1 k2 m2 : Int) (s1 s2 : ByteArray) (w : World) (hn : 1 < n1) (h63 : n1 ≤ 9223372036854775807) (hm1 : In64 m1) (hm2 : In64 m2)
    (p0 : w.cell? ⟨b, o, none⟩ = some (.int .i64 k1)) (p1 : w.cell? ⟨b, o + 1, none⟩ = some (.int .i64 m1)) (p2 : w.cell? ⟨b, o + 2, none⟩ = some (.string s1))
    (q0 : w.cell? ⟨b, o + 3, none⟩ = some (.int .i64 k2)) (q1 : w.cell? ⟨b, o + 3 + 1, none⟩ = some (.int .i64 m2)) (q2 : w.cell? ⟨b, o + 3 + 2, none⟩ = some (.string s2)) :
    Calls Tryz.prog 41 #[aggX ⟨op, xa, xb, col, c⟩, .slice (some ⟨b, o, none⟩) n1 c1, vr] w fun e w' => e = .returned (aggG (arithG op ⟨k1, m1, s1⟩ ⟨k2, m2, s2⟩)) ∧ Below w.heap.size w w' := by
  have lb : b < w.heap.size := World.block_lt_of_cell? w _ p0
  have hn0 : 0 < n1 := by omega
  have hn1 : (1 : Int) ≤ (n1 : Int) - 1 := by omega
  have hn2 : (1 : Int) < (n1 : Int) := by omega
  have hn3 : ¬ (n1 : Int) ≤ 1 := by omega
  have hn4 : ¬ n1 ≤ 1 := by omega
  have HA : ∀ W, Hid (Calls Tryz.prog 64 #[.int .i64 op, .agg #[.int .i64 k1, .int .i64 m1, .string s1], .agg #[.int .i64 k2, .int .i64 m2, .string s2]] W fun e w' => e = .returned (aggG (arithG op ⟨k1, m1, s1⟩ ⟨k2, m2, s2⟩)) ∧ Below W.heap.size W w') := fun W => arith_any op ⟨k1, m1, s1⟩ ⟨k2, m2, s2⟩ ho hm1 hm2 W
  obtain ⟨ck, cn, cs⟩ := c
  obtain ⟨y, hy⟩ : ∃ y, y = arithG op ⟨k1, m1, s1⟩ ⟨k2, m2, s2⟩ := ⟨_, rfl⟩
  rw [← hy]
  rw [← hy] at HA
  clear hy hm1 hm2
  obtain ⟨ky, ny, sy⟩ := y
  unfold aggX
  unfold aggG at HA ⊢
  dsimp only at HA ⊢
  have hB0 := below_alloc_two w (.cells #[.int .i64 op, .int .i64 xa, .int .i64 xb, .int .i64 col, .int .i64 ck, .int .i64 cn, .string cs] 39) (.cells #[.int .i64 0, .int .i64 0, .string ⟨#[]⟩] 36)
  have hz0 : w.heap.size + 1 < ((w.alloc (.cells #[.int .i64 op, .int .i64 xa, .int .i64 xb, .int .i64 col, .int .i64 ck, .int .i64 cn, .string cs] 39)).alloc (.cells #[.int .i64 0, .int .i64 0, .string ⟨#[]⟩] 36)).heap.size := by simp
  have d0 : ((w.alloc (.cells #[.int .i64 op, .int .i64 xa, .int .i64 xb, .int .i64 col, .int .i64 ck, .int .i64 cn, .string cs] 39)).alloc (.cells #[.int .i64 0, .int .i64 0, .string ⟨#[]⟩] 36)).cell? ⟨w.heap.size, 0, none⟩ = some (.int .i64 op) := by simp [World.cell?, heap_alloc_old' w (.cells #[.int .i64 op, .int .i64 xa, .int .i64 xb, .int .i64 col, .int .i64 ck, .int .i64 cn, .string cs] 39) (.cells #[.int .i64 0, .int .i64 0, .string ⟨#[]⟩] 36)]
  obtain ⟨⟨r0, r1, r2⟩, f0, f1, f2⟩ := box_three (heap2_1 w (.cells #[.int .i64 op, .int .i64 xa, .int .i64 xb, .int .i64 col, .int .i64 ck, .int .i64 cn, .string cs] 39) (.cells #[.int .i64 0, .int .i64 0, .string ⟨#[]⟩] 36))
  replace r0 := vAt_of r0
  replace r1 := vAt_of r1
  replace r2 := vAt_of r2
  replace p0 := cell_keep hB0 p0
  replace p1 := cell_keep hB0 p1
  replace p2 := cell_keep hB0 p2
  replace q0 := cell_keep hB0 q0
  replace q1 := cell_keep hB0 q1
  replace q2 := cell_keep hB0 q2
  have lb1 : w.heap.size ≠ b := by omega
  have lb2 : w.heap.size + 1 ≠ b := by omega
  have lb3 : w.heap.size + 1 ≠ w.heap.size := by omega
  rcases ho with rfl | rfl | rfl
  · go_enter Tryz.func41, Tryz.ntmps41
    go_wp2_with fail
    go_region_held3 (fun W => Below w.heap.size w W ∧ w.heap.size + 1 < W.heap.size ∧ W.cell? ⟨w.heap.size, 0, none⟩ = some (.int .i64 3)
        ∧ W.cell? ⟨b, o, none⟩ = some (.int .i64 k1) ∧ W.cell? ⟨b, o + 1, none⟩ = some (.int .i64 m1) ∧ W.cell? ⟨b, o + 2, none⟩ = some (.string s1)
        ∧ W.cell? ⟨b, o + 3, none⟩ = some (.int .i64 k2) ∧ W.cell? ⟨b, o + 3 + 1, none⟩ = some (.int .i64 m2) ∧ W.cell? ⟨b, o + 3 + 2, none⟩ = some (.string s2)
        ∧ W.cell? ⟨w.heap.size + 1, 0, none⟩ = some (vAt W ⟨w.heap.size + 1, 0, none⟩) ∧ W.cell? ⟨w.heap.size + 1, 1, none⟩ = some (vAt W ⟨w.heap.size + 1, 1, none⟩) ∧ W.cell? ⟨w.heap.size + 1, 2, none⟩ = some (vAt W ⟨w.heap.size + 1, 2, none⟩)
        ∧ W.frozen? ⟨w.heap.size + 1, 0, none⟩ = false ∧ W.frozen? ⟨w.heap.size + 1, 1, none⟩ = false ∧ W.frozen? ⟨w.heap.size + 1, 2, none⟩ = false)
      ((go_split_ands; refine ⟨?_, ?_, ?_, ?_, ?_, ?_, ?_, ?_, ?_, ?_, ?_, ?_, ?_, ?_, ?_⟩ <;> first | (with_reducible assumption) | with_reducible exact Below.drew (by assumption) | with_reducible exact size_drew (by assumption) | with_reducible exact cell_drew (by assumption) | with_reducible exact vAt_drew (by assumption) | with_reducible exact frozen_drew (by assumption) | with_reducible exact below_keep (by assumption) (by assumption) | with_reducible exact size_keep (by assumption) (by assumption) | with_reducible exact cell_keep (by assumption) (by assumption) | with_reducible exact vAt_keep (by assumption) (by assumption) | with_reducible exact frozen_keep (by assumption) (by assumption) (by assumption) | with_reducible exact below_set3 (by assumption) (by simp) (by simp) (by simp) | with_reducible exact size_set3 (by assumption) | with_reducible exact cell_set3 (by assumption) (by simp [*]) rfl rfl | with_reducible exact vAt_set3 (by assumption) | with_reducible exact frozen_set3 (by assumption)))
      (first
        | (go_at_call 64; refine (HA _).out.mono ?_; rintro e wA ⟨rfl, hbA⟩))
    obtain ⟨⟨e0, e1, e2⟩, _⟩ := box_three (box_kept (heap2_1d w _ _) hbA)
    have hzA : w.heap.size + 1 < wA.heap.size := size_keep hbA (size_drew hz0)
    have hBA := below_keep hB0.drew hbA
    clear HA hB0 hz0 d0 r0 r1 r2 f0 f1 f2 p0 p1 p2 q0 q1 q2
    go_wp2_with fail
    exact bodyPost_ret (v := .agg #[.int .i64 ky, .int .i64 ny, .string sy]) (by simp [results, Tryz.results41, go_sem, e0, e1, e2]) rfl ⟨rfl, below_set3 hBA (Nat.le_succ _) (Nat.le_succ _) (Nat.le_succ _)⟩
  · go_enter Tryz.func41, Tryz.ntmps41
    go_wp2_with fail
    go_region_held3 (fun W => Below w.heap.size w W ∧ w.heap.size + 1 < W.heap.size ∧ W.cell? ⟨w.heap.size, 0, none⟩ = some (.int .i64 4)
        ∧ W.cell? ⟨b, o, none⟩ = some (.int .i64 k1) ∧ W.cell? ⟨b, o + 1, none⟩ = some (.int .i64 m1) ∧ W.cell? ⟨b, o + 2, none⟩ = some (.string s1)
        ∧ W.cell? ⟨b, o + 3, none⟩ = some (.int .i64 k2) ∧ W.cell? ⟨b, o + 3 + 1, none⟩ = some (.int .i64 m2) ∧ W.cell? ⟨b, o + 3 + 2, none⟩ = some (.string s2)
        ∧ W.cell? ⟨w.heap.size + 1, 0, none⟩ = some (vAt W ⟨w.heap.size + 1, 0, none⟩) ∧ W.cell? ⟨w.heap.size + 1, 1, none⟩ = some (vAt W ⟨w.heap.size + 1, 1, none⟩) ∧ W.cell? ⟨w.heap.size + 1, 2, none⟩ = some (vAt W ⟨w.heap.size + 1, 2, none⟩)
        ∧ W.frozen? ⟨w.heap.size + 1, 0, none⟩ = false ∧ W.frozen? ⟨w.heap.size + 1, 1, none⟩ = false ∧ W.frozen? ⟨w.heap.size + 1, 2, none⟩ = false)
      ((go_split_ands; refine ⟨?_, ?_, ?_, ?_, ?_, ?_, ?_, ?_, ?_, ?_, ?_, ?_, ?_, ?_, ?_⟩ <;> first | (with_reducible assumption) | with_reducible exact Below.drew (by assumption) | with_reducible exact size_drew (by assumption) | with_reducible exact cell_drew (by assumption) | with_reducible exact vAt_drew (by assumption) | with_reducible exact frozen_drew (by assumption) | with_reducible exact below_keep (by assumption) (by assumption) | with_reducible exact size_keep (by assumption) (by assumption) | with_reducible exact cell_keep (by assumption) (by assumption) | with_reducible exact vAt_keep (by assumption) (by assumption) | with_reducible exact frozen_keep (by assumption) (by assumption) (by assumption) | with_reducible exact below_set3 (by assumption) (by simp) (by simp) (by simp) | with_reducible exact size_set3 (by assumption) | with_reducible exact cell_set3 (by assumption) (by simp [*]) rfl rfl | with_reducible exact vAt_set3 (by assumption) | with_reducible exact frozen_set3 (by assumption)))
      (first
        | (go_at_call 64; refine (HA _).out.mono ?_; rintro e wA ⟨rfl, hbA⟩))
    obtain ⟨⟨e0, e1, e2⟩, _⟩ := box_three (box_kept (heap2_1d w _ _) hbA)
    have hzA : w.heap.size + 1 < wA.heap.size := size_keep hbA (size_drew hz0)
    have hBA := below_keep hB0.drew hbA
    clear HA hB0 hz0 d0 r0 r1 r2 f0 f1 f2 p0 p1 p2 q0 q1 q2
    go_wp2_with fail
    exact bodyPost_ret (v := .agg #[.int .i64 ky, .int .i64 ny, .string sy]) (by simp [results, Tryz.results41, go_sem, e0, e1, e2]) rfl ⟨rfl, below_set3 hBA (Nat.le_succ _) (Nat.le_succ _) (Nat.le_succ _)⟩
  · go_enter Tryz.func41, Tryz.ntmps41
    go_wp2_with fail
    go_region_held3 (fun W => Below w.heap.size w W ∧ w.heap.size + 1 < W.heap.size ∧ W.cell? ⟨w.heap.size, 0, none⟩ = some (.int .i64 5)
        ∧ W.cell? ⟨b, o, none⟩ = some (.int .i64 k1) ∧ W.cell? ⟨b, o + 1, none⟩ = some (.int .i64 m1) ∧ W.cell? ⟨b, o + 2, none⟩ = some (.string s1)
        ∧ W.cell? ⟨b, o + 3, none⟩ = some (.int .i64 k2) ∧ W.cell? ⟨b, o + 3 + 1, none⟩ = some (.int .i64 m2) ∧ W.cell? ⟨b, o + 3 + 2, none⟩ = some (.string s2)
        ∧ W.cell? ⟨w.heap.size + 1, 0, none⟩ = some (vAt W ⟨w.heap.size + 1, 0, none⟩) ∧ W.cell? ⟨w.heap.size + 1, 1, none⟩ = some (vAt W ⟨w.heap.size + 1, 1, none⟩) ∧ W.cell? ⟨w.heap.size + 1, 2, none⟩ = some (vAt W ⟨w.heap.size + 1, 2, none⟩)
        ∧ W.frozen? ⟨w.heap.size + 1, 0, none⟩ = false ∧ W.frozen? ⟨w.heap.size + 1, 1, none⟩ = false ∧ W.frozen? ⟨w.heap.size + 1, 2, none⟩ = false)
      ((go_split_ands; refine ⟨?_, ?_, ?_, ?_, ?_, ?_, ?_, ?_, ?_, ?_, ?_, ?_, ?_, ?_, ?_⟩ <;> first | (with_reducible assumption) | with_reducible exact Below.drew (by assumption) | with_reducible exact size_drew (by assumption) | with_reducible exact cell_drew (by assumption) | with_reducible exact vAt_drew (by assumption) | with_reducible exact frozen_drew (by assumption) | with_reducible exact below_keep (by assumption) (by assumption) | with_reducible exact size_keep (by assumption) (by assumption) | with_reducible exact cell_keep (by assumption) (by assumption) | with_reducible exact vAt_keep (by assumption) (by assumption) | with_reducible exact frozen_keep (by assumption) (by assumption) (by assumption) | with_reducible exact below_set3 (by assumption) (by simp) (by simp) (by simp) | with_reducible exact size_set3 (by assumption) | with_reducible exact cell_set3 (by assumption) (by simp [*]) rfl rfl | with_reducible exact vAt_set3 (by assumption) | with_reducible exact frozen_set3 (by assumption)))
      (first
        | (go_at_call 64; refine (HA _).out.mono ?_; rintro e wA ⟨rfl, hbA⟩))
    obtain ⟨⟨e0, e1, e2⟩, _⟩ := box_three (box_kept (heap2_1d w _ _) hbA)
    have hzA : w.heap.size + 1 < wA.heap.size := size_keep hbA (size_drew hz0)
    have hBA := below_keep hB0.drew hbA
    clear HA hB0 hz0 d0 r0 r1 r2 f0 f1 f2 p0 p1 p2 q0 q1 q2
    go_wp2_with fail
    exact bodyPost_ret (v := .agg #[.int .i64 ky, .int .i64 ny, .string sy]) (by simp [results, Tryz.results41, go_sem, e0, e1, e2]) rfl ⟨rfl, below_set3 hBA (Nat.le_succ _) (Nat.le_succ _) (Nat.le_succ _)⟩
end Go.Proofs.YtfmbbfidjcgeiaaGreat

namespace Go.Proofs.YtfmbbfidjcgeiaaGreat
open Go.RowKit Go.Lib Go.Shelf

set_option maxHeartbeats 4000000 in
set_option maxRecDepth 100000 in
theorem apply_unknown (op : Int) (ho : arity op < 0) (va vr : Value) (xa xb col : Int) (c : GVal) (w : World) :
    Calls Tryz.prog 41 #[aggX ⟨op, xa, xb, col, c⟩, va, vr] w fun e w' => e = .returned (aggG gnull) ∧ Below w.heap.size w w' := by
  have hop : op < 1 ∨ 11 < op := by have := arity_cases op; omega
  have b1 : (op == 1) = false := by rw [beq_eq_false_iff_ne]; omega
  have b2 : (op == 2) = false := by rw [beq_eq_false_iff_ne]; omega
  have b3 : (op == 3) = false := by rw [beq_eq_false_iff_ne]; omega
  have b4 : (op == 4) = false := by rw [beq_eq_false_iff_ne]; omega
  have b5 : (op == 5) = false := by rw [beq_eq_false_iff_ne]; omega
  have b6 : (op == 6) = false := by rw [beq_eq_false_iff_ne]; omega
  have b7 : (op == 7) = false := by rw [beq_eq_false_iff_ne]; omega
  have b8 : (op == 8) = false := by rw [beq_eq_false_iff_ne]; omega
  have b9 : (op == 9) = false := by rw [beq_eq_false_iff_ne]; omega
  have b10 : (op == 10) = false := by rw [beq_eq_false_iff_ne]; omega
  have b11 : (op == 11) = false := by rw [beq_eq_false_iff_ne]; omega
  clear ho hop
  obtain ⟨ck, cn, cs⟩ := c
  unfold aggX
  dsimp only
  go_enter Tryz.func41, Tryz.ntmps41
  go_wp2_with fail
  exact bodyPost_ret (v := aggG gnull) (by simp [aggG, gnull, results, Tryz.results41, go_sem]) rfl ⟨rfl, by first | exact below_alloc_two w _ _ | exact (below_alloc_two w _ _).setCell (by simp) _⟩
end Go.Proofs.YtfmbbfidjcgeiaaGreat

namespace Go.Proofs.YtfmbbfidjcgeiaaGreat
open Go.RowKit Go.Lib Go.Shelf

set_option maxHeartbeats 4000000 in
set_option maxRecDepth 100000 in
theorem apply_6a (b o n1 c1 : Nat) (vr : Value) (xa xb col : Int) (c : GVal) (k1 m1 k2 m2 : Int) (s1 s2 : ByteArray) (w : World) (hn : 1 < n1) (h63 : n1 ≤ 9223372036854775807) (h1 : k1 = 0)
    (p0 : w.cell? ⟨b, o, none⟩ = some (.int .i64 k1)) (p1 : w.cell? ⟨b, o + 1, none⟩ = some (.int .i64 m1)) (p2 : w.cell? ⟨b, o + 2, none⟩ = some (.string s1))
    (q0 : w.cell? ⟨b, o + 3, none⟩ = some (.int .i64 k2)) (q1 : w.cell? ⟨b, o + 3 + 1, none⟩ = some (.int .i64 m2)) (q2 : w.cell? ⟨b, o + 3 + 2, none⟩ = some (.string s2)) :
    Calls Tryz.prog 41 #[aggX ⟨6, xa, xb, col, c⟩, .slice (some ⟨b, o, none⟩) n1 c1, vr] w fun e w' => e = .returned (aggG (gbool false)) ∧ Below w.heap.size w w' := by
  have lb : b < w.heap.size := World.block_lt_of_cell? w _ p0
  have hn0 : 0 < n1 := by omega
  have hn1 : (1 : Int) ≤ (n1 : Int) - 1 := by omega
  have hn2 : (1 : Int) < (n1 : Int) := by omega
  have hn3 : ¬ (n1 : Int) ≤ 1 := by omega
  have hn4 : ¬ n1 ≤ 1 := by omega
  subst h1
  have HBL : ∀ W, Hid (Calls Tryz.prog 65 #[.bool false] W fun e w' => e = .returned (.agg #[.int .i64 3, .int .i64 (b2i false), .string ⟨#[]⟩]) ∧ Below W.heap.size W w') := fun W => boolean_ag _ W
  rw [aggG_bool]
  obtain ⟨ck, cn, cs⟩ := c
  unfold aggX
  dsimp only
  have hB0 := below_alloc_two w (.cells #[.int .i64 6, .int .i64 xa, .int .i64 xb, .int .i64 col, .int .i64 ck, .int .i64 cn, .string cs] 39) (.cells #[.int .i64 0, .int .i64 0, .string ⟨#[]⟩] 36)
  have hz0 : w.heap.size + 1 < ((w.alloc (.cells #[.int .i64 6, .int .i64 xa, .int .i64 xb, .int .i64 col, .int .i64 ck, .int .i64 cn, .string cs] 39)).alloc (.cells #[.int .i64 0, .int .i64 0, .string ⟨#[]⟩] 36)).heap.size := by simp
  obtain ⟨⟨r0, r1, r2⟩, f0, f1, f2⟩ := box_three (heap2_1 w (.cells #[.int .i64 6, .int .i64 xa, .int .i64 xb, .int .i64 col, .int .i64 ck, .int .i64 cn, .string cs] 39) (.cells #[.int .i64 0, .int .i64 0, .string ⟨#[]⟩] 36))
  replace r0 := vAt_of r0
  replace r1 := vAt_of r1
  replace r2 := vAt_of r2
  replace p0 := cell_keep hB0 p0
  replace p1 := cell_keep hB0 p1
  replace p2 := cell_keep hB0 p2
  replace q0 := cell_keep hB0 q0
  replace q1 := cell_keep hB0 q1
  replace q2 := cell_keep hB0 q2
  have lb2 : w.heap.size + 1 ≠ b := by omega
  go_enter Tryz.func41, Tryz.ntmps41
  go_wp2_with fail
  refine wp_region_held_drew (S := (fun W => Below w.heap.size w W ∧ w.heap.size + 1 < W.heap.size
      ∧ W.cell? ⟨b, o, none⟩ = some (.int .i64 0) ∧ W.cell? ⟨b, o + 1, none⟩ = some (.int .i64 m1) ∧ W.cell? ⟨b, o + 2, none⟩ = some (.string s1)
      ∧ W.cell? ⟨b, o + 3, none⟩ = some (.int .i64 k2) ∧ W.cell? ⟨b, o + 3 + 1, none⟩ = some (.int .i64 m2) ∧ W.cell? ⟨b, o + 3 + 2, none⟩ = some (.string s2)
      ∧ W.cell? ⟨w.heap.size + 1, 0, none⟩ = some (vAt W ⟨w.heap.size + 1, 0, none⟩) ∧ W.cell? ⟨w.heap.size + 1, 1, none⟩ = some (vAt W ⟨w.heap.size + 1, 1, none⟩) ∧ W.cell? ⟨w.heap.size + 1, 2, none⟩ = some (vAt W ⟨w.heap.size + 1, 2, none⟩)
      ∧ W.frozen? ⟨w.heap.size + 1, 0, none⟩ = false ∧ W.frozen? ⟨w.heap.size + 1, 1, none⟩ = false ∧ W.frozen? ⟨w.heap.size + 1, 2, none⟩ = false)) (by kernel_rfl) ?_ (fun hHeld => ?_)
  · (go_split_ands; refine ⟨?_, ?_, ?_, ?_, ?_, ?_, ?_, ?_, ?_, ?_, ?_, ?_, ?_, ?_⟩ <;> first | (with_reducible assumption) | with_reducible exact Below.drew (by assumption) | with_reducible exact size_drew (by assumption) | with_reducible exact cell_drew (by assumption) | with_reducible exact vAt_drew (by assumption) | with_reducible exact frozen_drew (by assumption) | with_reducible exact below_keep (by assumption) (by assumption) | with_reducible exact size_keep (by assumption) (by assumption) | with_reducible exact cell_keep (by assumption) (by assumption) | with_reducible exact vAt_keep (by assumption) (by assumption) | with_reducible exact frozen_keep (by assumption) (by assumption) (by assumption) | with_reducible exact below_set3 (by assumption) (by simp) (by simp) (by simp) | with_reducible exact size_set3 (by assumption) | with_reducible exact cell_set3 (by assumption) (by simp [*]) rfl rfl | with_reducible exact vAt_set3 (by assumption) | with_reducible exact frozen_set3 (by assumption))
  refine take_y (i := 0) (d := some 46) (v := ?_) rfl rfl (by kernel_rfl) (by kernel_rfl) (by kernel_rfl) (fun _ _ _ h => h) (by assumption) ?_ ?_
  rotate_left
  · intro oi ho
    simp only [List.getElem?_toArray, List.getElem?_cons_zero, Option.some.injEq] at ho
    subst ho
    intro w hSw
    (try dsimp only at hSw)
    go_simp
    (try with_reducible rfl)
  (try simp only [Act.put, List.setIfInBounds_toArray, List.set_cons_zero, List.set_cons_succ])
  refine take_y (i := 1) (d := some 47) (v := ?_) rfl rfl (by kernel_rfl) (by kernel_rfl) (by kernel_rfl) (fun _ _ _ h => h) (by assumption) ?_ ?_
  rotate_left
  · intro oi ho
    simp only [List.getElem?_toArray, List.getElem?_cons_succ, List.getElem?_cons_zero, Option.some.injEq] at ho
    subst ho
    intro w hSw
    (try dsimp only at hSw)
    go_simp
    (try with_reducible rfl)
  (try simp only [Act.put, List.setIfInBounds_toArray, List.set_cons_zero, List.set_cons_succ])
  refine take_y (i := 2) (d := some 48) (v := ?_) rfl rfl (by kernel_rfl) (by kernel_rfl) (by kernel_rfl) (fun _ _ _ h => h) (by assumption) ?_ ?_
  rotate_left
  · intro oi ho
    simp only [List.getElem?_toArray, List.getElem?_cons_succ, List.getElem?_cons_zero, Option.some.injEq] at ho
    subst ho
    intro w hSw
    (try dsimp only at hSw)
    go_simp
    (try with_reducible rfl)
  (try simp only [Act.put, List.setIfInBounds_toArray, List.set_cons_zero, List.set_cons_succ])
  refine take_y (i := 3) (d := some 49) (v := ?_) rfl rfl (by kernel_rfl) (by kernel_rfl) (by kernel_rfl) (fun _ _ _ h => h) (by assumption) ?_ ?_
  rotate_left
  · intro oi ho
    simp only [List.getElem?_toArray, List.getElem?_cons_succ, List.getElem?_cons_zero, Option.some.injEq] at ho
    subst ho
    intro w hSw
    (try dsimp only at hSw)
    go_simp
    (try with_reducible rfl)
  (try simp only [Act.put, List.setIfInBounds_toArray, List.set_cons_zero, List.set_cons_succ])
  refine take_y (i := 4) (d := some 50) (v := ?_) rfl rfl (by kernel_rfl) (by kernel_rfl) (by kernel_rfl) (fun _ _ _ h => h) (by assumption) ?_ ?_
  rotate_left
  · intro oi ho
    simp only [List.getElem?_toArray, List.getElem?_cons_succ, List.getElem?_cons_zero, Option.some.injEq] at ho
    subst ho
    intro w hSw
    (try dsimp only at hSw)
    go_simp
    (try with_reducible rfl)
  (try simp only [Act.put, List.setIfInBounds_toArray, List.set_cons_zero, List.set_cons_succ])
  refine take_y (i := 5) (d := some 51) (v := ?_) rfl rfl (by kernel_rfl) (by kernel_rfl) (by kernel_rfl) (fun _ _ _ h => h) (by assumption) ?_ ?_
  rotate_left
  · intro oi ho
    simp only [List.getElem?_toArray, List.getElem?_cons_succ, List.getElem?_cons_zero, Option.some.injEq] at ho
    subst ho
    intro w hSw
    (try dsimp only at hSw)
    go_simp
    (try with_reducible rfl)
  (try simp only [Act.put, List.setIfInBounds_toArray, List.set_cons_zero, List.set_cons_succ])
  refine take_n (i := 6) (d := some 52) rfl rfl (by kernel_rfl) (by kernel_rfl) (by kernel_rfl) (fun _ _ _ h => h) (by assumption) ?_
  (try simp only [Act.put, List.setIfInBounds_toArray, List.set_cons_zero, List.set_cons_succ])
  refine take_n (i := 7) (d := some 53) rfl rfl (by kernel_rfl) (by kernel_rfl) (by kernel_rfl) (fun _ _ _ h => h) (by assumption) ?_
  (try simp only [Act.put, List.setIfInBounds_toArray, List.set_cons_zero, List.set_cons_succ])
  refine take_n (i := 8) (d := some 54) rfl rfl (by kernel_rfl) (by kernel_rfl) (by kernel_rfl) (fun _ _ _ h => h) (by assumption) ?_
  (try simp only [Act.put, List.setIfInBounds_toArray, List.set_cons_zero, List.set_cons_succ])
  refine take_n (i := 9) (d := some 55) rfl rfl (by kernel_rfl) (by kernel_rfl) (by kernel_rfl) (fun _ _ _ h => h) (by assumption) ?_
  (try simp only [Act.put, List.setIfInBounds_toArray, List.set_cons_zero, List.set_cons_succ])
  refine take_n (i := 10) (d := some 56) rfl rfl (by kernel_rfl) (by kernel_rfl) (by kernel_rfl) (fun _ _ _ h => h) (by assumption) ?_
  (try simp only [Act.put, List.setIfInBounds_toArray, List.set_cons_zero, List.set_cons_succ])
  refine take_y (i := 11) (d := some 57) (v := ?_) rfl rfl (by kernel_rfl) (by kernel_rfl) (by kernel_rfl) (fun _ _ _ h => h) (by assumption) ?_ ?_
  rotate_left
  · intro oi ho
    simp only [List.getElem?_toArray, List.getElem?_cons_succ, List.getElem?_cons_zero, Option.some.injEq] at ho
    subst ho
    intro w hSw
    (try dsimp only at hSw)
    go_simp
    (try with_reducible rfl)
  (try simp only [Act.put, List.setIfInBounds_toArray, List.set_cons_zero, List.set_cons_succ])
  refine take_y (i := 12) (d := some 58) (v := ?_) rfl rfl (by kernel_rfl) (by kernel_rfl) (by kernel_rfl) (fun _ _ _ h => h) (by assumption) ?_ ?_
  rotate_left
  · intro oi ho
    simp only [List.getElem?_toArray, List.getElem?_cons_succ, List.getElem?_cons_zero, Option.some.injEq] at ho
    subst ho
    intro w hSw
    (try dsimp only at hSw)
    go_simp
    (try with_reducible rfl)
  (try simp only [Act.put, List.setIfInBounds_toArray, List.set_cons_zero, List.set_cons_succ])
  refine take_n (i := 13) (d := some 59) rfl rfl (by kernel_rfl) (by kernel_rfl) (by kernel_rfl) (fun _ _ _ h => h) (by assumption) ?_
  (try simp only [Act.put, List.setIfInBounds_toArray, List.set_cons_zero, List.set_cons_succ])
  refine take_n (i := 14) (d := some 60) rfl rfl (by kernel_rfl) (by kernel_rfl) (by kernel_rfl) (fun _ _ _ h => h) (by assumption) ?_
  (try simp only [Act.put, List.setIfInBounds_toArray, List.set_cons_zero, List.set_cons_succ])
  refine take_n (i := 15) (d := some 61) rfl rfl (by kernel_rfl) (by kernel_rfl) (by kernel_rfl) (fun _ _ _ h => h) (by assumption) ?_
  (try simp only [Act.put, List.setIfInBounds_toArray, List.set_cons_zero, List.set_cons_succ])
  refine take_n (i := 16) (d := some 62) rfl rfl (by kernel_rfl) (by kernel_rfl) (by kernel_rfl) (fun _ _ _ h => h) (by assumption) ?_
  (try simp only [Act.put, List.setIfInBounds_toArray, List.set_cons_zero, List.set_cons_succ])
  refine take_n (i := 17) (d := some 63) rfl rfl (by kernel_rfl) (by kernel_rfl) (by kernel_rfl) (fun _ _ _ h => h) (by assumption) ?_
  (try simp only [Act.put, List.setIfInBounds_toArray, List.set_cons_zero, List.set_cons_succ])
  refine take_n (i := 18) (d := some 64) rfl rfl (by kernel_rfl) (by kernel_rfl) (by kernel_rfl) (fun _ _ _ h => h) (by assumption) ?_
  (try simp only [Act.put, List.setIfInBounds_toArray, List.set_cons_zero, List.set_cons_succ])
  refine take_n (i := 19) (d := some 65) rfl rfl (by kernel_rfl) (by kernel_rfl) (by kernel_rfl) (fun _ _ _ h => h) (by assumption) ?_
  (try simp only [Act.put, List.setIfInBounds_toArray, List.set_cons_zero, List.set_cons_succ])
  refine take_n (i := 20) (d := some 66) rfl rfl (by kernel_rfl) (by kernel_rfl) (by kernel_rfl) (fun _ _ _ h => h) (by assumption) ?_
  (try simp only [Act.put, List.setIfInBounds_toArray, List.set_cons_zero, List.set_cons_succ])
  refine take_y (i := 21) (d := some 67) (v := ?_) rfl rfl (by kernel_rfl) (by kernel_rfl) (by kernel_rfl) (fun _ _ _ h => h) (by assumption) ?_ ?_
  rotate_left
  · intro oi ho
    simp only [List.getElem?_toArray, List.getElem?_cons_succ, List.getElem?_cons_zero, Option.some.injEq] at ho
    subst ho
    intro w hSw
    (try dsimp only at hSw)
    go_simp
    (try with_reducible rfl)
  (try simp only [Act.put, List.setIfInBounds_toArray, List.set_cons_zero, List.set_cons_succ])
  refine wpAnyH_ready (rs := [22]) (by kernel_rfl) (by simp) ?_
  refine AllReadyH.cons rfl (fun K hK => ?_) AllReadyH.nil
  go_simp
  (go_at_call 65; refine (HBL _).out.mono ?_; rintro e wA ⟨rfl, hbA⟩)
  refine hK.out _ _ ?_ (fun hHeld => ?_)
  · (try dsimp only)
    (go_split_ands; refine ⟨?_, ?_, ?_, ?_, ?_, ?_, ?_, ?_, ?_, ?_, ?_, ?_, ?_, ?_⟩ <;> first | (with_reducible assumption) | with_reducible exact Below.drew (by assumption) | with_reducible exact size_drew (by assumption) | with_reducible exact cell_drew (by assumption) | with_reducible exact vAt_drew (by assumption) | with_reducible exact frozen_drew (by assumption) | with_reducible exact below_keep (by assumption) (by assumption) | with_reducible exact size_keep (by assumption) (by assumption) | with_reducible exact cell_keep (by assumption) (by assumption) | with_reducible exact vAt_keep (by assumption) (by assumption) | with_reducible exact frozen_keep (by assumption) (by assumption) (by assumption) | with_reducible exact below_set3 (by assumption) (by simp) (by simp) (by simp) | with_reducible exact size_set3 (by assumption) | with_reducible exact cell_set3 (by assumption) (by simp [*]) rfl rfl | with_reducible exact vAt_set3 (by assumption) | with_reducible exact frozen_set3 (by assumption))
  clear hK K
  (try simp only [Act.put, List.setIfInBounds_toArray, List.set_cons_zero, List.set_cons_succ])
  refine wpAnyH_ready (rs := [23]) (by kernel_rfl) (by simp) ?_
  refine AllReadyH.cons rfl (fun K hK => ?_) AllReadyH.nil
  go_simp
  refine hK.out _ _ ?_ (fun hHeld => ?_)
  · (try dsimp only)
    (go_split_ands; refine ⟨?_, ?_, ?_, ?_, ?_, ?_, ?_, ?_, ?_, ?_, ?_, ?_, ?_, ?_⟩ <;> first | (with_reducible assumption) | with_reducible exact Below.drew (by assumption) | with_reducible exact size_drew (by assumption) | with_reducible exact cell_drew (by assumption) | with_reducible exact vAt_drew (by assumption) | with_reducible exact frozen_drew (by assumption) | with_reducible exact below_keep (by assumption) (by assumption) | with_reducible exact size_keep (by assumption) (by assumption) | with_reducible exact cell_keep (by assumption) (by assumption) | with_reducible exact vAt_keep (by assumption) (by assumption) | with_reducible exact frozen_keep (by assumption) (by assumption) (by assumption) | with_reducible exact below_set3 (by assumption) (by simp) (by simp) (by simp) | with_reducible exact size_set3 (by assumption) | with_reducible exact cell_set3 (by assumption) (by simp [*]) rfl rfl | with_reducible exact vAt_set3 (by assumption) | with_reducible exact frozen_set3 (by assumption))
  clear hK K
  (try simp only [Act.put, List.setIfInBounds_toArray, List.set_cons_zero, List.set_cons_succ])
  refine wpAnyH_done (by kernel_rfl) ?_ _
  obtain ⟨⟨e0, e1, e2⟩, _⟩ := box_three (box_kept (heap2_1d w _ _) hbA)
  have hzA : w.heap.size + 1 < wA.heap.size := size_keep hbA (size_drew hz0)
  have hBA := below_keep hB0.drew hbA
  clear hB0 hz0 r0 r1 r2 f0 f1 f2 p0 p1 p2 q0 q1 q2
  go_wp2_with fail
  exact bodyPost_ret (v := .agg #[.int .i64 3, .int .i64 (b2i false), .string ⟨#[]⟩]) (by simp [results, Tryz.results41, go_sem, e0, e1, e2]) rfl ⟨rfl, below_set3 hBA (Nat.le_succ _) (Nat.le_succ _) (Nat.le_succ _)⟩

set_option maxHeartbeats 4000000 in
set_option maxRecDepth 100000 in
theorem apply_6b (b o n1 c1 : Nat) (vr : Value) (xa xb col : Int) (c : GVal) (k1 m1 k2 m2 : Int) (s1 s2 : ByteArray) (w : World) (hn : 1 < n1) (h63 : n1 ≤ 9223372036854775807) (h1 : (k1 != 0) = true) (h2 : k2 = 0)
    (p0 : w.cell? ⟨b, o, none⟩ = some (.int .i64 k1)) (p1 : w.cell? ⟨b, o + 1, none⟩ = some (.int .i64 m1)) (p2 : w.cell? ⟨b, o + 2, none⟩ = some (.string s1))
    (q0 : w.cell? ⟨b, o + 3, none⟩ = some (.int .i64 k2)) (q1 : w.cell? ⟨b, o + 3 + 1, none⟩ = some (.int .i64 m2)) (q2 : w.cell? ⟨b, o + 3 + 2, none⟩ = some (.string s2)) :
    Calls Tryz.prog 41 #[aggX ⟨6, xa, xb, col, c⟩, .slice (some ⟨b, o, none⟩) n1 c1, vr] w fun e w' => e = .returned (aggG (gbool false)) ∧ Below w.heap.size w w' := by
  have lb : b < w.heap.size := World.block_lt_of_cell? w _ p0
  have hn0 : 0 < n1 := by omega
  have hn1 : (1 : Int) ≤ (n1 : Int) - 1 := by omega
  have hn2 : (1 : Int) < (n1 : Int) := by omega
  have hn3 : ¬ (n1 : Int) ≤ 1 := by omega
  have hn4 : ¬ n1 ≤ 1 := by omega
  subst h2
  have HBL : ∀ W, Hid (Calls Tryz.prog 65 #[.bool false] W fun e w' => e = .returned (.agg #[.int .i64 3, .int .i64 (b2i false), .string ⟨#[]⟩]) ∧ Below W.heap.size W w') := fun W => boolean_ag _ W
  rw [aggG_bool]
  obtain ⟨ck, cn, cs⟩ := c
  unfold aggX
  dsimp only
  have hB0 := below_alloc_two w (.cells #[.int .i64 6, .int .i64 xa, .int .i64 xb, .int .i64 col, .int .i64 ck, .int .i64 cn, .string cs] 39) (.cells #[.int .i64 0, .int .i64 0, .string ⟨#[]⟩] 36)
  have hz0 : w.heap.size + 1 < ((w.alloc (.cells #[.int .i64 6, .int .i64 xa, .int .i64 xb, .int .i64 col, .int .i64 ck, .int .i64 cn, .string cs] 39)).alloc (.cells #[.int .i64 0, .int .i64 0, .string ⟨#[]⟩] 36)).heap.size := by simp
  obtain ⟨⟨r0, r1, r2⟩, f0, f1, f2⟩ := box_three (heap2_1 w (.cells #[.int .i64 6, .int .i64 xa, .int .i64 xb, .int .i64 col, .int .i64 ck, .int .i64 cn, .string cs] 39) (.cells #[.int .i64 0, .int .i64 0, .string ⟨#[]⟩] 36))
  replace r0 := vAt_of r0
  replace r1 := vAt_of r1
  replace r2 := vAt_of r2
  replace p0 := cell_keep hB0 p0
  replace p1 := cell_keep hB0 p1
  replace p2 := cell_keep hB0 p2
  replace q0 := cell_keep hB0 q0
  replace q1 := cell_keep hB0 q1
  replace q2 := cell_keep hB0 q2
  have lb2 : w.heap.size + 1 ≠ b := by omega
  go_enter Tryz.func41, Tryz.ntmps41
  go_wp2_with fail
  refine wp_region_held_drew (S := (fun W => Below w.heap.size w W ∧ w.heap.size + 1 < W.heap.size
      ∧ W.cell? ⟨b, o, none⟩ = some (.int .i64 k1) ∧ W.cell? ⟨b, o + 1, none⟩ = some (.int .i64 m1) ∧ W.cell? ⟨b, o + 2, none⟩ = some (.string s1)
      ∧ W.cell? ⟨b, o + 3, none⟩ = some (.int .i64 0) ∧ W.cell? ⟨b, o + 3 + 1, none⟩ = some (.int .i64 m2) ∧ W.cell? ⟨b, o + 3 + 2, none⟩ = some (.string s2)
      ∧ W.cell? ⟨w.heap.size + 1, 0, none⟩ = some (vAt W ⟨w.heap.size + 1, 0, none⟩) ∧ W.cell? ⟨w.heap.size + 1, 1, none⟩ = some (vAt W ⟨w.heap.size + 1, 1, none⟩) ∧ W.cell? ⟨w.heap.size + 1, 2, none⟩ = some (vAt W ⟨w.heap.size + 1, 2, none⟩)
      ∧ W.frozen? ⟨w.heap.size + 1, 0, none⟩ = false ∧ W.frozen? ⟨w.heap.size + 1, 1, none⟩ = false ∧ W.frozen? ⟨w.heap.size + 1, 2, none⟩ = false)) (by kernel_rfl) ?_ (fun hHeld => ?_)
  · (go_split_ands; refine ⟨?_, ?_, ?_, ?_, ?_, ?_, ?_, ?_, ?_, ?_, ?_, ?_, ?_, ?_⟩ <;> first | (with_reducible assumption) | with_reducible exact Below.drew (by assumption) | with_reducible exact size_drew (by assumption) | with_reducible exact cell_drew (by assumption) | with_reducible exact vAt_drew (by assumption) | with_reducible exact frozen_drew (by assumption) | with_reducible exact below_keep (by assumption) (by assumption) | with_reducible exact size_keep (by assumption) (by assumption) | with_reducible exact cell_keep (by assumption) (by assumption) | with_reducible exact vAt_keep (by assumption) (by assumption) | with_reducible exact frozen_keep (by assumption) (by assumption) (by assumption) | with_reducible exact below_set3 (by assumption) (by simp) (by simp) (by simp) | with_reducible exact size_set3 (by assumption) | with_reducible exact cell_set3 (by assumption) (by simp [*]) rfl rfl | with_reducible exact vAt_set3 (by assumption) | with_reducible exact frozen_set3 (by assumption))
  refine take_y (i := 0) (d := some 46) (v := ?_) rfl rfl (by kernel_rfl) (by kernel_rfl) (by kernel_rfl) (fun _ _ _ h => h) (by assumption) ?_ ?_
  rotate_left
  · intro oi ho
    simp only [List.getElem?_toArray, List.getElem?_cons_zero, Option.some.injEq] at ho
    subst ho
    intro w hSw
    (try dsimp only at hSw)
    go_simp
    (try with_reducible rfl)
  (try simp only [Act.put, List.setIfInBounds_toArray, List.set_cons_zero, List.set_cons_succ])
  refine take_y (i := 1) (d := some 47) (v := ?_) rfl rfl (by kernel_rfl) (by kernel_rfl) (by kernel_rfl) (fun _ _ _ h => h) (by assumption) ?_ ?_
  rotate_left
  · intro oi ho
    simp only [List.getElem?_toArray, List.getElem?_cons_succ, List.getElem?_cons_zero, Option.some.injEq] at ho
    subst ho
    intro w hSw
    (try dsimp only at hSw)
    go_simp
    (try with_reducible rfl)
  (try simp only [Act.put, List.setIfInBounds_toArray, List.set_cons_zero, List.set_cons_succ])
  refine take_y (i := 2) (d := some 48) (v := ?_) rfl rfl (by kernel_rfl) (by kernel_rfl) (by kernel_rfl) (fun _ _ _ h => h) (by assumption) ?_ ?_
  rotate_left
  · intro oi ho
    simp only [List.getElem?_toArray, List.getElem?_cons_succ, List.getElem?_cons_zero, Option.some.injEq] at ho
    subst ho
    intro w hSw
    (try dsimp only at hSw)
    go_simp
    (try with_reducible rfl)
  (try simp only [Act.put, List.setIfInBounds_toArray, List.set_cons_zero, List.set_cons_succ])
  refine take_y (i := 3) (d := some 49) (v := ?_) rfl rfl (by kernel_rfl) (by kernel_rfl) (by kernel_rfl) (fun _ _ _ h => h) (by assumption) ?_ ?_
  rotate_left
  · intro oi ho
    simp only [List.getElem?_toArray, List.getElem?_cons_succ, List.getElem?_cons_zero, Option.some.injEq] at ho
    subst ho
    intro w hSw
    (try dsimp only at hSw)
    go_simp
    (try with_reducible rfl)
  (try simp only [Act.put, List.setIfInBounds_toArray, List.set_cons_zero, List.set_cons_succ])
  refine take_y (i := 4) (d := some 50) (v := ?_) rfl rfl (by kernel_rfl) (by kernel_rfl) (by kernel_rfl) (fun _ _ _ h => h) (by assumption) ?_ ?_
  rotate_left
  · intro oi ho
    simp only [List.getElem?_toArray, List.getElem?_cons_succ, List.getElem?_cons_zero, Option.some.injEq] at ho
    subst ho
    intro w hSw
    (try dsimp only at hSw)
    go_simp
    (try with_reducible rfl)
  (try simp only [Act.put, List.setIfInBounds_toArray, List.set_cons_zero, List.set_cons_succ])
  refine take_y (i := 5) (d := some 51) (v := ?_) rfl rfl (by kernel_rfl) (by kernel_rfl) (by kernel_rfl) (fun _ _ _ h => h) (by assumption) ?_ ?_
  rotate_left
  · intro oi ho
    simp only [List.getElem?_toArray, List.getElem?_cons_succ, List.getElem?_cons_zero, Option.some.injEq] at ho
    subst ho
    intro w hSw
    (try dsimp only at hSw)
    go_simp
    (try with_reducible rfl)
  (try simp only [Act.put, List.setIfInBounds_toArray, List.set_cons_zero, List.set_cons_succ])
  refine take_y (i := 6) (d := some 52) (v := ?_) rfl rfl (by kernel_rfl) (by kernel_rfl) (by kernel_rfl) (fun _ _ _ h => h) (by assumption) ?_ ?_
  rotate_left
  · intro oi ho
    simp only [List.getElem?_toArray, List.getElem?_cons_succ, List.getElem?_cons_zero, Option.some.injEq] at ho
    subst ho
    intro w hSw
    (try dsimp only at hSw)
    go_simp
    (try with_reducible rfl)
  (try simp only [Act.put, List.setIfInBounds_toArray, List.set_cons_zero, List.set_cons_succ])
  refine take_y (i := 7) (d := some 53) (v := ?_) rfl rfl (by kernel_rfl) (by kernel_rfl) (by kernel_rfl) (fun _ _ _ h => h) (by assumption) ?_ ?_
  rotate_left
  · intro oi ho
    simp only [List.getElem?_toArray, List.getElem?_cons_succ, List.getElem?_cons_zero, Option.some.injEq] at ho
    subst ho
    intro w hSw
    (try dsimp only at hSw)
    go_simp
    (try with_reducible rfl)
  (try simp only [Act.put, List.setIfInBounds_toArray, List.set_cons_zero, List.set_cons_succ])
  refine take_y (i := 8) (d := some 54) (v := ?_) rfl rfl (by kernel_rfl) (by kernel_rfl) (by kernel_rfl) (fun _ _ _ h => h) (by assumption) ?_ ?_
  rotate_left
  · intro oi ho
    simp only [List.getElem?_toArray, List.getElem?_cons_succ, List.getElem?_cons_zero, Option.some.injEq] at ho
    subst ho
    intro w hSw
    (try dsimp only at hSw)
    go_simp
    (try with_reducible rfl)
  (try simp only [Act.put, List.setIfInBounds_toArray, List.set_cons_zero, List.set_cons_succ])
  refine take_y (i := 9) (d := some 55) (v := ?_) rfl rfl (by kernel_rfl) (by kernel_rfl) (by kernel_rfl) (fun _ _ _ h => h) (by assumption) ?_ ?_
  rotate_left
  · intro oi ho
    simp only [List.getElem?_toArray, List.getElem?_cons_succ, List.getElem?_cons_zero, Option.some.injEq] at ho
    subst ho
    intro w hSw
    (try dsimp only at hSw)
    go_simp
    (try with_reducible rfl)
  (try simp only [Act.put, List.setIfInBounds_toArray, List.set_cons_zero, List.set_cons_succ])
  refine take_y (i := 10) (d := some 56) (v := ?_) rfl rfl (by kernel_rfl) (by kernel_rfl) (by kernel_rfl) (fun _ _ _ h => h) (by assumption) ?_ ?_
  rotate_left
  · intro oi ho
    simp only [List.getElem?_toArray, List.getElem?_cons_succ, List.getElem?_cons_zero, Option.some.injEq] at ho
    subst ho
    intro w hSw
    (try dsimp only at hSw)
    go_simp
    (try with_reducible rfl)
  (try simp only [Act.put, List.setIfInBounds_toArray, List.set_cons_zero, List.set_cons_succ])
  refine take_y (i := 11) (d := some 57) (v := ?_) rfl rfl (by kernel_rfl) (by kernel_rfl) (by kernel_rfl) (fun _ _ _ h => h) (by assumption) ?_ ?_
  rotate_left
  · intro oi ho
    simp only [List.getElem?_toArray, List.getElem?_cons_succ, List.getElem?_cons_zero, Option.some.injEq] at ho
    subst ho
    intro w hSw
    (try dsimp only at hSw)
    go_simp
    (try with_reducible rfl)
  (try simp only [Act.put, List.setIfInBounds_toArray, List.set_cons_zero, List.set_cons_succ])
  refine take_y (i := 12) (d := some 58) (v := ?_) rfl rfl (by kernel_rfl) (by kernel_rfl) (by kernel_rfl) (fun _ _ _ h => h) (by assumption) ?_ ?_
  rotate_left
  · intro oi ho
    simp only [List.getElem?_toArray, List.getElem?_cons_succ, List.getElem?_cons_zero, Option.some.injEq] at ho
    subst ho
    intro w hSw
    (try dsimp only at hSw)
    go_simp
    (try with_reducible rfl)
  (try simp only [Act.put, List.setIfInBounds_toArray, List.set_cons_zero, List.set_cons_succ])
  refine take_n (i := 13) (d := some 59) rfl rfl (by kernel_rfl) (by kernel_rfl) (by kernel_rfl) (fun _ _ _ h => h) (by assumption) ?_
  (try simp only [Act.put, List.setIfInBounds_toArray, List.set_cons_zero, List.set_cons_succ])
  refine take_n (i := 14) (d := some 60) rfl rfl (by kernel_rfl) (by kernel_rfl) (by kernel_rfl) (fun _ _ _ h => h) (by assumption) ?_
  (try simp only [Act.put, List.setIfInBounds_toArray, List.set_cons_zero, List.set_cons_succ])
  refine take_n (i := 15) (d := some 61) rfl rfl (by kernel_rfl) (by kernel_rfl) (by kernel_rfl) (fun _ _ _ h => h) (by assumption) ?_
  (try simp only [Act.put, List.setIfInBounds_toArray, List.set_cons_zero, List.set_cons_succ])
  refine take_n (i := 16) (d := some 62) rfl rfl (by kernel_rfl) (by kernel_rfl) (by kernel_rfl) (fun _ _ _ h => h) (by assumption) ?_
  (try simp only [Act.put, List.setIfInBounds_toArray, List.set_cons_zero, List.set_cons_succ])
  refine take_n (i := 17) (d := some 63) rfl rfl (by kernel_rfl) (by kernel_rfl) (by kernel_rfl) (fun _ _ _ h => h) (by assumption) ?_
  (try simp only [Act.put, List.setIfInBounds_toArray, List.set_cons_zero, List.set_cons_succ])
  refine take_n (i := 18) (d := some 64) rfl rfl (by kernel_rfl) (by kernel_rfl) (by kernel_rfl) (fun _ _ _ h => h) (by assumption) ?_
  (try simp only [Act.put, List.setIfInBounds_toArray, List.set_cons_zero, List.set_cons_succ])
  refine take_n (i := 19) (d := some 65) rfl rfl (by kernel_rfl) (by kernel_rfl) (by kernel_rfl) (fun _ _ _ h => h) (by assumption) ?_
  (try simp only [Act.put, List.setIfInBounds_toArray, List.set_cons_zero, List.set_cons_succ])
  refine take_n (i := 20) (d := some 66) rfl rfl (by kernel_rfl) (by kernel_rfl) (by kernel_rfl) (fun _ _ _ h => h) (by assumption) ?_
  (try simp only [Act.put, List.setIfInBounds_toArray, List.set_cons_zero, List.set_cons_succ])
  refine take_y (i := 21) (d := some 67) (v := ?_) rfl rfl (by kernel_rfl) (by kernel_rfl) (by kernel_rfl) (fun _ _ _ h => h) (by assumption) ?_ ?_
  rotate_left
  · intro oi ho
    simp only [List.getElem?_toArray, List.getElem?_cons_succ, List.getElem?_cons_zero, Option.some.injEq] at ho
    subst ho
    intro w hSw
    (try dsimp only at hSw)
    go_simp
    (try with_reducible rfl)
  (try simp only [Act.put, List.setIfInBounds_toArray, List.set_cons_zero, List.set_cons_succ])
  refine wpAnyH_ready (rs := [22]) (by kernel_rfl) (by simp) ?_
  refine AllReadyH.cons rfl (fun K hK => ?_) AllReadyH.nil
  go_simp
  (go_at_call 65; refine (HBL _).out.mono ?_; rintro e wA ⟨rfl, hbA⟩)
  refine hK.out _ _ ?_ (fun hHeld => ?_)
  · (try dsimp only)
    (go_split_ands; refine ⟨?_, ?_, ?_, ?_, ?_, ?_, ?_, ?_, ?_, ?_, ?_, ?_, ?_, ?_⟩ <;> first | (with_reducible assumption) | with_reducible exact Below.drew (by assumption) | with_reducible exact size_drew (by assumption) | with_reducible exact cell_drew (by assumption) | with_reducible exact vAt_drew (by assumption) | with_reducible exact frozen_drew (by assumption) | with_reducible exact below_keep (by assumption) (by assumption) | with_reducible exact size_keep (by assumption) (by assumption) | with_reducible exact cell_keep (by assumption) (by assumption) | with_reducible exact vAt_keep (by assumption) (by assumption) | with_reducible exact frozen_keep (by assumption) (by assumption) (by assumption) | with_reducible exact below_set3 (by assumption) (by simp) (by simp) (by simp) | with_reducible exact size_set3 (by assumption) | with_reducible exact cell_set3 (by assumption) (by simp [*]) rfl rfl | with_reducible exact vAt_set3 (by assumption) | with_reducible exact frozen_set3 (by assumption))
  clear hK K
  (try simp only [Act.put, List.setIfInBounds_toArray, List.set_cons_zero, List.set_cons_succ])
  refine wpAnyH_ready (rs := [23]) (by kernel_rfl) (by simp) ?_
  refine AllReadyH.cons rfl (fun K hK => ?_) AllReadyH.nil
  go_simp
  refine hK.out _ _ ?_ (fun hHeld => ?_)
  · (try dsimp only)
    (go_split_ands; refine ⟨?_, ?_, ?_, ?_, ?_, ?_, ?_, ?_, ?_, ?_, ?_, ?_, ?_, ?_⟩ <;> first | (with_reducible assumption) | with_reducible exact Below.drew (by assumption) | with_reducible exact size_drew (by assumption) | with_reducible exact cell_drew (by assumption) | with_reducible exact vAt_drew (by assumption) | with_reducible exact frozen_drew (by assumption) | with_reducible exact below_keep (by assumption) (by assumption) | with_reducible exact size_keep (by assumption) (by assumption) | with_reducible exact cell_keep (by assumption) (by assumption) | with_reducible exact vAt_keep (by assumption) (by assumption) | with_reducible exact frozen_keep (by assumption) (by assumption) (by assumption) | with_reducible exact below_set3 (by assumption) (by simp) (by simp) (by simp) | with_reducible exact size_set3 (by assumption) | with_reducible exact cell_set3 (by assumption) (by simp [*]) rfl rfl | with_reducible exact vAt_set3 (by assumption) | with_reducible exact frozen_set3 (by assumption))
  clear hK K
  (try simp only [Act.put, List.setIfInBounds_toArray, List.set_cons_zero, List.set_cons_succ])
  refine wpAnyH_done (by kernel_rfl) ?_ _
  obtain ⟨⟨e0, e1, e2⟩, _⟩ := box_three (box_kept (heap2_1d w _ _) hbA)
  have hzA : w.heap.size + 1 < wA.heap.size := size_keep hbA (size_drew hz0)
  have hBA := below_keep hB0.drew hbA
  clear hB0 hz0 r0 r1 r2 f0 f1 f2 p0 p1 p2 q0 q1 q2
  go_wp2_with fail
  exact bodyPost_ret (v := .agg #[.int .i64 3, .int .i64 (b2i false), .string ⟨#[]⟩]) (by simp [results, Tryz.results41, go_sem, e0, e1, e2]) rfl ⟨rfl, below_set3 hBA (Nat.le_succ _) (Nat.le_succ _) (Nat.le_succ _)⟩

set_option maxHeartbeats 4000000 in
set_option maxRecDepth 100000 in
theorem apply_6c (b o n1 c1 : Nat) (vr : Value) (xa xb col : Int) (c : GVal) (k1 m1 k2 m2 : Int) (s1 s2 : ByteArray) (w : World) (hn : 1 < n1) (h63 : n1 ≤ 9223372036854775807) (h1 : (k1 != 0) = true) (h2 : (k2 != 0) = true)
    (p0 : w.cell? ⟨b, o, none⟩ = some (.int .i64 k1)) (p1 : w.cell? ⟨b, o + 1, none⟩ = some (.int .i64 m1)) (p2 : w.cell? ⟨b, o + 2, none⟩ = some (.string s1))
    (q0 : w.cell? ⟨b, o + 3, none⟩ = some (.int .i64 k2)) (q1 : w.cell? ⟨b, o + 3 + 1, none⟩ = some (.int .i64 m2)) (q2 : w.cell? ⟨b, o + 3 + 2, none⟩ = some (.string s2)) :
    Calls Tryz.prog 41 #[aggX ⟨6, xa, xb, col, c⟩, .slice (some ⟨b, o, none⟩) n1 c1, vr] w fun e w' => e = .returned (aggG (gbool (cmpG ⟨k1, m1, s1⟩ ⟨k2, m2, s2⟩ == 0))) ∧ Below w.heap.size w w' := by
  have lb : b < w.heap.size := World.block_lt_of_cell? w _ p0
  have hn0 : 0 < n1 := by omega
  have hn1 : (1 : Int) ≤ (n1 : Int) - 1 := by omega
  have hn2 : (1 : Int) < (n1 : Int) := by omega
  have hn3 : ¬ (n1 : Int) ≤ 1 := by omega
  have hn4 : ¬ n1 ≤ 1 := by omega
  have HC : ∀ W, Hid (Calls Tryz.prog 66 #[.agg #[.int .i64 k1, .int .i64 m1, .string s1], .agg #[.int .i64 k2, .int .i64 m2, .string s2]] W fun e w' => e = .returned (.int .i64 (cmpG ⟨k1, m1, s1⟩ ⟨k2, m2, s2⟩)) ∧ Below W.heap.size W w') := fun W => valCmp_any ⟨k1, m1, s1⟩ ⟨k2, m2, s2⟩ W
  generalize cmpG ⟨k1, m1, s1⟩ ⟨k2, m2, s2⟩ = x at HC ⊢
  have HBL : ∀ W, Hid (Calls Tryz.prog 65 #[.bool (x == 0)] W fun e w' => e = .returned (.agg #[.int .i64 3, .int .i64 (b2i (x == 0)), .string ⟨#[]⟩]) ∧ Below W.heap.size W w') := fun W => boolean_ag _ W
  rw [aggG_bool]
  obtain ⟨r, hr⟩ : ∃ r, r = b2i (x == 0) := ⟨_, rfl⟩
  rw [← hr] at HBL ⊢
  clear hr
  obtain ⟨ck, cn, cs⟩ := c
  unfold aggX
  dsimp only
  have hB0 := below_alloc_two w (.cells #[.int .i64 6, .int .i64 xa, .int .i64 xb, .int .i64 col, .int .i64 ck, .int .i64 cn, .string cs] 39) (.cells #[.int .i64 0, .int .i64 0, .string ⟨#[]⟩] 36)
  have hz0 : w.heap.size + 1 < ((w.alloc (.cells #[.int .i64 6, .int .i64 xa, .int .i64 xb, .int .i64 col, .int .i64 ck, .int .i64 cn, .string cs] 39)).alloc (.cells #[.int .i64 0, .int .i64 0, .string ⟨#[]⟩] 36)).heap.size := by simp
  obtain ⟨⟨r0, r1, r2⟩, f0, f1, f2⟩ := box_three (heap2_1 w (.cells #[.int .i64 6, .int .i64 xa, .int .i64 xb, .int .i64 col, .int .i64 ck, .int .i64 cn, .string cs] 39) (.cells #[.int .i64 0, .int .i64 0, .string ⟨#[]⟩] 36))
  replace r0 := vAt_of r0
  replace r1 := vAt_of r1
  replace r2 := vAt_of r2
  replace p0 := cell_keep hB0 p0
  replace p1 := cell_keep hB0 p1
  replace p2 := cell_keep hB0 p2
  replace q0 := cell_keep hB0 q0
  replace q1 := cell_keep hB0 q1
  replace q2 := cell_keep hB0 q2
  have lb2 : w.heap.size + 1 ≠ b := by omega
  go_enter Tryz.func41, Tryz.ntmps41
  go_wp2_with fail
  refine wp_region_held_drew (S := (fun W => Below w.heap.size w W ∧ w.heap.size + 1 < W.heap.size
      ∧ W.cell? ⟨b, o, none⟩ = some (.int .i64 k1) ∧ W.cell? ⟨b, o + 1, none⟩ = some (.int .i64 m1) ∧ W.cell? ⟨b, o + 2, none⟩ = some (.string s1)
      ∧ W.cell? ⟨b, o + 3, none⟩ = some (.int .i64 k2) ∧ W.cell? ⟨b, o + 3 + 1, none⟩ = some (.int .i64 m2) ∧ W.cell? ⟨b, o + 3 + 2, none⟩ = some (.string s2)
      ∧ W.cell? ⟨w.heap.size + 1, 0, none⟩ = some (vAt W ⟨w.heap.size + 1, 0, none⟩) ∧ W.cell? ⟨w.heap.size + 1, 1, none⟩ = some (vAt W ⟨w.heap.size + 1, 1, none⟩) ∧ W.cell? ⟨w.heap.size + 1, 2, none⟩ = some (vAt W ⟨w.heap.size + 1, 2, none⟩)
      ∧ W.frozen? ⟨w.heap.size + 1, 0, none⟩ = false ∧ W.frozen? ⟨w.heap.size + 1, 1, none⟩ = false ∧ W.frozen? ⟨w.heap.size + 1, 2, none⟩ = false)) (by kernel_rfl) ?_ (fun hHeld => ?_)
  · (go_split_ands; refine ⟨?_, ?_, ?_, ?_, ?_, ?_, ?_, ?_, ?_, ?_, ?_, ?_, ?_, ?_⟩ <;> first | (with_reducible assumption) | with_reducible exact Below.drew (by assumption) | with_reducible exact size_drew (by assumption) | with_reducible exact cell_drew (by assumption) | with_reducible exact vAt_drew (by assumption) | with_reducible exact frozen_drew (by assumption) | with_reducible exact below_keep (by assumption) (by assumption) | with_reducible exact size_keep (by assumption) (by assumption) | with_reducible exact cell_keep (by assumption) (by assumption) | with_reducible exact vAt_keep (by assumption) (by assumption) | with_reducible exact frozen_keep (by assumption) (by assumption) (by assumption) | with_reducible exact below_set3 (by assumption) (by simp) (by simp) (by simp) | with_reducible exact size_set3 (by assumption) | with_reducible exact cell_set3 (by assumption) (by simp [*]) rfl rfl | with_reducible exact vAt_set3 (by assumption) | with_reducible exact frozen_set3 (by assumption))
  refine take_y (i := 0) (d := some 46) (v := ?_) rfl rfl (by kernel_rfl) (by kernel_rfl) (by kernel_rfl) (fun _ _ _ h => h) (by assumption) ?_ ?_
  rotate_left
  · intro oi ho
    simp only [List.getElem?_toArray, List.getElem?_cons_zero, Option.some.injEq] at ho
    subst ho
    intro w hSw
    (try dsimp only at hSw)
    go_simp
    (try with_reducible rfl)
  (try simp only [Act.put, List.setIfInBounds_toArray, List.set_cons_zero, List.set_cons_succ])
  refine take_y (i := 1) (d := some 47) (v := ?_) rfl rfl (by kernel_rfl) (by kernel_rfl) (by kernel_rfl) (fun _ _ _ h => h) (by assumption) ?_ ?_
  rotate_left
  · intro oi ho
    simp only [List.getElem?_toArray, List.getElem?_cons_succ, List.getElem?_cons_zero, Option.some.injEq] at ho
    subst ho
    intro w hSw
    (try dsimp only at hSw)
    go_simp
    (try with_reducible rfl)
  (try simp only [Act.put, List.setIfInBounds_toArray, List.set_cons_zero, List.set_cons_succ])
  refine take_y (i := 2) (d := some 48) (v := ?_) rfl rfl (by kernel_rfl) (by kernel_rfl) (by kernel_rfl) (fun _ _ _ h => h) (by assumption) ?_ ?_
  rotate_left
  · intro oi ho
    simp only [List.getElem?_toArray, List.getElem?_cons_succ, List.getElem?_cons_zero, Option.some.injEq] at ho
    subst ho
    intro w hSw
    (try dsimp only at hSw)
    go_simp
    (try with_reducible rfl)
  (try simp only [Act.put, List.setIfInBounds_toArray, List.set_cons_zero, List.set_cons_succ])
  refine take_y (i := 3) (d := some 49) (v := ?_) rfl rfl (by kernel_rfl) (by kernel_rfl) (by kernel_rfl) (fun _ _ _ h => h) (by assumption) ?_ ?_
  rotate_left
  · intro oi ho
    simp only [List.getElem?_toArray, List.getElem?_cons_succ, List.getElem?_cons_zero, Option.some.injEq] at ho
    subst ho
    intro w hSw
    (try dsimp only at hSw)
    go_simp
    (try with_reducible rfl)
  (try simp only [Act.put, List.setIfInBounds_toArray, List.set_cons_zero, List.set_cons_succ])
  refine take_y (i := 4) (d := some 50) (v := ?_) rfl rfl (by kernel_rfl) (by kernel_rfl) (by kernel_rfl) (fun _ _ _ h => h) (by assumption) ?_ ?_
  rotate_left
  · intro oi ho
    simp only [List.getElem?_toArray, List.getElem?_cons_succ, List.getElem?_cons_zero, Option.some.injEq] at ho
    subst ho
    intro w hSw
    (try dsimp only at hSw)
    go_simp
    (try with_reducible rfl)
  (try simp only [Act.put, List.setIfInBounds_toArray, List.set_cons_zero, List.set_cons_succ])
  refine take_y (i := 5) (d := some 51) (v := ?_) rfl rfl (by kernel_rfl) (by kernel_rfl) (by kernel_rfl) (fun _ _ _ h => h) (by assumption) ?_ ?_
  rotate_left
  · intro oi ho
    simp only [List.getElem?_toArray, List.getElem?_cons_succ, List.getElem?_cons_zero, Option.some.injEq] at ho
    subst ho
    intro w hSw
    (try dsimp only at hSw)
    go_simp
    (try with_reducible rfl)
  (try simp only [Act.put, List.setIfInBounds_toArray, List.set_cons_zero, List.set_cons_succ])
  refine take_y (i := 6) (d := some 52) (v := ?_) rfl rfl (by kernel_rfl) (by kernel_rfl) (by kernel_rfl) (fun _ _ _ h => h) (by assumption) ?_ ?_
  rotate_left
  · intro oi ho
    simp only [List.getElem?_toArray, List.getElem?_cons_succ, List.getElem?_cons_zero, Option.some.injEq] at ho
    subst ho
    intro w hSw
    (try dsimp only at hSw)
    go_simp
    (try with_reducible rfl)
  (try simp only [Act.put, List.setIfInBounds_toArray, List.set_cons_zero, List.set_cons_succ])
  refine take_y (i := 7) (d := some 53) (v := ?_) rfl rfl (by kernel_rfl) (by kernel_rfl) (by kernel_rfl) (fun _ _ _ h => h) (by assumption) ?_ ?_
  rotate_left
  · intro oi ho
    simp only [List.getElem?_toArray, List.getElem?_cons_succ, List.getElem?_cons_zero, Option.some.injEq] at ho
    subst ho
    intro w hSw
    (try dsimp only at hSw)
    go_simp
    (try with_reducible rfl)
  (try simp only [Act.put, List.setIfInBounds_toArray, List.set_cons_zero, List.set_cons_succ])
  refine take_y (i := 8) (d := some 54) (v := ?_) rfl rfl (by kernel_rfl) (by kernel_rfl) (by kernel_rfl) (fun _ _ _ h => h) (by assumption) ?_ ?_
  rotate_left
  · intro oi ho
    simp only [List.getElem?_toArray, List.getElem?_cons_succ, List.getElem?_cons_zero, Option.some.injEq] at ho
    subst ho
    intro w hSw
    (try dsimp only at hSw)
    go_simp
    (try with_reducible rfl)
  (try simp only [Act.put, List.setIfInBounds_toArray, List.set_cons_zero, List.set_cons_succ])
  refine take_y (i := 9) (d := some 55) (v := ?_) rfl rfl (by kernel_rfl) (by kernel_rfl) (by kernel_rfl) (fun _ _ _ h => h) (by assumption) ?_ ?_
  rotate_left
  · intro oi ho
    simp only [List.getElem?_toArray, List.getElem?_cons_succ, List.getElem?_cons_zero, Option.some.injEq] at ho
    subst ho
    intro w hSw
    (try dsimp only at hSw)
    go_simp
    (try with_reducible rfl)
  (try simp only [Act.put, List.setIfInBounds_toArray, List.set_cons_zero, List.set_cons_succ])
  refine take_y (i := 10) (d := some 56) (v := ?_) rfl rfl (by kernel_rfl) (by kernel_rfl) (by kernel_rfl) (fun _ _ _ h => h) (by assumption) ?_ ?_
  rotate_left
  · intro oi ho
    simp only [List.getElem?_toArray, List.getElem?_cons_succ, List.getElem?_cons_zero, Option.some.injEq] at ho
    subst ho
    intro w hSw
    (try dsimp only at hSw)
    go_simp
    (try with_reducible rfl)
  (try simp only [Act.put, List.setIfInBounds_toArray, List.set_cons_zero, List.set_cons_succ])
  refine take_y (i := 11) (d := some 57) (v := ?_) rfl rfl (by kernel_rfl) (by kernel_rfl) (by kernel_rfl) (fun _ _ _ h => h) (by assumption) ?_ ?_
  rotate_left
  · intro oi ho
    simp only [List.getElem?_toArray, List.getElem?_cons_succ, List.getElem?_cons_zero, Option.some.injEq] at ho
    subst ho
    intro w hSw
    (try dsimp only at hSw)
    go_simp
    (try with_reducible rfl)
  (try simp only [Act.put, List.setIfInBounds_toArray, List.set_cons_zero, List.set_cons_succ])
  refine take_y (i := 12) (d := some 58) (v := ?_) rfl rfl (by kernel_rfl) (by kernel_rfl) (by kernel_rfl) (fun _ _ _ h => h) (by assumption) ?_ ?_
  rotate_left
  · intro oi ho
    simp only [List.getElem?_toArray, List.getElem?_cons_succ, List.getElem?_cons_zero, Option.some.injEq] at ho
    subst ho
    intro w hSw
    (try dsimp only at hSw)
    go_simp
    (try with_reducible rfl)
  (try simp only [Act.put, List.setIfInBounds_toArray, List.set_cons_zero, List.set_cons_succ])
  refine take_y (i := 13) (d := some 59) (v := ?_) rfl rfl (by kernel_rfl) (by kernel_rfl) (by kernel_rfl) (fun _ _ _ h => h) (by assumption) ?_ ?_
  rotate_left
  · intro oi ho
    simp only [List.getElem?_toArray, List.getElem?_cons_succ, List.getElem?_cons_zero, Option.some.injEq] at ho
    subst ho
    intro w hSw
    (try dsimp only at hSw)
    go_simp
    (try with_reducible rfl)
  (try simp only [Act.put, List.setIfInBounds_toArray, List.set_cons_zero, List.set_cons_succ])
  refine take_y (i := 14) (d := some 60) (v := ?_) rfl rfl (by kernel_rfl) (by kernel_rfl) (by kernel_rfl) (fun _ _ _ h => h) (by assumption) ?_ ?_
  rotate_left
  · intro oi ho
    simp only [List.getElem?_toArray, List.getElem?_cons_succ, List.getElem?_cons_zero, Option.some.injEq] at ho
    subst ho
    intro w hSw
    (try dsimp only at hSw)
    go_simp
    (try with_reducible rfl)
  (try simp only [Act.put, List.setIfInBounds_toArray, List.set_cons_zero, List.set_cons_succ])
  refine take_y (i := 15) (d := some 61) (v := ?_) rfl rfl (by kernel_rfl) (by kernel_rfl) (by kernel_rfl) (fun _ _ _ h => h) (by assumption) ?_ ?_
  rotate_left
  · intro oi ho
    simp only [List.getElem?_toArray, List.getElem?_cons_succ, List.getElem?_cons_zero, Option.some.injEq] at ho
    subst ho
    intro w hSw
    (try dsimp only at hSw)
    go_simp
    (try with_reducible rfl)
  (try simp only [Act.put, List.setIfInBounds_toArray, List.set_cons_zero, List.set_cons_succ])
  refine take_y (i := 16) (d := some 62) (v := ?_) rfl rfl (by kernel_rfl) (by kernel_rfl) (by kernel_rfl) (fun _ _ _ h => h) (by assumption) ?_ ?_
  rotate_left
  · intro oi ho
    simp only [List.getElem?_toArray, List.getElem?_cons_succ, List.getElem?_cons_zero, Option.some.injEq] at ho
    subst ho
    intro w hSw
    (try dsimp only at hSw)
    go_simp
    (try with_reducible rfl)
  (try simp only [Act.put, List.setIfInBounds_toArray, List.set_cons_zero, List.set_cons_succ])
  refine take_y (i := 17) (d := some 63) (v := ?_) rfl rfl (by kernel_rfl) (by kernel_rfl) (by kernel_rfl) (fun _ _ _ h => h) (by assumption) ?_ ?_
  rotate_left
  · intro oi ho
    simp only [List.getElem?_toArray, List.getElem?_cons_succ, List.getElem?_cons_zero, Option.some.injEq] at ho
    subst ho
    intro w hSw
    (try dsimp only at hSw)
    go_simp
    (try with_reducible rfl)
  (try simp only [Act.put, List.setIfInBounds_toArray, List.set_cons_zero, List.set_cons_succ])
  refine take_y (i := 18) (d := some 64) (v := ?_) rfl rfl (by kernel_rfl) (by kernel_rfl) (by kernel_rfl) (fun _ _ _ h => h) (by assumption) ?_ ?_
  rotate_left
  · intro oi ho
    simp only [List.getElem?_toArray, List.getElem?_cons_succ, List.getElem?_cons_zero, Option.some.injEq] at ho
    subst ho
    intro w hSw
    (try dsimp only at hSw)
    go_simp
    (try with_reducible rfl)
  (try simp only [Act.put, List.setIfInBounds_toArray, List.set_cons_zero, List.set_cons_succ])
  refine wpAnyH_ready (rs := [19]) (by kernel_rfl) (by simp) ?_
  refine AllReadyH.cons rfl (fun K hK => ?_) AllReadyH.nil
  go_simp
  (go_at_call 66; refine (HC _).out.mono ?_; rintro e wC ⟨rfl, hbC⟩)
  refine hK.out _ _ ?_ (fun hHeld => ?_)
  · (try dsimp only)
    (go_split_ands; refine ⟨?_, ?_, ?_, ?_, ?_, ?_, ?_, ?_, ?_, ?_, ?_, ?_, ?_, ?_⟩ <;> first | (with_reducible assumption) | with_reducible exact Below.drew (by assumption) | with_reducible exact size_drew (by assumption) | with_reducible exact cell_drew (by assumption) | with_reducible exact vAt_drew (by assumption) | with_reducible exact frozen_drew (by assumption) | with_reducible exact below_keep (by assumption) (by assumption) | with_reducible exact size_keep (by assumption) (by assumption) | with_reducible exact cell_keep (by assumption) (by assumption) | with_reducible exact vAt_keep (by assumption) (by assumption) | with_reducible exact frozen_keep (by assumption) (by assumption) (by assumption) | with_reducible exact below_set3 (by assumption) (by simp) (by simp) (by simp) | with_reducible exact size_set3 (by assumption) | with_reducible exact cell_set3 (by assumption) (by simp [*]) rfl rfl | with_reducible exact vAt_set3 (by assumption) | with_reducible exact frozen_set3 (by assumption))
  clear hK K
  (try simp only [Act.put, List.setIfInBounds_toArray, List.set_cons_zero, List.set_cons_succ])
  refine take_y (i := 20) (d := some 66) (v := ?_) rfl rfl (by kernel_rfl) (by kernel_rfl) (by kernel_rfl) (fun _ _ _ h => h) (by assumption) ?_ ?_
  rotate_left
  · intro oi ho
    simp only [List.getElem?_toArray, List.getElem?_cons_succ, List.getElem?_cons_zero, Option.some.injEq] at ho
    subst ho
    intro w hSw
    (try dsimp only at hSw)
    go_simp
    (try with_reducible rfl)
  (try simp only [Act.put, List.setIfInBounds_toArray, List.set_cons_zero, List.set_cons_succ])
  refine take_y (i := 21) (d := some 67) (v := ?_) rfl rfl (by kernel_rfl) (by kernel_rfl) (by kernel_rfl) (fun _ _ _ h => h) (by assumption) ?_ ?_
  rotate_left
  · intro oi ho
    simp only [List.getElem?_toArray, List.getElem?_cons_succ, List.getElem?_cons_zero, Option.some.injEq] at ho
    subst ho
    intro w hSw
    (try dsimp only at hSw)
    go_simp
    (try with_reducible rfl)
  (try simp only [Act.put, List.setIfInBounds_toArray, List.set_cons_zero, List.set_cons_succ])
  refine wpAnyH_ready (rs := [22]) (by kernel_rfl) (by simp) ?_
  refine AllReadyH.cons rfl (fun K hK => ?_) AllReadyH.nil
  go_simp
  (go_at_call 65; refine (HBL _).out.mono ?_; rintro e wA ⟨rfl, hbA⟩)
  refine hK.out _ _ ?_ (fun hHeld => ?_)
  · (try dsimp only)
    (go_split_ands; refine ⟨?_, ?_, ?_, ?_, ?_, ?_, ?_, ?_, ?_, ?_, ?_, ?_, ?_, ?_⟩ <;> first | (with_reducible assumption) | with_reducible exact Below.drew (by assumption) | with_reducible exact size_drew (by assumption) | with_reducible exact cell_drew (by assumption) | with_reducible exact vAt_drew (by assumption) | with_reducible exact frozen_drew (by assumption) | with_reducible exact below_keep (by assumption) (by assumption) | with_reducible exact size_keep (by assumption) (by assumption) | with_reducible exact cell_keep (by assumption) (by assumption) | with_reducible exact vAt_keep (by assumption) (by assumption) | with_reducible exact frozen_keep (by assumption) (by assumption) (by assumption) | with_reducible exact below_set3 (by assumption) (by simp) (by simp) (by simp) | with_reducible exact size_set3 (by assumption) | with_reducible exact cell_set3 (by assumption) (by simp [*]) rfl rfl | with_reducible exact vAt_set3 (by assumption) | with_reducible exact frozen_set3 (by assumption))
  clear hK K
  (try simp only [Act.put, List.setIfInBounds_toArray, List.set_cons_zero, List.set_cons_succ])
  refine wpAnyH_ready (rs := [23]) (by kernel_rfl) (by simp) ?_
  refine AllReadyH.cons rfl (fun K hK => ?_) AllReadyH.nil
  go_simp
  refine hK.out _ _ ?_ (fun hHeld => ?_)
  · (try dsimp only)
    (go_split_ands; refine ⟨?_, ?_, ?_, ?_, ?_, ?_, ?_, ?_, ?_, ?_, ?_, ?_, ?_, ?_⟩ <;> first | (with_reducible assumption) | with_reducible exact Below.drew (by assumption) | with_reducible exact size_drew (by assumption) | with_reducible exact cell_drew (by assumption) | with_reducible exact vAt_drew (by assumption) | with_reducible exact frozen_drew (by assumption) | with_reducible exact below_keep (by assumption) (by assumption) | with_reducible exact size_keep (by assumption) (by assumption) | with_reducible exact cell_keep (by assumption) (by assumption) | with_reducible exact vAt_keep (by assumption) (by assumption) | with_reducible exact frozen_keep (by assumption) (by assumption) (by assumption) | with_reducible exact below_set3 (by assumption) (by simp) (by simp) (by simp) | with_reducible exact size_set3 (by assumption) | with_reducible exact cell_set3 (by assumption) (by simp [*]) rfl rfl | with_reducible exact vAt_set3 (by assumption) | with_reducible exact frozen_set3 (by assumption))
  clear hK K
  (try simp only [Act.put, List.setIfInBounds_toArray, List.set_cons_zero, List.set_cons_succ])
  refine wpAnyH_done (by kernel_rfl) ?_ _
  obtain ⟨⟨e0, e1, e2⟩, _⟩ := box_three (box_kept (box_kept (heap2_1d w _ _) hbC) hbA)
  have hzA : w.heap.size + 1 < wA.heap.size := size_keep hbA (size_keep hbC (size_drew hz0))
  have hBA := below_keep (below_keep hB0.drew hbC) hbA
  clear hB0 hz0 r0 r1 r2 f0 f1 f2 p0 p1 p2 q0 q1 q2
  go_wp2_with fail
  exact bodyPost_ret (v := .agg #[.int .i64 3, .int .i64 r, .string ⟨#[]⟩]) (by simp [results, Tryz.results41, go_sem, e0, e1, e2]) rfl ⟨rfl, below_set3 hBA (Nat.le_succ _) (Nat.le_succ _) (Nat.le_succ _)⟩

set_option maxHeartbeats 4000000 in
set_option maxRecDepth 100000 in
theorem apply_7a (b o n1 c1 : Nat) (vr : Value) (xa xb col : Int) (c : GVal) (k1 m1 k2 m2 : Int) (s1 s2 : ByteArray) (w : World) (hn : 1 < n1) (h63 : n1 ≤ 9223372036854775807) (h1 : k1 = 0)
    (p0 : w.cell? ⟨b, o, none⟩ = some (.int .i64 k1)) (p1 : w.cell? ⟨b, o + 1, none⟩ = some (.int .i64 m1)) (p2 : w.cell? ⟨b, o + 2, none⟩ = some (.string s1))
    (q0 : w.cell? ⟨b, o + 3, none⟩ = some (.int .i64 k2)) (q1 : w.cell? ⟨b, o + 3 + 1, none⟩ = some (.int .i64 m2)) (q2 : w.cell? ⟨b, o + 3 + 2, none⟩ = some (.string s2)) :
    Calls Tryz.prog 41 #[aggX ⟨7, xa, xb, col, c⟩, .slice (some ⟨b, o, none⟩) n1 c1, vr] w fun e w' => e = .returned (aggG (gbool false)) ∧ Below w.heap.size w w' := by
  have lb : b < w.heap.size := World.block_lt_of_cell? w _ p0
  have hn0 : 0 < n1 := by omega
  have hn1 : (1 : Int) ≤ (n1 : Int) - 1 := by omega
  have hn2 : (1 : Int) < (n1 : Int) := by omega
  have hn3 : ¬ (n1 : Int) ≤ 1 := by omega
  have hn4 : ¬ n1 ≤ 1 := by omega
  subst h1
  have HBL : ∀ W, Hid (Calls Tryz.prog 65 #[.bool false] W fun e w' => e = .returned (.agg #[.int .i64 3, .int .i64 (b2i false), .string ⟨#[]⟩]) ∧ Below W.heap.size W w') := fun W => boolean_ag _ W
  rw [aggG_bool]
  obtain ⟨ck, cn, cs⟩ := c
  unfold aggX
  dsimp only
  have hB0 := below_alloc_two w (.cells #[.int .i64 7, .int .i64 xa, .int .i64 xb, .int .i64 col, .int .i64 ck, .int .i64 cn, .string cs] 39) (.cells #[.int .i64 0, .int .i64 0, .string ⟨#[]⟩] 36)
  have hz0 : w.heap.size + 1 < ((w.alloc (.cells #[.int .i64 7, .int .i64 xa, .int .i64 xb, .int .i64 col, .int .i64 ck, .int .i64 cn, .string cs] 39)).alloc (.cells #[.int .i64 0, .int .i64 0, .string ⟨#[]⟩] 36)).heap.size := by simp
  obtain ⟨⟨r0, r1, r2⟩, f0, f1, f2⟩ := box_three (heap2_1 w (.cells #[.int .i64 7, .int .i64 xa, .int .i64 xb, .int .i64 col, .int .i64 ck, .int .i64 cn, .string cs] 39) (.cells #[.int .i64 0, .int .i64 0, .string ⟨#[]⟩] 36))
  replace r0 := vAt_of r0
  replace r1 := vAt_of r1
  replace r2 := vAt_of r2
  replace p0 := cell_keep hB0 p0
  replace p1 := cell_keep hB0 p1
  replace p2 := cell_keep hB0 p2
  replace q0 := cell_keep hB0 q0
  replace q1 := cell_keep hB0 q1
  replace q2 := cell_keep hB0 q2
  have lb2 : w.heap.size + 1 ≠ b := by omega
  go_enter Tryz.func41, Tryz.ntmps41
  go_wp2_with fail
  refine wp_region_held_drew (S := (fun W => Below w.heap.size w W ∧ w.heap.size + 1 < W.heap.size
      ∧ W.cell? ⟨b, o, none⟩ = some (.int .i64 0) ∧ W.cell? ⟨b, o + 1, none⟩ = some (.int .i64 m1) ∧ W.cell? ⟨b, o + 2, none⟩ = some (.string s1)
      ∧ W.cell? ⟨b, o + 3, none⟩ = some (.int .i64 k2) ∧ W.cell? ⟨b, o + 3 + 1, none⟩ = some (.int .i64 m2) ∧ W.cell? ⟨b, o + 3 + 2, none⟩ = some (.string s2)
      ∧ W.cell? ⟨w.heap.size + 1, 0, none⟩ = some (vAt W ⟨w.heap.size + 1, 0, none⟩) ∧ W.cell? ⟨w.heap.size + 1, 1, none⟩ = some (vAt W ⟨w.heap.size + 1, 1, none⟩) ∧ W.cell? ⟨w.heap.size + 1, 2, none⟩ = some (vAt W ⟨w.heap.size + 1, 2, none⟩)
      ∧ W.frozen? ⟨w.heap.size + 1, 0, none⟩ = false ∧ W.frozen? ⟨w.heap.size + 1, 1, none⟩ = false ∧ W.frozen? ⟨w.heap.size + 1, 2, none⟩ = false)) (by kernel_rfl) ?_ (fun hHeld => ?_)
  · (go_split_ands; refine ⟨?_, ?_, ?_, ?_, ?_, ?_, ?_, ?_, ?_, ?_, ?_, ?_, ?_, ?_⟩ <;> first | (with_reducible assumption) | with_reducible exact Below.drew (by assumption) | with_reducible exact size_drew (by assumption) | with_reducible exact cell_drew (by assumption) | with_reducible exact vAt_drew (by assumption) | with_reducible exact frozen_drew (by assumption) | with_reducible exact below_keep (by assumption) (by assumption) | with_reducible exact size_keep (by assumption) (by assumption) | with_reducible exact cell_keep (by assumption) (by assumption) | with_reducible exact vAt_keep (by assumption) (by assumption) | with_reducible exact frozen_keep (by assumption) (by assumption) (by assumption) | with_reducible exact below_set3 (by assumption) (by simp) (by simp) (by simp) | with_reducible exact size_set3 (by assumption) | with_reducible exact cell_set3 (by assumption) (by simp [*]) rfl rfl | with_reducible exact vAt_set3 (by assumption) | with_reducible exact frozen_set3 (by assumption))
  refine take_y (i := 0) (d := some 71) (v := ?_) rfl rfl (by kernel_rfl) (by kernel_rfl) (by kernel_rfl) (fun _ _ _ h => h) (by assumption) ?_ ?_
  rotate_left
  · intro oi ho
    simp only [List.getElem?_toArray, List.getElem?_cons_zero, Option.some.injEq] at ho
    subst ho
    intro w hSw
    (try dsimp only at hSw)
    go_simp
    (try with_reducible rfl)
  (try simp only [Act.put, List.setIfInBounds_toArray, List.set_cons_zero, List.set_cons_succ])
  refine take_y (i := 1) (d := some 72) (v := ?_) rfl rfl (by kernel_rfl) (by kernel_rfl) (by kernel_rfl) (fun _ _ _ h => h) (by assumption) ?_ ?_
  rotate_left
  · intro oi ho
    simp only [List.getElem?_toArray, List.getElem?_cons_succ, List.getElem?_cons_zero, Option.some.injEq] at ho
    subst ho
    intro w hSw
    (try dsimp only at hSw)
    go_simp
    (try with_reducible rfl)
  (try simp only [Act.put, List.setIfInBounds_toArray, List.set_cons_zero, List.set_cons_succ])
  refine take_y (i := 2) (d := some 73) (v := ?_) rfl rfl (by kernel_rfl) (by kernel_rfl) (by kernel_rfl) (fun _ _ _ h => h) (by assumption) ?_ ?_
  rotate_left
  · intro oi ho
    simp only [List.getElem?_toArray, List.getElem?_cons_succ, List.getElem?_cons_zero, Option.some.injEq] at ho
    subst ho
    intro w hSw
    (try dsimp only at hSw)
    go_simp
    (try with_reducible rfl)
  (try simp only [Act.put, List.setIfInBounds_toArray, List.set_cons_zero, List.set_cons_succ])
  refine take_y (i := 3) (d := some 74) (v := ?_) rfl rfl (by kernel_rfl) (by kernel_rfl) (by kernel_rfl) (fun _ _ _ h => h) (by assumption) ?_ ?_
  rotate_left
  · intro oi ho
    simp only [List.getElem?_toArray, List.getElem?_cons_succ, List.getElem?_cons_zero, Option.some.injEq] at ho
    subst ho
    intro w hSw
    (try dsimp only at hSw)
    go_simp
    (try with_reducible rfl)
  (try simp only [Act.put, List.setIfInBounds_toArray, List.set_cons_zero, List.set_cons_succ])
  refine take_y (i := 4) (d := some 75) (v := ?_) rfl rfl (by kernel_rfl) (by kernel_rfl) (by kernel_rfl) (fun _ _ _ h => h) (by assumption) ?_ ?_
  rotate_left
  · intro oi ho
    simp only [List.getElem?_toArray, List.getElem?_cons_succ, List.getElem?_cons_zero, Option.some.injEq] at ho
    subst ho
    intro w hSw
    (try dsimp only at hSw)
    go_simp
    (try with_reducible rfl)
  (try simp only [Act.put, List.setIfInBounds_toArray, List.set_cons_zero, List.set_cons_succ])
  refine take_y (i := 5) (d := some 76) (v := ?_) rfl rfl (by kernel_rfl) (by kernel_rfl) (by kernel_rfl) (fun _ _ _ h => h) (by assumption) ?_ ?_
  rotate_left
  · intro oi ho
    simp only [List.getElem?_toArray, List.getElem?_cons_succ, List.getElem?_cons_zero, Option.some.injEq] at ho
    subst ho
    intro w hSw
    (try dsimp only at hSw)
    go_simp
    (try with_reducible rfl)
  (try simp only [Act.put, List.setIfInBounds_toArray, List.set_cons_zero, List.set_cons_succ])
  refine take_n (i := 6) (d := some 77) rfl rfl (by kernel_rfl) (by kernel_rfl) (by kernel_rfl) (fun _ _ _ h => h) (by assumption) ?_
  (try simp only [Act.put, List.setIfInBounds_toArray, List.set_cons_zero, List.set_cons_succ])
  refine take_n (i := 7) (d := some 78) rfl rfl (by kernel_rfl) (by kernel_rfl) (by kernel_rfl) (fun _ _ _ h => h) (by assumption) ?_
  (try simp only [Act.put, List.setIfInBounds_toArray, List.set_cons_zero, List.set_cons_succ])
  refine take_n (i := 8) (d := some 79) rfl rfl (by kernel_rfl) (by kernel_rfl) (by kernel_rfl) (fun _ _ _ h => h) (by assumption) ?_
  (try simp only [Act.put, List.setIfInBounds_toArray, List.set_cons_zero, List.set_cons_succ])
  refine take_n (i := 9) (d := some 80) rfl rfl (by kernel_rfl) (by kernel_rfl) (by kernel_rfl) (fun _ _ _ h => h) (by assumption) ?_
  (try simp only [Act.put, List.setIfInBounds_toArray, List.set_cons_zero, List.set_cons_succ])
  refine take_n (i := 10) (d := some 81) rfl rfl (by kernel_rfl) (by kernel_rfl) (by kernel_rfl) (fun _ _ _ h => h) (by assumption) ?_
  (try simp only [Act.put, List.setIfInBounds_toArray, List.set_cons_zero, List.set_cons_succ])
  refine take_n (i := 11) (d := some 82) rfl rfl (by kernel_rfl) (by kernel_rfl) (by kernel_rfl) (fun _ _ _ h => h) (by assumption) ?_
  (try simp only [Act.put, List.setIfInBounds_toArray, List.set_cons_zero, List.set_cons_succ])
  refine take_n (i := 12) (d := some 83) rfl rfl (by kernel_rfl) (by kernel_rfl) (by kernel_rfl) (fun _ _ _ h => h) (by assumption) ?_
  (try simp only [Act.put, List.setIfInBounds_toArray, List.set_cons_zero, List.set_cons_succ])
  refine take_n (i := 13) (d := some 84) rfl rfl (by kernel_rfl) (by kernel_rfl) (by kernel_rfl) (fun _ _ _ h => h) (by assumption) ?_
  (try simp only [Act.put, List.setIfInBounds_toArray, List.set_cons_zero, List.set_cons_succ])
  refine take_n (i := 14) (d := some 85) rfl rfl (by kernel_rfl) (by kernel_rfl) (by kernel_rfl) (fun _ _ _ h => h) (by assumption) ?_
  (try simp only [Act.put, List.setIfInBounds_toArray, List.set_cons_zero, List.set_cons_succ])
  refine take_y (i := 15) (d := some 86) (v := ?_) rfl rfl (by kernel_rfl) (by kernel_rfl) (by kernel_rfl) (fun _ _ _ h => h) (by assumption) ?_ ?_
  rotate_left
  · intro oi ho
    simp only [List.getElem?_toArray, List.getElem?_cons_succ, List.getElem?_cons_zero, Option.some.injEq] at ho
    subst ho
    intro w hSw
    (try dsimp only at hSw)
    go_simp
    (try with_reducible rfl)
  (try simp only [Act.put, List.setIfInBounds_toArray, List.set_cons_zero, List.set_cons_succ])
  refine take_y (i := 16) (d := some 87) (v := ?_) rfl rfl (by kernel_rfl) (by kernel_rfl) (by kernel_rfl) (fun _ _ _ h => h) (by assumption) ?_ ?_
  rotate_left
  · intro oi ho
    simp only [List.getElem?_toArray, List.getElem?_cons_succ, List.getElem?_cons_zero, Option.some.injEq] at ho
    subst ho
    intro w hSw
    (try dsimp only at hSw)
    go_simp
    (try with_reducible rfl)
  (try simp only [Act.put, List.setIfInBounds_toArray, List.set_cons_zero, List.set_cons_succ])
  refine take_n (i := 17) (d := some 88) rfl rfl (by kernel_rfl) (by kernel_rfl) (by kernel_rfl) (fun _ _ _ h => h) (by assumption) ?_
  (try simp only [Act.put, List.setIfInBounds_toArray, List.set_cons_zero, List.set_cons_succ])
  refine take_n (i := 18) (d := some 89) rfl rfl (by kernel_rfl) (by kernel_rfl) (by kernel_rfl) (fun _ _ _ h => h) (by assumption) ?_
  (try simp only [Act.put, List.setIfInBounds_toArray, List.set_cons_zero, List.set_cons_succ])
  refine take_n (i := 19) (d := some 90) rfl rfl (by kernel_rfl) (by kernel_rfl) (by kernel_rfl) (fun _ _ _ h => h) (by assumption) ?_
  (try simp only [Act.put, List.setIfInBounds_toArray, List.set_cons_zero, List.set_cons_succ])
  refine take_n (i := 20) (d := some 91) rfl rfl (by kernel_rfl) (by kernel_rfl) (by kernel_rfl) (fun _ _ _ h => h) (by assumption) ?_
  (try simp only [Act.put, List.setIfInBounds_toArray, List.set_cons_zero, List.set_cons_succ])
  refine take_n (i := 21) (d := some 92) rfl rfl (by kernel_rfl) (by kernel_rfl) (by kernel_rfl) (fun _ _ _ h => h) (by assumption) ?_
  (try simp only [Act.put, List.setIfInBounds_toArray, List.set_cons_zero, List.set_cons_succ])
  refine take_n (i := 22) (d := some 93) rfl rfl (by kernel_rfl) (by kernel_rfl) (by kernel_rfl) (fun _ _ _ h => h) (by assumption) ?_
  (try simp only [Act.put, List.setIfInBounds_toArray, List.set_cons_zero, List.set_cons_succ])
  refine take_n (i := 23) (d := some 94) rfl rfl (by kernel_rfl) (by kernel_rfl) (by kernel_rfl) (fun _ _ _ h => h) (by assumption) ?_
  (try simp only [Act.put, List.setIfInBounds_toArray, List.set_cons_zero, List.set_cons_succ])
  refine take_n (i := 24) (d := some 95) rfl rfl (by kernel_rfl) (by kernel_rfl) (by kernel_rfl) (fun _ _ _ h => h) (by assumption) ?_
  (try simp only [Act.put, List.setIfInBounds_toArray, List.set_cons_zero, List.set_cons_succ])
  refine take_y (i := 25) (d := some 96) (v := ?_) rfl rfl (by kernel_rfl) (by kernel_rfl) (by kernel_rfl) (fun _ _ _ h => h) (by assumption) ?_ ?_
  rotate_left
  · intro oi ho
    simp only [List.getElem?_toArray, List.getElem?_cons_succ, List.getElem?_cons_zero, Option.some.injEq] at ho
    subst ho
    intro w hSw
    (try dsimp only at hSw)
    go_simp
    (try with_reducible rfl)
  (try simp only [Act.put, List.setIfInBounds_toArray, List.set_cons_zero, List.set_cons_succ])
  refine wpAnyH_ready (rs := [26]) (by kernel_rfl) (by simp) ?_
  refine AllReadyH.cons rfl (fun K hK => ?_) AllReadyH.nil
  go_simp
  (go_at_call 65; refine (HBL _).out.mono ?_; rintro e wA ⟨rfl, hbA⟩)
  refine hK.out _ _ ?_ (fun hHeld => ?_)
  · (try dsimp only)
    (go_split_ands; refine ⟨?_, ?_, ?_, ?_, ?_, ?_, ?_, ?_, ?_, ?_, ?_, ?_, ?_, ?_⟩ <;> first | (with_reducible assumption) | with_reducible exact Below.drew (by assumption) | with_reducible exact size_drew (by assumption) | with_reducible exact cell_drew (by assumption) | with_reducible exact vAt_drew (by assumption) | with_reducible exact frozen_drew (by assumption) | with_reducible exact below_keep (by assumption) (by assumption) | with_reducible exact size_keep (by assumption) (by assumption) | with_reducible exact cell_keep (by assumption) (by assumption) | with_reducible exact vAt_keep (by assumption) (by assumption) | with_reducible exact frozen_keep (by assumption) (by assumption) (by assumption) | with_reducible exact below_set3 (by assumption) (by simp) (by simp) (by simp) | with_reducible exact size_set3 (by assumption) | with_reducible exact cell_set3 (by assumption) (by simp [*]) rfl rfl | with_reducible exact vAt_set3 (by assumption) | with_reducible exact frozen_set3 (by assumption))
  clear hK K
  (try simp only [Act.put, List.setIfInBounds_toArray, List.set_cons_zero, List.set_cons_succ])
  refine wpAnyH_ready (rs := [27]) (by kernel_rfl) (by simp) ?_
  refine AllReadyH.cons rfl (fun K hK => ?_) AllReadyH.nil
  go_simp
  refine hK.out _ _ ?_ (fun hHeld => ?_)
  · (try dsimp only)
    (go_split_ands; refine ⟨?_, ?_, ?_, ?_, ?_, ?_, ?_, ?_, ?_, ?_, ?_, ?_, ?_, ?_⟩ <;> first | (with_reducible assumption) | with_reducible exact Below.drew (by assumption) | with_reducible exact size_drew (by assumption) | with_reducible exact cell_drew (by assumption) | with_reducible exact vAt_drew (by assumption) | with_reducible exact frozen_drew (by assumption) | with_reducible exact below_keep (by assumption) (by assumption) | with_reducible exact size_keep (by assumption) (by assumption) | with_reducible exact cell_keep (by assumption) (by assumption) | with_reducible exact vAt_keep (by assumption) (by assumption) | with_reducible exact frozen_keep (by assumption) (by assumption) (by assumption) | with_reducible exact below_set3 (by assumption) (by simp) (by simp) (by simp) | with_reducible exact size_set3 (by assumption) | with_reducible exact cell_set3 (by assumption) (by simp [*]) rfl rfl | with_reducible exact vAt_set3 (by assumption) | with_reducible exact frozen_set3 (by assumption))
  clear hK K
  (try simp only [Act.put, List.setIfInBounds_toArray, List.set_cons_zero, List.set_cons_succ])
  refine wpAnyH_done (by kernel_rfl) ?_ _
  obtain ⟨⟨e0, e1, e2⟩, _⟩ := box_three (box_kept (heap2_1d w _ _) hbA)
  have hzA : w.heap.size + 1 < wA.heap.size := size_keep hbA (size_drew hz0)
  have hBA := below_keep hB0.drew hbA
  clear hB0 hz0 r0 r1 r2 f0 f1 f2 p0 p1 p2 q0 q1 q2
  go_wp2_with fail
  exact bodyPost_ret (v := .agg #[.int .i64 3, .int .i64 (b2i false), .string ⟨#[]⟩]) (by simp [results, Tryz.results41, go_sem, e0, e1, e2]) rfl ⟨rfl, below_set3 hBA (Nat.le_succ _) (Nat.le_succ _) (Nat.le_succ _)⟩

set_option maxHeartbeats 4000000 in
set_option maxRecDepth 100000 in
theorem apply_7b (b o n1 c1 : Nat) (vr : Value) (xa xb col : Int) (c : GVal) (k1 m1 k2 m2 : Int) (s1 s2 : ByteArray) (w : World) (hn : 1 < n1) (h63 : n1 ≤ 9223372036854775807) (h1 : (k1 != 0) = true) (h2 : (k1 == k2) = false)
    (p0 : w.cell? ⟨b, o, none⟩ = some (.int .i64 k1)) (p1 : w.cell? ⟨b, o + 1, none⟩ = some (.int .i64 m1)) (p2 : w.cell? ⟨b, o + 2, none⟩ = some (.string s1))
    (q0 : w.cell? ⟨b, o + 3, none⟩ = some (.int .i64 k2)) (q1 : w.cell? ⟨b, o + 3 + 1, none⟩ = some (.int .i64 m2)) (q2 : w.cell? ⟨b, o + 3 + 2, none⟩ = some (.string s2)) :
    Calls Tryz.prog 41 #[aggX ⟨7, xa, xb, col, c⟩, .slice (some ⟨b, o, none⟩) n1 c1, vr] w fun e w' => e = .returned (aggG (gbool false)) ∧ Below w.heap.size w w' := by
  have lb : b < w.heap.size := World.block_lt_of_cell? w _ p0
  have hn0 : 0 < n1 := by omega
  have hn1 : (1 : Int) ≤ (n1 : Int) - 1 := by omega
  have hn2 : (1 : Int) < (n1 : Int) := by omega
  have hn3 : ¬ (n1 : Int) ≤ 1 := by omega
  have hn4 : ¬ n1 ≤ 1 := by omega
  have HBL : ∀ W, Hid (Calls Tryz.prog 65 #[.bool false] W fun e w' => e = .returned (.agg #[.int .i64 3, .int .i64 (b2i false), .string ⟨#[]⟩]) ∧ Below W.heap.size W w') := fun W => boolean_ag _ W
  rw [aggG_bool]
  obtain ⟨ck, cn, cs⟩ := c
  unfold aggX
  dsimp only
  have hB0 := below_alloc_two w (.cells #[.int .i64 7, .int .i64 xa, .int .i64 xb, .int .i64 col, .int .i64 ck, .int .i64 cn, .string cs] 39) (.cells #[.int .i64 0, .int .i64 0, .string ⟨#[]⟩] 36)
  have hz0 : w.heap.size + 1 < ((w.alloc (.cells #[.int .i64 7, .int .i64 xa, .int .i64 xb, .int .i64 col, .int .i64 ck, .int .i64 cn, .string cs] 39)).alloc (.cells #[.int .i64 0, .int .i64 0, .string ⟨#[]⟩] 36)).heap.size := by simp
  obtain ⟨⟨r0, r1, r2⟩, f0, f1, f2⟩ := box_three (heap2_1 w (.cells #[.int .i64 7, .int .i64 xa, .int .i64 xb, .int .i64 col, .int .i64 ck, .int .i64 cn, .string cs] 39) (.cells #[.int .i64 0, .int .i64 0, .string ⟨#[]⟩] 36))
  replace r0 := vAt_of r0
  replace r1 := vAt_of r1
  replace r2 := vAt_of r2
  replace p0 := cell_keep hB0 p0
  replace p1 := cell_keep hB0 p1
  replace p2 := cell_keep hB0 p2
  replace q0 := cell_keep hB0 q0
  replace q1 := cell_keep hB0 q1
  replace q2 := cell_keep hB0 q2
  have lb2 : w.heap.size + 1 ≠ b := by omega
  go_enter Tryz.func41, Tryz.ntmps41
  go_wp2_with fail
  refine wp_region_held_drew (S := (fun W => Below w.heap.size w W ∧ w.heap.size + 1 < W.heap.size
      ∧ W.cell? ⟨b, o, none⟩ = some (.int .i64 k1) ∧ W.cell? ⟨b, o + 1, none⟩ = some (.int .i64 m1) ∧ W.cell? ⟨b, o + 2, none⟩ = some (.string s1)
      ∧ W.cell? ⟨b, o + 3, none⟩ = some (.int .i64 k2) ∧ W.cell? ⟨b, o + 3 + 1, none⟩ = some (.int .i64 m2) ∧ W.cell? ⟨b, o + 3 + 2, none⟩ = some (.string s2)
      ∧ W.cell? ⟨w.heap.size + 1, 0, none⟩ = some (vAt W ⟨w.heap.size + 1, 0, none⟩) ∧ W.cell? ⟨w.heap.size + 1, 1, none⟩ = some (vAt W ⟨w.heap.size + 1, 1, none⟩) ∧ W.cell? ⟨w.heap.size + 1, 2, none⟩ = some (vAt W ⟨w.heap.size + 1, 2, none⟩)
      ∧ W.frozen? ⟨w.heap.size + 1, 0, none⟩ = false ∧ W.frozen? ⟨w.heap.size + 1, 1, none⟩ = false ∧ W.frozen? ⟨w.heap.size + 1, 2, none⟩ = false)) (by kernel_rfl) ?_ (fun hHeld => ?_)
  · (go_split_ands; refine ⟨?_, ?_, ?_, ?_, ?_, ?_, ?_, ?_, ?_, ?_, ?_, ?_, ?_, ?_⟩ <;> first | (with_reducible assumption) | with_reducible exact Below.drew (by assumption) | with_reducible exact size_drew (by assumption) | with_reducible exact cell_drew (by assumption) | with_reducible exact vAt_drew (by assumption) | with_reducible exact frozen_drew (by assumption) | with_reducible exact below_keep (by assumption) (by assumption) | with_reducible exact size_keep (by assumption) (by assumption) | with_reducible exact cell_keep (by assumption) (by assumption) | with_reducible exact vAt_keep (by assumption) (by assumption) | with_reducible exact frozen_keep (by assumption) (by assumption) (by assumption) | with_reducible exact below_set3 (by assumption) (by simp) (by simp) (by simp) | with_reducible exact size_set3 (by assumption) | with_reducible exact cell_set3 (by assumption) (by simp [*]) rfl rfl | with_reducible exact vAt_set3 (by assumption) | with_reducible exact frozen_set3 (by assumption))
  refine take_y (i := 0) (d := some 71) (v := ?_) rfl rfl (by kernel_rfl) (by kernel_rfl) (by kernel_rfl) (fun _ _ _ h => h) (by assumption) ?_ ?_
  rotate_left
  · intro oi ho
    simp only [List.getElem?_toArray, List.getElem?_cons_zero, Option.some.injEq] at ho
    subst ho
    intro w hSw
    (try dsimp only at hSw)
    go_simp
    (try with_reducible rfl)
  (try simp only [Act.put, List.setIfInBounds_toArray, List.set_cons_zero, List.set_cons_succ])
  refine take_y (i := 1) (d := some 72) (v := ?_) rfl rfl (by kernel_rfl) (by kernel_rfl) (by kernel_rfl) (fun _ _ _ h => h) (by assumption) ?_ ?_
  rotate_left
  · intro oi ho
    simp only [List.getElem?_toArray, List.getElem?_cons_succ, List.getElem?_cons_zero, Option.some.injEq] at ho
    subst ho
    intro w hSw
    (try dsimp only at hSw)
    go_simp
    (try with_reducible rfl)
  (try simp only [Act.put, List.setIfInBounds_toArray, List.set_cons_zero, List.set_cons_succ])
  refine take_y (i := 2) (d := some 73) (v := ?_) rfl rfl (by kernel_rfl) (by kernel_rfl) (by kernel_rfl) (fun _ _ _ h => h) (by assumption) ?_ ?_
  rotate_left
  · intro oi ho
    simp only [List.getElem?_toArray, List.getElem?_cons_succ, List.getElem?_cons_zero, Option.some.injEq] at ho
    subst ho
    intro w hSw
    (try dsimp only at hSw)
    go_simp
    (try with_reducible rfl)
  (try simp only [Act.put, List.setIfInBounds_toArray, List.set_cons_zero, List.set_cons_succ])
  refine take_y (i := 3) (d := some 74) (v := ?_) rfl rfl (by kernel_rfl) (by kernel_rfl) (by kernel_rfl) (fun _ _ _ h => h) (by assumption) ?_ ?_
  rotate_left
  · intro oi ho
    simp only [List.getElem?_toArray, List.getElem?_cons_succ, List.getElem?_cons_zero, Option.some.injEq] at ho
    subst ho
    intro w hSw
    (try dsimp only at hSw)
    go_simp
    (try with_reducible rfl)
  (try simp only [Act.put, List.setIfInBounds_toArray, List.set_cons_zero, List.set_cons_succ])
  refine take_y (i := 4) (d := some 75) (v := ?_) rfl rfl (by kernel_rfl) (by kernel_rfl) (by kernel_rfl) (fun _ _ _ h => h) (by assumption) ?_ ?_
  rotate_left
  · intro oi ho
    simp only [List.getElem?_toArray, List.getElem?_cons_succ, List.getElem?_cons_zero, Option.some.injEq] at ho
    subst ho
    intro w hSw
    (try dsimp only at hSw)
    go_simp
    (try with_reducible rfl)
  (try simp only [Act.put, List.setIfInBounds_toArray, List.set_cons_zero, List.set_cons_succ])
  refine take_y (i := 5) (d := some 76) (v := ?_) rfl rfl (by kernel_rfl) (by kernel_rfl) (by kernel_rfl) (fun _ _ _ h => h) (by assumption) ?_ ?_
  rotate_left
  · intro oi ho
    simp only [List.getElem?_toArray, List.getElem?_cons_succ, List.getElem?_cons_zero, Option.some.injEq] at ho
    subst ho
    intro w hSw
    (try dsimp only at hSw)
    go_simp
    (try with_reducible rfl)
  (try simp only [Act.put, List.setIfInBounds_toArray, List.set_cons_zero, List.set_cons_succ])
  refine take_y (i := 6) (d := some 77) (v := ?_) rfl rfl (by kernel_rfl) (by kernel_rfl) (by kernel_rfl) (fun _ _ _ h => h) (by assumption) ?_ ?_
  rotate_left
  · intro oi ho
    simp only [List.getElem?_toArray, List.getElem?_cons_succ, List.getElem?_cons_zero, Option.some.injEq] at ho
    subst ho
    intro w hSw
    (try dsimp only at hSw)
    go_simp
    (try with_reducible rfl)
  (try simp only [Act.put, List.setIfInBounds_toArray, List.set_cons_zero, List.set_cons_succ])
  refine take_y (i := 7) (d := some 78) (v := ?_) rfl rfl (by kernel_rfl) (by kernel_rfl) (by kernel_rfl) (fun _ _ _ h => h) (by assumption) ?_ ?_
  rotate_left
  · intro oi ho
    simp only [List.getElem?_toArray, List.getElem?_cons_succ, List.getElem?_cons_zero, Option.some.injEq] at ho
    subst ho
    intro w hSw
    (try dsimp only at hSw)
    go_simp
    (try with_reducible rfl)
  (try simp only [Act.put, List.setIfInBounds_toArray, List.set_cons_zero, List.set_cons_succ])
  refine take_y (i := 8) (d := some 79) (v := ?_) rfl rfl (by kernel_rfl) (by kernel_rfl) (by kernel_rfl) (fun _ _ _ h => h) (by assumption) ?_ ?_
  rotate_left
  · intro oi ho
    simp only [List.getElem?_toArray, List.getElem?_cons_succ, List.getElem?_cons_zero, Option.some.injEq] at ho
    subst ho
    intro w hSw
    (try dsimp only at hSw)
    go_simp
    (try with_reducible rfl)
  (try simp only [Act.put, List.setIfInBounds_toArray, List.set_cons_zero, List.set_cons_succ])
  refine take_y (i := 9) (d := some 80) (v := ?_) rfl rfl (by kernel_rfl) (by kernel_rfl) (by kernel_rfl) (fun _ _ _ h => h) (by assumption) ?_ ?_
  rotate_left
  · intro oi ho
    simp only [List.getElem?_toArray, List.getElem?_cons_succ, List.getElem?_cons_zero, Option.some.injEq] at ho
    subst ho
    intro w hSw
    (try dsimp only at hSw)
    go_simp
    (try with_reducible rfl)
  (try simp only [Act.put, List.setIfInBounds_toArray, List.set_cons_zero, List.set_cons_succ])
  refine take_y (i := 10) (d := some 81) (v := ?_) rfl rfl (by kernel_rfl) (by kernel_rfl) (by kernel_rfl) (fun _ _ _ h => h) (by assumption) ?_ ?_
  rotate_left
  · intro oi ho
    simp only [List.getElem?_toArray, List.getElem?_cons_succ, List.getElem?_cons_zero, Option.some.injEq] at ho
    subst ho
    intro w hSw
    (try dsimp only at hSw)
    go_simp
    (try with_reducible rfl)
  (try simp only [Act.put, List.setIfInBounds_toArray, List.set_cons_zero, List.set_cons_succ])
  refine take_y (i := 11) (d := some 82) (v := ?_) rfl rfl (by kernel_rfl) (by kernel_rfl) (by kernel_rfl) (fun _ _ _ h => h) (by assumption) ?_ ?_
  rotate_left
  · intro oi ho
    simp only [List.getElem?_toArray, List.getElem?_cons_succ, List.getElem?_cons_zero, Option.some.injEq] at ho
    subst ho
    intro w hSw
    (try dsimp only at hSw)
    go_simp
    (try with_reducible rfl)
  (try simp only [Act.put, List.setIfInBounds_toArray, List.set_cons_zero, List.set_cons_succ])
  refine take_y (i := 12) (d := some 83) (v := ?_) rfl rfl (by kernel_rfl) (by kernel_rfl) (by kernel_rfl) (fun _ _ _ h => h) (by assumption) ?_ ?_
  rotate_left
  · intro oi ho
    simp only [List.getElem?_toArray, List.getElem?_cons_succ, List.getElem?_cons_zero, Option.some.injEq] at ho
    subst ho
    intro w hSw
    (try dsimp only at hSw)
    go_simp
    (try with_reducible rfl)
  (try simp only [Act.put, List.setIfInBounds_toArray, List.set_cons_zero, List.set_cons_succ])
  refine take_y (i := 13) (d := some 84) (v := ?_) rfl rfl (by kernel_rfl) (by kernel_rfl) (by kernel_rfl) (fun _ _ _ h => h) (by assumption) ?_ ?_
  rotate_left
  · intro oi ho
    simp only [List.getElem?_toArray, List.getElem?_cons_succ, List.getElem?_cons_zero, Option.some.injEq] at ho
    subst ho
    intro w hSw
    (try dsimp only at hSw)
    go_simp
    (try with_reducible rfl)
  (try simp only [Act.put, List.setIfInBounds_toArray, List.set_cons_zero, List.set_cons_succ])
  refine take_y (i := 14) (d := some 85) (v := ?_) rfl rfl (by kernel_rfl) (by kernel_rfl) (by kernel_rfl) (fun _ _ _ h => h) (by assumption) ?_ ?_
  rotate_left
  · intro oi ho
    simp only [List.getElem?_toArray, List.getElem?_cons_succ, List.getElem?_cons_zero, Option.some.injEq] at ho
    subst ho
    intro w hSw
    (try dsimp only at hSw)
    go_simp
    (try with_reducible rfl)
  (try simp only [Act.put, List.setIfInBounds_toArray, List.set_cons_zero, List.set_cons_succ])
  refine take_y (i := 15) (d := some 86) (v := ?_) rfl rfl (by kernel_rfl) (by kernel_rfl) (by kernel_rfl) (fun _ _ _ h => h) (by assumption) ?_ ?_
  rotate_left
  · intro oi ho
    simp only [List.getElem?_toArray, List.getElem?_cons_succ, List.getElem?_cons_zero, Option.some.injEq] at ho
    subst ho
    intro w hSw
    (try dsimp only at hSw)
    go_simp
    (try with_reducible rfl)
  (try simp only [Act.put, List.setIfInBounds_toArray, List.set_cons_zero, List.set_cons_succ])
  refine take_y (i := 16) (d := some 87) (v := ?_) rfl rfl (by kernel_rfl) (by kernel_rfl) (by kernel_rfl) (fun _ _ _ h => h) (by assumption) ?_ ?_
  rotate_left
  · intro oi ho
    simp only [List.getElem?_toArray, List.getElem?_cons_succ, List.getElem?_cons_zero, Option.some.injEq] at ho
    subst ho
    intro w hSw
    (try dsimp only at hSw)
    go_simp
    (try with_reducible rfl)
  (try simp only [Act.put, List.setIfInBounds_toArray, List.set_cons_zero, List.set_cons_succ])
  refine take_n (i := 17) (d := some 88) rfl rfl (by kernel_rfl) (by kernel_rfl) (by kernel_rfl) (fun _ _ _ h => h) (by assumption) ?_
  (try simp only [Act.put, List.setIfInBounds_toArray, List.set_cons_zero, List.set_cons_succ])
  refine take_n (i := 18) (d := some 89) rfl rfl (by kernel_rfl) (by kernel_rfl) (by kernel_rfl) (fun _ _ _ h => h) (by assumption) ?_
  (try simp only [Act.put, List.setIfInBounds_toArray, List.set_cons_zero, List.set_cons_succ])
  refine take_n (i := 19) (d := some 90) rfl rfl (by kernel_rfl) (by kernel_rfl) (by kernel_rfl) (fun _ _ _ h => h) (by assumption) ?_
  (try simp only [Act.put, List.setIfInBounds_toArray, List.set_cons_zero, List.set_cons_succ])
  refine take_n (i := 20) (d := some 91) rfl rfl (by kernel_rfl) (by kernel_rfl) (by kernel_rfl) (fun _ _ _ h => h) (by assumption) ?_
  (try simp only [Act.put, List.setIfInBounds_toArray, List.set_cons_zero, List.set_cons_succ])
  refine take_n (i := 21) (d := some 92) rfl rfl (by kernel_rfl) (by kernel_rfl) (by kernel_rfl) (fun _ _ _ h => h) (by assumption) ?_
  (try simp only [Act.put, List.setIfInBounds_toArray, List.set_cons_zero, List.set_cons_succ])
  refine take_n (i := 22) (d := some 93) rfl rfl (by kernel_rfl) (by kernel_rfl) (by kernel_rfl) (fun _ _ _ h => h) (by assumption) ?_
  (try simp only [Act.put, List.setIfInBounds_toArray, List.set_cons_zero, List.set_cons_succ])
  refine take_n (i := 23) (d := some 94) rfl rfl (by kernel_rfl) (by kernel_rfl) (by kernel_rfl) (fun _ _ _ h => h) (by assumption) ?_
  (try simp only [Act.put, List.setIfInBounds_toArray, List.set_cons_zero, List.set_cons_succ])
  refine take_n (i := 24) (d := some 95) rfl rfl (by kernel_rfl) (by kernel_rfl) (by kernel_rfl) (fun _ _ _ h => h) (by assumption) ?_
  (try simp only [Act.put, List.setIfInBounds_toArray, List.set_cons_zero, List.set_cons_succ])
  refine take_y (i := 25) (d := some 96) (v := ?_) rfl rfl (by kernel_rfl) (by kernel_rfl) (by kernel_rfl) (fun _ _ _ h => h) (by assumption) ?_ ?_
  rotate_left
  · intro oi ho
    simp only [List.getElem?_toArray, List.getElem?_cons_succ, List.getElem?_cons_zero, Option.some.injEq] at ho
    subst ho
    intro w hSw
    (try dsimp only at hSw)
    go_simp
    (try with_reducible rfl)
  (try simp only [Act.put, List.setIfInBounds_toArray, List.set_cons_zero, List.set_cons_succ])
  refine wpAnyH_ready (rs := [26]) (by kernel_rfl) (by simp) ?_
  refine AllReadyH.cons rfl (fun K hK => ?_) AllReadyH.nil
  go_simp
  (go_at_call 65; refine (HBL _).out.mono ?_; rintro e wA ⟨rfl, hbA⟩)
  refine hK.out _ _ ?_ (fun hHeld => ?_)
  · (try dsimp only)
    (go_split_ands; refine ⟨?_, ?_, ?_, ?_, ?_, ?_, ?_, ?_, ?_, ?_, ?_, ?_, ?_, ?_⟩ <;> first | (with_reducible assumption) | with_reducible exact Below.drew (by assumption) | with_reducible exact size_drew (by assumption) | with_reducible exact cell_drew (by assumption) | with_reducible exact vAt_drew (by assumption) | with_reducible exact frozen_drew (by assumption) | with_reducible exact below_keep (by assumption) (by assumption) | with_reducible exact size_keep (by assumption) (by assumption) | with_reducible exact cell_keep (by assumption) (by assumption) | with_reducible exact vAt_keep (by assumption) (by assumption) | with_reducible exact frozen_keep (by assumption) (by assumption) (by assumption) | with_reducible exact below_set3 (by assumption) (by simp) (by simp) (by simp) | with_reducible exact size_set3 (by assumption) | with_reducible exact cell_set3 (by assumption) (by simp [*]) rfl rfl | with_reducible exact vAt_set3 (by assumption) | with_reducible exact frozen_set3 (by assumption))
  clear hK K
  (try simp only [Act.put, List.setIfInBounds_toArray, List.set_cons_zero, List.set_cons_succ])
  refine wpAnyH_ready (rs := [27]) (by kernel_rfl) (by simp) ?_
  refine AllReadyH.cons rfl (fun K hK => ?_) AllReadyH.nil
  go_simp
  refine hK.out _ _ ?_ (fun hHeld => ?_)
  · (try dsimp only)
    (go_split_ands; refine ⟨?_, ?_, ?_, ?_, ?_, ?_, ?_, ?_, ?_, ?_, ?_, ?_, ?_, ?_⟩ <;> first | (with_reducible assumption) | with_reducible exact Below.drew (by assumption) | with_reducible exact size_drew (by assumption) | with_reducible exact cell_drew (by assumption) | with_reducible exact vAt_drew (by assumption) | with_reducible exact frozen_drew (by assumption) | with_reducible exact below_keep (by assumption) (by assumption) | with_reducible exact size_keep (by assumption) (by assumption) | with_reducible exact cell_keep (by assumption) (by assumption) | with_reducible exact vAt_keep (by assumption) (by assumption) | with_reducible exact frozen_keep (by assumption) (by assumption) (by assumption) | with_reducible exact below_set3 (by assumption) (by simp) (by simp) (by simp) | with_reducible exact size_set3 (by assumption) | with_reducible exact cell_set3 (by assumption) (by simp [*]) rfl rfl | with_reducible exact vAt_set3 (by assumption) | with_reducible exact frozen_set3 (by assumption))
  clear hK K
  (try simp only [Act.put, List.setIfInBounds_toArray, List.set_cons_zero, List.set_cons_succ])
  refine wpAnyH_done (by kernel_rfl) ?_ _
  obtain ⟨⟨e0, e1, e2⟩, _⟩ := box_three (box_kept (heap2_1d w _ _) hbA)
  have hzA : w.heap.size + 1 < wA.heap.size := size_keep hbA (size_drew hz0)
  have hBA := below_keep hB0.drew hbA
  clear hB0 hz0 r0 r1 r2 f0 f1 f2 p0 p1 p2 q0 q1 q2
  go_wp2_with fail
  exact bodyPost_ret (v := .agg #[.int .i64 3, .int .i64 (b2i false), .string ⟨#[]⟩]) (by simp [results, Tryz.results41, go_sem, e0, e1, e2]) rfl ⟨rfl, below_set3 hBA (Nat.le_succ _) (Nat.le_succ _) (Nat.le_succ _)⟩

set_option maxHeartbeats 4000000 in
set_option maxRecDepth 100000 in
theorem apply_7c (b o n1 c1 : Nat) (vr : Value) (xa xb col : Int) (c : GVal) (k1 m1 k2 m2 : Int) (s1 s2 : ByteArray) (w : World) (hn : 1 < n1) (h63 : n1 ≤ 9223372036854775807) (h1 : (k1 != 0) = true) (h2 : k1 = k2)
    (p0 : w.cell? ⟨b, o, none⟩ = some (.int .i64 k1)) (p1 : w.cell? ⟨b, o + 1, none⟩ = some (.int .i64 m1)) (p2 : w.cell? ⟨b, o + 2, none⟩ = some (.string s1))
    (q0 : w.cell? ⟨b, o + 3, none⟩ = some (.int .i64 k2)) (q1 : w.cell? ⟨b, o + 3 + 1, none⟩ = some (.int .i64 m2)) (q2 : w.cell? ⟨b, o + 3 + 2, none⟩ = some (.string s2)) :
    Calls Tryz.prog 41 #[aggX ⟨7, xa, xb, col, c⟩, .slice (some ⟨b, o, none⟩) n1 c1, vr] w fun e w' => e = .returned (aggG (gbool (decide (cmpG ⟨k1, m1, s1⟩ ⟨k2, m2, s2⟩ < 0)))) ∧ Below w.heap.size w w' := by
  have lb : b < w.heap.size := World.block_lt_of_cell? w _ p0
  have hn0 : 0 < n1 := by omega
  have hn1 : (1 : Int) ≤ (n1 : Int) - 1 := by omega
  have hn2 : (1 : Int) < (n1 : Int) := by omega
  have hn3 : ¬ (n1 : Int) ≤ 1 := by omega
  have hn4 : ¬ n1 ≤ 1 := by omega
  subst h2
  have HC : ∀ W, Hid (Calls Tryz.prog 66 #[.agg #[.int .i64 k1, .int .i64 m1, .string s1], .agg #[.int .i64 k1, .int .i64 m2, .string s2]] W fun e w' => e = .returned (.int .i64 (cmpG ⟨k1, m1, s1⟩ ⟨k1, m2, s2⟩)) ∧ Below W.heap.size W w') := fun W => valCmp_any ⟨k1, m1, s1⟩ ⟨k1, m2, s2⟩ W
  generalize cmpG ⟨k1, m1, s1⟩ ⟨k1, m2, s2⟩ = x at HC ⊢
  have HBL : ∀ W, Hid (Calls Tryz.prog 65 #[.bool (decide (x < 0))] W fun e w' => e = .returned (.agg #[.int .i64 3, .int .i64 (b2i (decide (x < 0))), .string ⟨#[]⟩]) ∧ Below W.heap.size W w') := fun W => boolean_ag _ W
  rw [aggG_bool]
  obtain ⟨r, hr⟩ : ∃ r, r = b2i (decide (x < 0)) := ⟨_, rfl⟩
  rw [← hr] at HBL ⊢
  clear hr
  obtain ⟨ck, cn, cs⟩ := c
  unfold aggX
  dsimp only
  have hB0 := below_alloc_two w (.cells #[.int .i64 7, .int .i64 xa, .int .i64 xb, .int .i64 col, .int .i64 ck, .int .i64 cn, .string cs] 39) (.cells #[.int .i64 0, .int .i64 0, .string ⟨#[]⟩] 36)
  have hz0 : w.heap.size + 1 < ((w.alloc (.cells #[.int .i64 7, .int .i64 xa, .int .i64 xb, .int .i64 col, .int .i64 ck, .int .i64 cn, .string cs] 39)).alloc (.cells #[.int .i64 0, .int .i64 0, .string ⟨#[]⟩] 36)).heap.size := by simp
  obtain ⟨⟨r0, r1, r2⟩, f0, f1, f2⟩ := box_three (heap2_1 w (.cells #[.int .i64 7, .int .i64 xa, .int .i64 xb, .int .i64 col, .int .i64 ck, .int .i64 cn, .string cs] 39) (.cells #[.int .i64 0, .int .i64 0, .string ⟨#[]⟩] 36))
  replace r0 := vAt_of r0
  replace r1 := vAt_of r1
  replace r2 := vAt_of r2
  replace p0 := cell_keep hB0 p0
  replace p1 := cell_keep hB0 p1
  replace p2 := cell_keep hB0 p2
  replace q0 := cell_keep hB0 q0
  replace q1 := cell_keep hB0 q1
  replace q2 := cell_keep hB0 q2
  have lb2 : w.heap.size + 1 ≠ b := by omega
  go_enter Tryz.func41, Tryz.ntmps41
  go_wp2_with fail
  refine wp_region_held_drew (S := (fun W => Below w.heap.size w W ∧ w.heap.size + 1 < W.heap.size
      ∧ W.cell? ⟨b, o, none⟩ = some (.int .i64 k1) ∧ W.cell? ⟨b, o + 1, none⟩ = some (.int .i64 m1) ∧ W.cell? ⟨b, o + 2, none⟩ = some (.string s1)
      ∧ W.cell? ⟨b, o + 3, none⟩ = some (.int .i64 k1) ∧ W.cell? ⟨b, o + 3 + 1, none⟩ = some (.int .i64 m2) ∧ W.cell? ⟨b, o + 3 + 2, none⟩ = some (.string s2)
      ∧ W.cell? ⟨w.heap.size + 1, 0, none⟩ = some (vAt W ⟨w.heap.size + 1, 0, none⟩) ∧ W.cell? ⟨w.heap.size + 1, 1, none⟩ = some (vAt W ⟨w.heap.size + 1, 1, none⟩) ∧ W.cell? ⟨w.heap.size + 1, 2, none⟩ = some (vAt W ⟨w.heap.size + 1, 2, none⟩)
      ∧ W.frozen? ⟨w.heap.size + 1, 0, none⟩ = false ∧ W.frozen? ⟨w.heap.size + 1, 1, none⟩ = false ∧ W.frozen? ⟨w.heap.size + 1, 2, none⟩ = false)) (by kernel_rfl) ?_ (fun hHeld => ?_)
  · (go_split_ands; refine ⟨?_, ?_, ?_, ?_, ?_, ?_, ?_, ?_, ?_, ?_, ?_, ?_, ?_, ?_⟩ <;> first | (with_reducible assumption) | with_reducible exact Below.drew (by assumption) | with_reducible exact size_drew (by assumption) | with_reducible exact cell_drew (by assumption) | with_reducible exact vAt_drew (by assumption) | with_reducible exact frozen_drew (by assumption) | with_reducible exact below_keep (by assumption) (by assumption) | with_reducible exact size_keep (by assumption) (by assumption) | with_reducible exact cell_keep (by assumption) (by assumption) | with_reducible exact vAt_keep (by assumption) (by assumption) | with_reducible exact frozen_keep (by assumption) (by assumption) (by assumption) | with_reducible exact below_set3 (by assumption) (by simp) (by simp) (by simp) | with_reducible exact size_set3 (by assumption) | with_reducible exact cell_set3 (by assumption) (by simp [*]) rfl rfl | with_reducible exact vAt_set3 (by assumption) | with_reducible exact frozen_set3 (by assumption))
  refine take_y (i := 0) (d := some 71) (v := ?_) rfl rfl (by kernel_rfl) (by kernel_rfl) (by kernel_rfl) (fun _ _ _ h => h) (by assumption) ?_ ?_
  rotate_left
  · intro oi ho
    simp only [List.getElem?_toArray, List.getElem?_cons_zero, Option.some.injEq] at ho
    subst ho
    intro w hSw
    (try dsimp only at hSw)
    go_simp
    (try with_reducible rfl)
  (try simp only [Act.put, List.setIfInBounds_toArray, List.set_cons_zero, List.set_cons_succ])
  refine take_y (i := 1) (d := some 72) (v := ?_) rfl rfl (by kernel_rfl) (by kernel_rfl) (by kernel_rfl) (fun _ _ _ h => h) (by assumption) ?_ ?_
  rotate_left
  · intro oi ho
    simp only [List.getElem?_toArray, List.getElem?_cons_succ, List.getElem?_cons_zero, Option.some.injEq] at ho
    subst ho
    intro w hSw
    (try dsimp only at hSw)
    go_simp
    (try with_reducible rfl)
  (try simp only [Act.put, List.setIfInBounds_toArray, List.set_cons_zero, List.set_cons_succ])
  refine take_y (i := 2) (d := some 73) (v := ?_) rfl rfl (by kernel_rfl) (by kernel_rfl) (by kernel_rfl) (fun _ _ _ h => h) (by assumption) ?_ ?_
  rotate_left
  · intro oi ho
    simp only [List.getElem?_toArray, List.getElem?_cons_succ, List.getElem?_cons_zero, Option.some.injEq] at ho
    subst ho
    intro w hSw
    (try dsimp only at hSw)
    go_simp
    (try with_reducible rfl)
  (try simp only [Act.put, List.setIfInBounds_toArray, List.set_cons_zero, List.set_cons_succ])
  refine take_y (i := 3) (d := some 74) (v := ?_) rfl rfl (by kernel_rfl) (by kernel_rfl) (by kernel_rfl) (fun _ _ _ h => h) (by assumption) ?_ ?_
  rotate_left
  · intro oi ho
    simp only [List.getElem?_toArray, List.getElem?_cons_succ, List.getElem?_cons_zero, Option.some.injEq] at ho
    subst ho
    intro w hSw
    (try dsimp only at hSw)
    go_simp
    (try with_reducible rfl)
  (try simp only [Act.put, List.setIfInBounds_toArray, List.set_cons_zero, List.set_cons_succ])
  refine take_y (i := 4) (d := some 75) (v := ?_) rfl rfl (by kernel_rfl) (by kernel_rfl) (by kernel_rfl) (fun _ _ _ h => h) (by assumption) ?_ ?_
  rotate_left
  · intro oi ho
    simp only [List.getElem?_toArray, List.getElem?_cons_succ, List.getElem?_cons_zero, Option.some.injEq] at ho
    subst ho
    intro w hSw
    (try dsimp only at hSw)
    go_simp
    (try with_reducible rfl)
  (try simp only [Act.put, List.setIfInBounds_toArray, List.set_cons_zero, List.set_cons_succ])
  refine take_y (i := 5) (d := some 76) (v := ?_) rfl rfl (by kernel_rfl) (by kernel_rfl) (by kernel_rfl) (fun _ _ _ h => h) (by assumption) ?_ ?_
  rotate_left
  · intro oi ho
    simp only [List.getElem?_toArray, List.getElem?_cons_succ, List.getElem?_cons_zero, Option.some.injEq] at ho
    subst ho
    intro w hSw
    (try dsimp only at hSw)
    go_simp
    (try with_reducible rfl)
  (try simp only [Act.put, List.setIfInBounds_toArray, List.set_cons_zero, List.set_cons_succ])
  refine take_y (i := 6) (d := some 77) (v := ?_) rfl rfl (by kernel_rfl) (by kernel_rfl) (by kernel_rfl) (fun _ _ _ h => h) (by assumption) ?_ ?_
  rotate_left
  · intro oi ho
    simp only [List.getElem?_toArray, List.getElem?_cons_succ, List.getElem?_cons_zero, Option.some.injEq] at ho
    subst ho
    intro w hSw
    (try dsimp only at hSw)
    go_simp
    (try with_reducible rfl)
  (try simp only [Act.put, List.setIfInBounds_toArray, List.set_cons_zero, List.set_cons_succ])
  refine take_y (i := 7) (d := some 78) (v := ?_) rfl rfl (by kernel_rfl) (by kernel_rfl) (by kernel_rfl) (fun _ _ _ h => h) (by assumption) ?_ ?_
  rotate_left
  · intro oi ho
    simp only [List.getElem?_toArray, List.getElem?_cons_succ, List.getElem?_cons_zero, Option.some.injEq] at ho
    subst ho
    intro w hSw
    (try dsimp only at hSw)
    go_simp
    (try with_reducible rfl)
  (try simp only [Act.put, List.setIfInBounds_toArray, List.set_cons_zero, List.set_cons_succ])
  refine take_y (i := 8) (d := some 79) (v := ?_) rfl rfl (by kernel_rfl) (by kernel_rfl) (by kernel_rfl) (fun _ _ _ h => h) (by assumption) ?_ ?_
  rotate_left
  · intro oi ho
    simp only [List.getElem?_toArray, List.getElem?_cons_succ, List.getElem?_cons_zero, Option.some.injEq] at ho
    subst ho
    intro w hSw
    (try dsimp only at hSw)
    go_simp
    (try with_reducible rfl)
  (try simp only [Act.put, List.setIfInBounds_toArray, List.set_cons_zero, List.set_cons_succ])
  refine take_y (i := 9) (d := some 80) (v := ?_) rfl rfl (by kernel_rfl) (by kernel_rfl) (by kernel_rfl) (fun _ _ _ h => h) (by assumption) ?_ ?_
  rotate_left
  · intro oi ho
    simp only [List.getElem?_toArray, List.getElem?_cons_succ, List.getElem?_cons_zero, Option.some.injEq] at ho
    subst ho
    intro w hSw
    (try dsimp only at hSw)
    go_simp
    (try with_reducible rfl)
  (try simp only [Act.put, List.setIfInBounds_toArray, List.set_cons_zero, List.set_cons_succ])
  refine take_y (i := 10) (d := some 81) (v := ?_) rfl rfl (by kernel_rfl) (by kernel_rfl) (by kernel_rfl) (fun _ _ _ h => h) (by assumption) ?_ ?_
  rotate_left
  · intro oi ho
    simp only [List.getElem?_toArray, List.getElem?_cons_succ, List.getElem?_cons_zero, Option.some.injEq] at ho
    subst ho
    intro w hSw
    (try dsimp only at hSw)
    go_simp
    (try with_reducible rfl)
  (try simp only [Act.put, List.setIfInBounds_toArray, List.set_cons_zero, List.set_cons_succ])
  refine take_y (i := 11) (d := some 82) (v := ?_) rfl rfl (by kernel_rfl) (by kernel_rfl) (by kernel_rfl) (fun _ _ _ h => h) (by assumption) ?_ ?_
  rotate_left
  · intro oi ho
    simp only [List.getElem?_toArray, List.getElem?_cons_succ, List.getElem?_cons_zero, Option.some.injEq] at ho
    subst ho
    intro w hSw
    (try dsimp only at hSw)
    go_simp
    (try with_reducible rfl)
  (try simp only [Act.put, List.setIfInBounds_toArray, List.set_cons_zero, List.set_cons_succ])
  refine take_y (i := 12) (d := some 83) (v := ?_) rfl rfl (by kernel_rfl) (by kernel_rfl) (by kernel_rfl) (fun _ _ _ h => h) (by assumption) ?_ ?_
  rotate_left
  · intro oi ho
    simp only [List.getElem?_toArray, List.getElem?_cons_succ, List.getElem?_cons_zero, Option.some.injEq] at ho
    subst ho
    intro w hSw
    (try dsimp only at hSw)
    go_simp
    (try with_reducible rfl)
  (try simp only [Act.put, List.setIfInBounds_toArray, List.set_cons_zero, List.set_cons_succ])
  refine take_y (i := 13) (d := some 84) (v := ?_) rfl rfl (by kernel_rfl) (by kernel_rfl) (by kernel_rfl) (fun _ _ _ h => h) (by assumption) ?_ ?_
  rotate_left
  · intro oi ho
    simp only [List.getElem?_toArray, List.getElem?_cons_succ, List.getElem?_cons_zero, Option.some.injEq] at ho
    subst ho
    intro w hSw
    (try dsimp only at hSw)
    go_simp
    (try with_reducible rfl)
  (try simp only [Act.put, List.setIfInBounds_toArray, List.set_cons_zero, List.set_cons_succ])
  refine take_y (i := 14) (d := some 85) (v := ?_) rfl rfl (by kernel_rfl) (by kernel_rfl) (by kernel_rfl) (fun _ _ _ h => h) (by assumption) ?_ ?_
  rotate_left
  · intro oi ho
    simp only [List.getElem?_toArray, List.getElem?_cons_succ, List.getElem?_cons_zero, Option.some.injEq] at ho
    subst ho
    intro w hSw
    (try dsimp only at hSw)
    go_simp
    (try with_reducible rfl)
  (try simp only [Act.put, List.setIfInBounds_toArray, List.set_cons_zero, List.set_cons_succ])
  refine take_y (i := 15) (d := some 86) (v := ?_) rfl rfl (by kernel_rfl) (by kernel_rfl) (by kernel_rfl) (fun _ _ _ h => h) (by assumption) ?_ ?_
  rotate_left
  · intro oi ho
    simp only [List.getElem?_toArray, List.getElem?_cons_succ, List.getElem?_cons_zero, Option.some.injEq] at ho
    subst ho
    intro w hSw
    (try dsimp only at hSw)
    go_simp
    (try with_reducible rfl)
  (try simp only [Act.put, List.setIfInBounds_toArray, List.set_cons_zero, List.set_cons_succ])
  refine take_y (i := 16) (d := some 87) (v := ?_) rfl rfl (by kernel_rfl) (by kernel_rfl) (by kernel_rfl) (fun _ _ _ h => h) (by assumption) ?_ ?_
  rotate_left
  · intro oi ho
    simp only [List.getElem?_toArray, List.getElem?_cons_succ, List.getElem?_cons_zero, Option.some.injEq] at ho
    subst ho
    intro w hSw
    (try dsimp only at hSw)
    go_simp
    (try with_reducible rfl)
  (try simp only [Act.put, List.setIfInBounds_toArray, List.set_cons_zero, List.set_cons_succ])
  refine take_y (i := 17) (d := some 88) (v := ?_) rfl rfl (by kernel_rfl) (by kernel_rfl) (by kernel_rfl) (fun _ _ _ h => h) (by assumption) ?_ ?_
  rotate_left
  · intro oi ho
    simp only [List.getElem?_toArray, List.getElem?_cons_succ, List.getElem?_cons_zero, Option.some.injEq] at ho
    subst ho
    intro w hSw
    (try dsimp only at hSw)
    go_simp
    (try with_reducible rfl)
  (try simp only [Act.put, List.setIfInBounds_toArray, List.set_cons_zero, List.set_cons_succ])
  refine take_y (i := 18) (d := some 89) (v := ?_) rfl rfl (by kernel_rfl) (by kernel_rfl) (by kernel_rfl) (fun _ _ _ h => h) (by assumption) ?_ ?_
  rotate_left
  · intro oi ho
    simp only [List.getElem?_toArray, List.getElem?_cons_succ, List.getElem?_cons_zero, Option.some.injEq] at ho
    subst ho
    intro w hSw
    (try dsimp only at hSw)
    go_simp
    (try with_reducible rfl)
  (try simp only [Act.put, List.setIfInBounds_toArray, List.set_cons_zero, List.set_cons_succ])
  refine take_y (i := 19) (d := some 90) (v := ?_) rfl rfl (by kernel_rfl) (by kernel_rfl) (by kernel_rfl) (fun _ _ _ h => h) (by assumption) ?_ ?_
  rotate_left
  · intro oi ho
    simp only [List.getElem?_toArray, List.getElem?_cons_succ, List.getElem?_cons_zero, Option.some.injEq] at ho
    subst ho
    intro w hSw
    (try dsimp only at hSw)
    go_simp
    (try with_reducible rfl)
  (try simp only [Act.put, List.setIfInBounds_toArray, List.set_cons_zero, List.set_cons_succ])
  refine take_y (i := 20) (d := some 91) (v := ?_) rfl rfl (by kernel_rfl) (by kernel_rfl) (by kernel_rfl) (fun _ _ _ h => h) (by assumption) ?_ ?_
  rotate_left
  · intro oi ho
    simp only [List.getElem?_toArray, List.getElem?_cons_succ, List.getElem?_cons_zero, Option.some.injEq] at ho
    subst ho
    intro w hSw
    (try dsimp only at hSw)
    go_simp
    (try with_reducible rfl)
  (try simp only [Act.put, List.setIfInBounds_toArray, List.set_cons_zero, List.set_cons_succ])
  refine take_y (i := 21) (d := some 92) (v := ?_) rfl rfl (by kernel_rfl) (by kernel_rfl) (by kernel_rfl) (fun _ _ _ h => h) (by assumption) ?_ ?_
  rotate_left
  · intro oi ho
    simp only [List.getElem?_toArray, List.getElem?_cons_succ, List.getElem?_cons_zero, Option.some.injEq] at ho
    subst ho
    intro w hSw
    (try dsimp only at hSw)
    go_simp
    (try with_reducible rfl)
  (try simp only [Act.put, List.setIfInBounds_toArray, List.set_cons_zero, List.set_cons_succ])
  refine take_y (i := 22) (d := some 93) (v := ?_) rfl rfl (by kernel_rfl) (by kernel_rfl) (by kernel_rfl) (fun _ _ _ h => h) (by assumption) ?_ ?_
  rotate_left
  · intro oi ho
    simp only [List.getElem?_toArray, List.getElem?_cons_succ, List.getElem?_cons_zero, Option.some.injEq] at ho
    subst ho
    intro w hSw
    (try dsimp only at hSw)
    go_simp
    (try with_reducible rfl)
  (try simp only [Act.put, List.setIfInBounds_toArray, List.set_cons_zero, List.set_cons_succ])
  refine wpAnyH_ready (rs := [23]) (by kernel_rfl) (by simp) ?_
  refine AllReadyH.cons rfl (fun K hK => ?_) AllReadyH.nil
  go_simp
  (go_at_call 66; refine (HC _).out.mono ?_; rintro e wC ⟨rfl, hbC⟩)
  refine hK.out _ _ ?_ (fun hHeld => ?_)
  · (try dsimp only)
    (go_split_ands; refine ⟨?_, ?_, ?_, ?_, ?_, ?_, ?_, ?_, ?_, ?_, ?_, ?_, ?_, ?_⟩ <;> first | (with_reducible assumption) | with_reducible exact Below.drew (by assumption) | with_reducible exact size_drew (by assumption) | with_reducible exact cell_drew (by assumption) | with_reducible exact vAt_drew (by assumption) | with_reducible exact frozen_drew (by assumption) | with_reducible exact below_keep (by assumption) (by assumption) | with_reducible exact size_keep (by assumption) (by assumption) | with_reducible exact cell_keep (by assumption) (by assumption) | with_reducible exact vAt_keep (by assumption) (by assumption) | with_reducible exact frozen_keep (by assumption) (by assumption) (by assumption) | with_reducible exact below_set3 (by assumption) (by simp) (by simp) (by simp) | with_reducible exact size_set3 (by assumption) | with_reducible exact cell_set3 (by assumption) (by simp [*]) rfl rfl | with_reducible exact vAt_set3 (by assumption) | with_reducible exact frozen_set3 (by assumption))
  clear hK K
  (try simp only [Act.put, List.setIfInBounds_toArray, List.set_cons_zero, List.set_cons_succ])
  refine take_y (i := 24) (d := some 95) (v := ?_) rfl rfl (by kernel_rfl) (by kernel_rfl) (by kernel_rfl) (fun _ _ _ h => h) (by assumption) ?_ ?_
  rotate_left
  · intro oi ho
    simp only [List.getElem?_toArray, List.getElem?_cons_succ, List.getElem?_cons_zero, Option.some.injEq] at ho
    subst ho
    intro w hSw
    (try dsimp only at hSw)
    go_simp
    (try with_reducible rfl)
  (try simp only [Act.put, List.setIfInBounds_toArray, List.set_cons_zero, List.set_cons_succ])
  refine take_y (i := 25) (d := some 96) (v := ?_) rfl rfl (by kernel_rfl) (by kernel_rfl) (by kernel_rfl) (fun _ _ _ h => h) (by assumption) ?_ ?_
  rotate_left
  · intro oi ho
    simp only [List.getElem?_toArray, List.getElem?_cons_succ, List.getElem?_cons_zero, Option.some.injEq] at ho
    subst ho
    intro w hSw
    (try dsimp only at hSw)
    go_simp
    (try with_reducible rfl)
  (try simp only [Act.put, List.setIfInBounds_toArray, List.set_cons_zero, List.set_cons_succ])
  refine wpAnyH_ready (rs := [26]) (by kernel_rfl) (by simp) ?_
  refine AllReadyH.cons rfl (fun K hK => ?_) AllReadyH.nil
  go_simp
  (go_at_call 65; refine (HBL _).out.mono ?_; rintro e wA ⟨rfl, hbA⟩)
  refine hK.out _ _ ?_ (fun hHeld => ?_)
  · (try dsimp only)
    (go_split_ands; refine ⟨?_, ?_, ?_, ?_, ?_, ?_, ?_, ?_, ?_, ?_, ?_, ?_, ?_, ?_⟩ <;> first | (with_reducible assumption) | with_reducible exact Below.drew (by assumption) | with_reducible exact size_drew (by assumption) | with_reducible exact cell_drew (by assumption) | with_reducible exact vAt_drew (by assumption) | with_reducible exact frozen_drew (by assumption) | with_reducible exact below_keep (by assumption) (by assumption) | with_reducible exact size_keep (by assumption) (by assumption) | with_reducible exact cell_keep (by assumption) (by assumption) | with_reducible exact vAt_keep (by assumption) (by assumption) | with_reducible exact frozen_keep (by assumption) (by assumption) (by assumption) | with_reducible exact below_set3 (by assumption) (by simp) (by simp) (by simp) | with_reducible exact size_set3 (by assumption) | with_reducible exact cell_set3 (by assumption) (by simp [*]) rfl rfl | with_reducible exact vAt_set3 (by assumption) | with_reducible exact frozen_set3 (by assumption))
  clear hK K
  (try simp only [Act.put, List.setIfInBounds_toArray, List.set_cons_zero, List.set_cons_succ])
  refine wpAnyH_ready (rs := [27]) (by kernel_rfl) (by simp) ?_
  refine AllReadyH.cons rfl (fun K hK => ?_) AllReadyH.nil
  go_simp
  refine hK.out _ _ ?_ (fun hHeld => ?_)
  · (try dsimp only)
    (go_split_ands; refine ⟨?_, ?_, ?_, ?_, ?_, ?_, ?_, ?_, ?_, ?_, ?_, ?_, ?_, ?_⟩ <;> first | (with_reducible assumption) | with_reducible exact Below.drew (by assumption) | with_reducible exact size_drew (by assumption) | with_reducible exact cell_drew (by assumption) | with_reducible exact vAt_drew (by assumption) | with_reducible exact frozen_drew (by assumption) | with_reducible exact below_keep (by assumption) (by assumption) | with_reducible exact size_keep (by assumption) (by assumption) | with_reducible exact cell_keep (by assumption) (by assumption) | with_reducible exact vAt_keep (by assumption) (by assumption) | with_reducible exact frozen_keep (by assumption) (by assumption) (by assumption) | with_reducible exact below_set3 (by assumption) (by simp) (by simp) (by simp) | with_reducible exact size_set3 (by assumption) | with_reducible exact cell_set3 (by assumption) (by simp [*]) rfl rfl | with_reducible exact vAt_set3 (by assumption) | with_reducible exact frozen_set3 (by assumption))
  clear hK K
  (try simp only [Act.put, List.setIfInBounds_toArray, List.set_cons_zero, List.set_cons_succ])
  refine wpAnyH_done (by kernel_rfl) ?_ _
  obtain ⟨⟨e0, e1, e2⟩, _⟩ := box_three (box_kept (box_kept (heap2_1d w _ _) hbC) hbA)
  have hzA : w.heap.size + 1 < wA.heap.size := size_keep hbA (size_keep hbC (size_drew hz0))
  have hBA := below_keep (below_keep hB0.drew hbC) hbA
  clear hB0 hz0 r0 r1 r2 f0 f1 f2 p0 p1 p2 q0 q1 q2
  go_wp2_with fail
  exact bodyPost_ret (v := .agg #[.int .i64 3, .int .i64 r, .string ⟨#[]⟩]) (by simp [results, Tryz.results41, go_sem, e0, e1, e2]) rfl ⟨rfl, below_set3 hBA (Nat.le_succ _) (Nat.le_succ _) (Nat.le_succ _)⟩

end Go.Proofs.YtfmbbfidjcgeiaaGreat

namespace Go.Proofs.YtfmbbfidjcgeiaaGreat
open Go.RowKit Go.Lib Go.Shelf

/-- What apply gives. -/
def applyG (x : GExp) (la row : List GVal) : GVal := if arity x.op < 0 then gnull else xapp x.op x.col x.c row (la.getD 0 gnull) (la.getD 1 gnull)
theorem val_two {w : World} {v : Value} {l : List GVal} (h : Sl valE w free v l) (h2 : l.length = 2) : ∃ b o c g1 g2, v = .slice (some ⟨b, o, none⟩) 2 c ∧ l = [g1, g2] ∧
    w.cell? ⟨b, o, none⟩ = some (.int .i64 g1.kind) ∧ w.cell? ⟨b, o + 1, none⟩ = some (.int .i64 g1.n) ∧ w.cell? ⟨b, o + 2, none⟩ = some (.string g1.s) ∧
    w.cell? ⟨b, o + 3, none⟩ = some (.int .i64 g2.kind) ∧ w.cell? ⟨b, o + 3 + 1, none⟩ = some (.int .i64 g2.n) ∧ w.cell? ⟨b, o + 3 + 2, none⟩ = some (.string g2.s) := by
  obtain ⟨g1, g2, rfl⟩ : ∃ g1 g2, l = [g1, g2] := by
    match l, h2 with
    | [g1, g2], _ => exact ⟨g1, g2, rfl⟩
  obtain ⟨a, c, rfl⟩ := h.shape
  obtain ⟨b, o, rfl, p0, p1, p2⟩ := val_at h (k := 0) rfl
  obtain ⟨b', o', e, q0, q1, q2⟩ := val_at h (k := 1) rfl
  cases e
  simp only [Nat.zero_mul, Nat.add_zero, Nat.one_mul] at p0 p1 p2 q0 q1 q2
  exact ⟨b, o, c, g1, g2, rfl, rfl, p0, p1, p2, q0, q1, q2⟩
theorem val_one {w : World} {v : Value} {l : List GVal} (h : Sl valE w free v l) (h2 : l.length = 1) : ∃ b o c g1, v = .slice (some ⟨b, o, none⟩) 1 c ∧ l = [g1] ∧
    w.cell? ⟨b, o, none⟩ = some (.int .i64 g1.kind) ∧ w.cell? ⟨b, o + 1, none⟩ = some (.int .i64 g1.n) ∧ w.cell? ⟨b, o + 2, none⟩ = some (.string g1.s) := by
  obtain ⟨g1, rfl⟩ : ∃ g1, l = [g1] := by
    match l, h2 with
    | [g1], _ => exact ⟨g1, rfl⟩
  obtain ⟨a, c, rfl⟩ := h.shape
  obtain ⟨b, o, rfl, p0, p1, p2⟩ := val_at h (k := 0) rfl
  simp only [Nat.zero_mul, Nat.add_zero] at p0 p1 p2
  exact ⟨b, o, c, g1, rfl, rfl, p0, p1, p2⟩
set_option maxHeartbeats 1000000 in
theorem apply_any (x : GExp) (va vr : Value) (la row : List GVal) (w : World) (ha : Sl valE w free va la) (hr : Sl valE w free vr row) (hla : arity x.op < 0 ∨ la.length = (arity x.op).toNat) (hin : ∀ g ∈ la, In64 g.n) :
    Calls Tryz.prog 41 #[aggX x, va, vr] w fun e w' => e = .returned (aggG (applyG x la row)) ∧ Below w.heap.size w w' := by
  obtain ⟨op, xa, xb, col, c⟩ := x
  unfold applyG
  dsimp only at hla ⊢
  by_cases har : arity op < 0
  · rw [if_pos har]
    exact apply_unknown op har va vr xa xb col c w
  · rw [if_neg har]
    have hop : 1 ≤ op ∧ op ≤ 11 := by have := arity_cases op; omega
    replace hla := hla.resolve_left har
    by_cases h2 : 3 ≤ op ∧ op ≤ 9
    · obtain ⟨b, o, c1, ⟨k1, m1, s1⟩, ⟨k2, m2, s2⟩, rfl, rfl, p0, p1, p2, q0, q1, q2⟩ := val_two ha (by have := arity_cases op; omega)
      have n1 : In64 m1 := hin ⟨k1, m1, s1⟩ (by simp)
      have n2 : In64 m2 := hin ⟨k2, m2, s2⟩ (by simp)
      show Calls _ _ _ _ fun e w' => e = .returned (aggG (xapp op col c row ⟨k1, m1, s1⟩ ⟨k2, m2, s2⟩)) ∧ _
      have hx : ∀ y, (op = 3 ∨ op = 4 ∨ op = 5) → xapp op col c row ⟨k1, m1, s1⟩ y = arithG op ⟨k1, m1, s1⟩ y := fun y h => by rcases h with rfl | rfl | rfl <;> rfl
      rcases (by omega : (op = 3 ∨ op = 4 ∨ op = 5) ∨ op = 6 ∨ op = 7 ∨ op = 8 ∨ op = 9) with h | rfl | rfl | rfl | rfl
      · rw [hx _ h]
        exact apply_arith op h b o 2 c1 vr xa xb col c k1 m1 k2 m2 s1 s2 w (by omega) (by omega) n1 n2 p0 p1 p2 q0 q1 q2
      · by_cases e1 : k1 = 0
        · have := apply_6a b o 2 c1 vr xa xb col c k1 m1 k2 m2 s1 s2 w (by omega) (by omega) e1 p0 p1 p2 q0 q1 q2
          rw [show xapp 6 col c row ⟨k1, m1, s1⟩ ⟨k2, m2, s2⟩ = gbool false by subst e1; simp [xapp]]
          exact this
        · have e1' : (k1 != 0) = true := by simpa using e1
          by_cases e2 : k2 = 0
          · have := apply_6b b o 2 c1 vr xa xb col c k1 m1 k2 m2 s1 s2 w (by omega) (by omega) e1' e2 p0 p1 p2 q0 q1 q2
            rw [show xapp 6 col c row ⟨k1, m1, s1⟩ ⟨k2, m2, s2⟩ = gbool false by subst e2; simp [xapp]]
            exact this
          · have e2' : (k2 != 0) = true := by simpa using e2
            have := apply_6c b o 2 c1 vr xa xb col c k1 m1 k2 m2 s1 s2 w (by omega) (by omega) e1' e2' p0 p1 p2 q0 q1 q2
            rw [show xapp 6 col c row ⟨k1, m1, s1⟩ ⟨k2, m2, s2⟩ = gbool (cmpG ⟨k1, m1, s1⟩ ⟨k2, m2, s2⟩ == 0) by simp [xapp, e1', e2']]
            exact this
      · by_cases e1 : k1 = 0
        · have := apply_7a b o 2 c1 vr xa xb col c k1 m1 k2 m2 s1 s2 w (by omega) (by omega) e1 p0 p1 p2 q0 q1 q2
          rw [show xapp 7 col c row ⟨k1, m1, s1⟩ ⟨k2, m2, s2⟩ = gbool false by subst e1; simp [xapp]]
          exact this
        · have e1' : (k1 != 0) = true := by simpa using e1
          by_cases e2 : k1 = k2
          · have := apply_7c b o 2 c1 vr xa xb col c k1 m1 k2 m2 s1 s2 w (by omega) (by omega) e1' e2 p0 p1 p2 q0 q1 q2
            rw [show xapp 7 col c row ⟨k1, m1, s1⟩ ⟨k2, m2, s2⟩ = gbool (decide (cmpG ⟨k1, m1, s1⟩ ⟨k2, m2, s2⟩ < 0)) by subst e2; simp [xapp, e1']]
            exact this
          · have e2' : (k1 == k2) = false := by simpa using e2
            have := apply_7b b o 2 c1 vr xa xb col c k1 m1 k2 m2 s1 s2 w (by omega) (by omega) e1' e2' p0 p1 p2 q0 q1 q2
            rw [show xapp 7 col c row ⟨k1, m1, s1⟩ ⟨k2, m2, s2⟩ = gbool false by simp [xapp, e2']]
            exact this
      · exact apply_8 b o 2 c1 vr xa xb col c k1 m1 k2 m2 s1 s2 w (by omega) (by omega) p0 p1 p2 q0 q1 q2
      · exact apply_9 b o 2 c1 vr xa xb col c k1 m1 k2 m2 s1 s2 w (by omega) (by omega) p0 p1 p2 q0 q1 q2
    · by_cases h1 : op = 10 ∨ op = 11
      · obtain ⟨b, o, c1, ⟨k1, m1, s1⟩, rfl, rfl, p0, p1, p2⟩ := val_one ha (by have := arity_cases op; omega)
        rcases h1 with rfl | rfl
        · exact apply_10 b o 1 c1 vr xa xb col c k1 m1 s1 w (by omega) (by omega) p0 p1 p2
        · exact apply_11 b o 1 c1 vr xa xb col c k1 w (by omega) (by omega) p0
      · rcases (by omega : op = 1 ∨ op = 2) with rfl | rfl
        · exact apply_1 va vr xa xb col c w
        · obtain ⟨a2, c2, rfl⟩ := hr.shape
          by_cases hc : 0 ≤ col ∧ col < row.length
          · obtain ⟨C, rfl⟩ := Int.eq_ofNat_of_zero_le hc.1
            obtain ⟨g, hg⟩ := lget_some row C (by omega)
            obtain ⟨b4, o4, rfl, r0, r1, r2⟩ := val_at hr hg
            rw [show ∀ a b, xapp 2 (C : Int) c row a b = g from fun a b => by
              unfold xapp
              rw [if_neg (by decide), if_pos rfl, if_pos hc]
              simpa using getD_some hg]
            exact apply_2 va b4 o4 row.length c2 C xa xb c g.kind g.n g.s w (by omega) hr.1 r0 r1 r2
          · rw [show ∀ a b, xapp 2 col c row a b = gnull from fun a b => by
              unfold xapp
              rw [if_neg (by decide), if_pos rfl, if_neg hc]]
            exact apply_2n va a2 row.length c2 xa xb col c w hc
end Go.Proofs.YtfmbbfidjcgeiaaGreat

namespace Go.Proofs.YtfmbbfidjcgeiaaGreat
open Go.RowKit Go.Lib Go.Shelf
theorem cell_of {w : World} {g k : Nat} {c : Array Value} {t : TypeId} {fz : Nat × Nat} {v : Value} (h : w.heap[g]? = some (.cells c t fz)) (hk : c[k]? = some v) : w.cell? ⟨g, k, none⟩ = some v := by
  simp [World.cell?, h, hk]
theorem arity_lits (op : Int) : arity op = -1 ∨ arity op = 0 ∨ arity op = 1 ∨ arity op = 2 := by have := arity_cases op; omega
set_option maxHeartbeats 1000000 in
set_option maxRecDepth 100000 in
theorem operands_any (x : GExp) (w : World) :
    Calls Tryz.prog 39 #[aggX x] w fun e w' => ∃ v, e = .returned v ∧ Sl intE w' free v ([x.a, x.b].take (arity x.op).toNat) ∧ Below w.heap.size w w' := by
  obtain ⟨op, xa, xb, col, ck, cn, cs⟩ := x
  unfold aggX
  dsimp only
  have HA : ∀ W, Hid (Calls Tryz.prog 63 #[.int .i64 op] W fun e w' => e = .returned (.int .i64 (arity op)) ∧ W = w') := fun W => arity_any op W
  have hl := arity_lits op
  generalize arity op = a at HA hl ⊢
  have hB0 : Below w.heap.size w (w.alloc (.cells #[.int .i64 op, .int .i64 xa, .int .i64 xb, .int .i64 col, .int .i64 ck, .int .i64 cn, .string cs] 39)) := below_alloc _ _
  have hX := World.alloc_heap_new w (.cells #[.int .i64 op, .int .i64 xa, .int .i64 xb, .int .i64 col, .int .i64 ck, .int .i64 cn, .string cs] 39)
  have e0 : (w.alloc (.cells #[.int .i64 op, .int .i64 xa, .int .i64 xb, .int .i64 col, .int .i64 ck, .int .i64 cn, .string cs] 39)).cell? ⟨w.heap.size, 0, none⟩ = some (.int .i64 op) := cell_of hX rfl
  have e1 : (w.alloc (.cells #[.int .i64 op, .int .i64 xa, .int .i64 xb, .int .i64 col, .int .i64 ck, .int .i64 cn, .string cs] 39)).cell? ⟨w.heap.size, 1, none⟩ = some (.int .i64 xa) := cell_of hX rfl
  have e2 : (w.alloc (.cells #[.int .i64 op, .int .i64 xa, .int .i64 xb, .int .i64 col, .int .i64 ck, .int .i64 cn, .string cs] 39)).cell? ⟨w.heap.size, 2, none⟩ = some (.int .i64 xb) := cell_of hX rfl
  clear hX
  have hm0 : max (-1 : Int) 0 = 0 := by decide
  have hm1 : max (0 : Int) 0 = 0 := by decide
  have hm2 : max (1 : Int) 0 = 1 := by decide
  have hm3 : max (2 : Int) 0 = 2 := by decide
  rcases hl with rfl | rfl | rfl | rfl
  all_goals
    go_enter Tryz.func39, Tryz.ntmps39
    go_wp2_with fail
    go_region_held3 (fun W => Below w.heap.size w W ∧ W.cell? ⟨w.heap.size, 0, none⟩ = some (.int .i64 op) ∧ W.cell? ⟨w.heap.size, 1, none⟩ = some (.int .i64 xa) ∧ W.cell? ⟨w.heap.size, 2, none⟩ = some (.int .i64 xb))
      ((go_split_ands; refine ⟨?_, ?_, ?_, ?_⟩ <;> first | (with_reducible assumption) | with_reducible exact Below.drew (by assumption) | with_reducible exact cell_drew (by assumption) | with_reducible exact below_alloc_keep (by assumption) | with_reducible exact Below.drew (below_alloc_keep (by assumption)) | with_reducible exact cell_keep (below_alloc _ _) (by assumption)))
      (first
        | (go_at_call 63; refine (HA _).out.mono ?_; rintro e wA ⟨rfl, rfl⟩))
  all_goals
    go_wp2_with fail
    go_ret
    have hS : Sl intE ((w.alloc (.cells #[.int .i64 op, .int .i64 xa, .int .i64 xb, .int .i64 col, .int .i64 ck, .int .i64 cn, .string cs] 39)).alloc (.cells #[.int .i64 xa, .int .i64 xb] 3)).drew free (.slice (some ⟨w.heap.size + 1, 0, none⟩) 2 2) [xa, xb] :=
      Sl.of_block (heap2_1d w _ _) (Els.cons (cs := [.int .i64 xa]) rfl (Els.one (cs := [.int .i64 xb]) rfl)) (fun h => h.elim) rfl (by simp) (by simp)
    refine ⟨_, rfl, ?_, (below_alloc_keep hB0).drew⟩
    exact hS.takeS (by decide)
end Go.Proofs.YtfmbbfidjcgeiaaGreat

namespace Go.Proofs.YtfmbbfidjcgeiaaGreat
open Go.RowKit Go.Lib Go.Shelf

/-- The operands that an expression reads. -/
def opsG (x : GExp) : List Int := [x.a, x.b].take (arity x.op).toNat
theorem opsG_length (x : GExp) : (opsG x).length = (arity x.op).toNat := by
  have := arity_lits x.op
  unfold opsG
  rw [List.length_take]
  simp
  omega
theorem xev_ill (x : GExp) (k : Nat) (row d : List GVal) (o : Int) (ho : o ∈ opsG x) (h : legalB k o = false) : xev x k row d = gnull := by
  rw [xev, if_pos]
  right
  unfold opsG at ho
  unfold legalX
  rcases arity_lits x.op with e | e | e | e <;> rw [e] at ho ⊢ <;> simp at ho
  · subst ho; unfold legalB at h; rw [h]; rfl
  · rcases ho with rfl | rfl <;> unfold legalB at h <;> rw [h] <;> simp
theorem xev_leg (x : GExp) (k : Nat) (row d : List GVal) (h : ∀ o ∈ opsG x, legalB k o = true) : xev x k row d = applyG x ((opsG x).map fun o => d.getD o.toNat gnull) row := by
  unfold xev applyG
  by_cases ha : arity x.op < 0
  · rw [if_pos (.inl ha), if_pos ha]
  · have hl : legalX x k = true := by
      unfold opsG at h
      unfold legalX
      rcases arity_lits x.op with e | e | e | e <;> rw [e] at h ha ⊢ <;> simp at h ha ⊢
      · unfold legalB at h; simp at h; exact h
      · obtain ⟨h1, h2⟩ := h; unfold legalB at h1 h2; simp at h1 h2; exact ⟨h1, h2⟩
    rw [if_neg (by rw [hl]; simp [ha]), if_neg ha]
    unfold opsG
    rcases arity_lits x.op with e | e | e | e
    · omega
    · rw [e]; exact xapp_none (by omega) (by omega) _ _ _ _ _ _ _
    · rw [e]; exact xapp_one (by omega) (by omega) _ _ _ _ _ _
    · rw [e]; rfl
theorem vals_rep (l : List GExp) (row : List GVal) (R k : Nat) (hk : k < R + 1) (h : xev (l.getD k gx0) k row (vals l row k) = gnull) : vals l row k ++ List.replicate (R + 1 - k) gnull = vals l row (k + 1) ++ List.replicate (R + 1 - (k + 1)) gnull := by
  show _ = (vals l row k ++ [xev (l.getD k gx0) k row (vals l row k)]) ++ _
  rw [h, show R + 1 - k = R + 1 - (k + 1) + 1 by omega, List.replicate_succ, List.append_assoc]
  rfl
set_option maxHeartbeats 2000000 in
theorem eval_none (v vr : Value) (l : List GExp) (root : Int) (w : World) (hv : Sl expE w free v l) (hroot : root < 0 ∨ (l.length : Int) ≤ root) :
    Calls Tryz.prog 24 #[v, .int .i64 root, vr] w fun e w' => e = .returned (aggG gnull) ∧ Below w.heap.size w w' := by
  obtain ⟨a1, c1, rfl⟩ := hv.shape
  obtain ⟨n, hn⟩ : ∃ n, n = l.length := ⟨_, rfl⟩
  rw [← hn] at hroot ⊢
  clear hv hn
  go_enter Tryz.func24, Tryz.ntmps24
  by_cases h0 : root < 0
  · go_wp2_with fail
    apply wp_scope_straight
    go_wp2_with fail
    rw [Exit.noGoto_ret]
    exact bodyPost_ret (v := aggG gnull) (by simp [aggG, gnull, results, Tryz.results24, go_sem]) rfl ⟨rfl, (Below.refl _ _).alloc (Nat.le_refl _) _⟩
  · have h1 : (n : Int) ≤ root := by omega
    go_wp2_with fail
    apply wp_scope_straight
    go_wp2_with fail
    rw [Exit.noGoto_ret]
    exact bodyPost_ret (v := aggG gnull) (by simp [aggG, gnull, results, Tryz.results24, go_sem]) rfl ⟨rfl, (Below.refl _ _).alloc (Nat.le_refl _) _⟩
set_option maxRecDepth 100000 in
set_option maxHeartbeats 4000000 in
theorem eval_some (v vr : Value) (l : List GExp) (R : Nat) (row : List GVal) (w : World) (hv : Sl expE w free v l) (hr : Sl valE w free vr row) (hR : R < l.length) (hsz : 32 * (R + 1) ≤ 281474976710656) (hc : ∀ x ∈ l, In64 x.c.n) (hrow : ∀ g ∈ row, In64 g.n) :
    Calls Tryz.prog 24 #[v, .int .i64 (R : Int), vr] w fun e w' => e = .returned (aggG ((vals l row (R + 1)).getD R gnull)) ∧ Below w.heap.size w w' := by
  obtain ⟨a1, c1, rfl⟩ := hv.shape
  obtain ⟨a2, c2, rfl⟩ := hr.shape
  have h63 := hv.1
  have hcap : l.length ≤ c1 := by obtain ⟨_, a', c', e, h3, _⟩ := hv; cases e; exact h3
  have HV := Lib.hid hv
  have HRW := Lib.hid hr
  have HC := Lib.hid hc
  have HRO := Lib.hid hrow
  obtain ⟨n, hn⟩ : ∃ n, n = l.length := ⟨_, rfl⟩
  obtain ⟨m, hm⟩ : ∃ m, m = row.length := ⟨_, rfl⟩
  have HN := Lib.hid hn
  have HM := Lib.hid hm
  rw [← hn] at hR h63 HV hcap ⊢
  rw [← hm] at HRW ⊢
  have hR1 : (R : Int) + 1 ≤ c1 := by omega
  clear hv hr hc hrow hn hm
  obtain ⟨i0, hi, hj0, hj1, hj2⟩ := val_parts
  go_enter Tryz.func24, Tryz.ntmps24
  go_wp2_with fail
  apply wp_scope_straight
  go_wp2_with (at_make; refine wpList_make_full _ rfl _ _ 51 rfl (w.heap.size + 1) 36 i0 _ 3 Tryz.underlying51 hi hj0 hj1 _ _ _ _ (R + 1) rfl rfl (by go_num) (by go_num) (by rw [hj2]; omega) (by unfold maxLen; omega) (by simp) ?_; intro w1 hown1 hg1)
  apply wp_label
  have hO1 : Own valE w1 (w.heap.size + 1) (.slice (some ⟨w.heap.size + 1, 0, none⟩) (R + 1) (R + 1)) (List.replicate (R + 1) gnull) := own_made (by have h := hown1; rw [show (w.alloc (.cells #[.int .i64 0, .int .i64 0, .string ⟨#[]⟩] 36)).heap.size = w.heap.size + 1 by simp] at h; exact h)
  have hB1 : Below w.heap.size w w1 := ((Below.refl _ _).alloc (Nat.le_refl _) _).grown hg1 (by simp) (fun k hk => by cases hk)
  have hx1 : w1.heap[w.heap.size]? = some (.cells #[.int .i64 0, .int .i64 0, .string ⟨#[]⟩] 36 (0, 0)) := (hg1.block w.heap.size (by simp) (by simp)).trans (World.alloc_heap_new w _)
  clear hown1 hg1
  go_wp2_with fail
  go_loopw [30] (fun i wr => ∃ k : Nat, k ≤ R + 1 ∧ i = .int .i64 k ∧ Own valE wr (w.heap.size + 1) (.slice (some ⟨w.heap.size + 1, 0, none⟩) (R + 1) (R + 1)) (vals l row k ++ List.replicate (R + 1 - k) gnull) ∧ wr.heap[w.heap.size]? = some (.cells #[.int .i64 0, .int .i64 0, .string ⟨#[]⟩] 36 (0, 0)) ∧ Below w.heap.size w wr) (fun i _ => R + 1 - (intOf i).toNat)
  case atStart => exact ⟨0, Nat.zero_le _, rfl, hO1, hx1, hB1⟩
  case round =>
    obtain ⟨k, hk, rfl, hO, hx, hB⟩ := hrel
    obtain ⟨wo, rfl⟩ : ∃ wo : World, wo = wr := ⟨_, rfl⟩
    clear hO1 hx1 hB1
    by_cases hlt : k < R + 1
    · obtain ⟨x, hgx⟩ := lget_some l k (by rw [← HN.out]; omega)
      obtain ⟨b, o, rfl, p0, p1, p2, p3, p4, p5, p6⟩ := exp_at (HV.out.below hB) hgx
      have hbo : b < w.heap.size := by
        obtain ⟨b', o', e, q0, _⟩ := exp_at HV.out hgx
        cases e
        exact World.block_lt_of_cell? w _ q0
      have HX : Hid (xev (l.getD k gx0) k row (vals l row k) = xev x k row (vals l row k)) := by show _ = _; rw [getD_some hgx]
      have HO := Lib.hid hO
      have HXB := Lib.hid hx
      have HB := Lib.hid hB
      have hzo := hB.size
      obtain ⟨op, xa, xb, col, ck, cn, cs⟩ := x
      dsimp only at p0 p1 p2 p3 p4 p5 p6
      clear hgx hO hx hB
      go_wp2_with fail
      refine (operands_any ⟨op, xa, xb, col, ⟨ck, cn, cs⟩⟩ _).mono ?_
      rintro e w2 ⟨vo, rfl, hOp, hb2⟩
      replace hOp : Sl intE w2 free vo (opsG ⟨op, xa, xb, col, ⟨ck, cn, cs⟩⟩) := hOp
      have hql := opsG_length ⟨op, xa, xb, col, ⟨ck, cn, cs⟩⟩
      have hal := arity_lits op
      dsimp only at hql
      obtain ⟨ol, hol⟩ : ∃ ol, ol = opsG ⟨op, xa, xb, col, ⟨ck, cn, cs⟩⟩ := ⟨_, rfl⟩
      obtain ⟨q, hq⟩ : ∃ q, q = ol.length := ⟨_, rfl⟩
      rw [← hol] at hOp hql
      obtain ⟨a3, c3, rfl⟩ := hOp.shape
      rw [← hq] at hOp hql ⊢
      have hq2 : q ≤ 2 := by omega
      have HQA : Hid (q = (arity op).toNat) := hql
      have HOL := Lib.hid hol
      have HQ := Lib.hid hq
      have HOP := Lib.hid hOp
      have hbx := box_kept (World.alloc_heap_new wo (.cells #[.int .i64 op, .int .i64 xa, .int .i64 xb, .int .i64 col, .int .i64 ck, .int .i64 cn, .string cs] 39)) hb2
      have hbw : Below wo.heap.size wo w2 := below_alloc2' hb2
      have HBX := Lib.hid hbx
      have HBW := Lib.hid hbw
      have hz2 : wo.heap.size + 1 ≤ w2.heap.size := by simpa using hb2.size
      clear hOp hql hal hol hq hbx hbw hb2 p0 p1 p2 p3 p4 p5 p6
      go_wp2_with fail
      go_loopw [38, 10] (fun i ar w4 => ∃ (j : Nat) (la : List GVal), j ≤ q ∧ i = .int .i64 j ∧ Own valE w4 w2.heap.size ar la ∧ Hid (la = (ol.take j).map fun o => (vals l row k).getD o.toNat gnull) ∧ Hid (∀ o ∈ ol.take j, legalB k o = true) ∧ Below w2.heap.size w2 w4) (fun i _ _ => q - (intOf i).toNat)
      case atStart => exact ⟨0, [], Nat.zero_le _, rfl, Own.nil _ _ _, by show _ = _; simp, by show ∀ _ ∈ _, _; simp, Below.refl _ _⟩
      case round =>
        obtain ⟨j, la, hj, rfl, hO4, HLA, HLG, hB4⟩ := hrel
        obtain ⟨w4, rfl⟩ : ∃ w4 : World, w4 = wr := ⟨_, rfl⟩
        obtain ⟨ob, oc, rfl⟩ := hO4.shape
        have hll : la.length = j := by rw [HLA.out, List.length_map, List.length_take, ← HQ.out]; omega
        have hBw : Below w.heap.size w w4 := below_keep (below_keep HB.out HBW.out) hB4
        have hOv := (HO.out.below HBW.out).below hB4
        have hxr := box_kept (box_kept HXB.out HBW.out) hB4
        have hz4 := hB4.size
        have HOV := Lib.hid hOv
        have HXR := Lib.hid hxr
        have HBW4 := Lib.hid hBw
        have HO4 := Lib.hid hO4
        have HB4 := Lib.hid hB4
        have HLL := Lib.hid hll
        have hl2 : la.length ≤ 2 := by omega
        clear hll
        have hvl : (vals l row k ++ List.replicate (R + 1 - k) gnull).length = R + 1 := by simp [vals_length]; omega
        by_cases hlt4 : j < q
        · obtain ⟨y, hy⟩ := lget_some ol j (by rw [← HQ.out]; exact hlt4)
          obtain ⟨bA, oA, rfl, hat⟩ := ints_at' HOP.out hy
          replace hat := cell_keep hB4 hat
          have HY := Lib.hid hy
          have HCL : ∀ W, Hid (Calls Tryz.prog 40 #[.int .i64 (k : Int), .int .i64 y] W fun e w' => e = .returned (.bool (legalB k y)) ∧ W = w') := fun W => legal_any _ _ W
          have hmem : y ∈ ol := List.mem_of_getElem? hy
          clear hO4 hB4 hBw hOv hxr hy
          cases hlg : legalB k y
          · rw [hlg] at HCL
            have HT : Hid (vals l row k ++ List.replicate (R + 1 - k) gnull = vals l row (k + 1) ++ List.replicate (R + 1 - (k + 1)) gnull) :=
              vals_rep l row R k hlt (HX.out.trans (xev_ill _ k row _ y (by rw [← HOL.out]; exact hmem) hlg))
            clear hlg hmem hvl
            go_wp2_with fail
            refine (HCL _).out.mono ?_
            rintro e w5 ⟨rfl, rfl⟩
            go_wp2_with fail
            go_roundw
            case rel => exact ⟨k + 1, by omega, by go_num, by rw [← HT.out]; exact HOV.out, HXR.out, HBW4.out⟩
            case measure => simp [intOf]; omega
          · rw [hlg] at HCL
            obtain ⟨Y, rfl⟩ := Int.eq_ofNat_of_zero_le (show 0 ≤ y by unfold legalB at hlg; simp at hlg; exact hlg.1)
            have hYk : Y < k := by unfold legalB at hlg; simp at hlg; exact hlg
            obtain ⟨z, hz⟩ := lget_some (vals l row k ++ List.replicate (R + 1 - k) gnull) Y (by omega)
            obtain ⟨q0, q1, q2⟩ := own_at3 HOV.out hz
            have HZ : Hid ((vals l row k).getD Y gnull = z) := by
              show _ = _
              rw [← getD_left (vals l row k) (List.replicate (R + 1 - k) gnull) gnull (by rw [vals_length]; exact hYk), getD_some hz]
            have HLG' : Hid (∀ o ∈ ol.take (j + 1), legalB k o = true) := by
              show ∀ o ∈ _, _
              rw [take_get HY.out]
              intro o ho
              rcases List.mem_append.1 ho with h | h
              · exact HLG.out o h
              · rw [List.mem_singleton.1 h]; exact hlg
            have HLA' : Hid (la ++ [z] = (ol.take (j + 1)).map fun o => (vals l row k).getD o.toNat gnull) := by
              show _ = _
              rw [take_get HY.out, List.map_append, ← HLA.out]
              simp only [List.map_cons, List.map_nil, Int.toNat_natCast, HZ.out]
            have hYR : Y < R + 1 := by omega
            have hvz := (HOV.out.lt _ rfl).2
            clear hlg hz hmem hvl
            go_wp2_with fail
            refine (HCL _).out.mono ?_
            rintro e w5 ⟨rfl, rfl⟩
            go_wp2_with (at_builtin; refine wpList_push rfl _ _ 51 rfl valE Tryz.underlying51 w2.heap.size (.slice ob la.length oc) la rfl HO4.out [z] #[.int .i64 z.kind, .int .i64 z.n, .string z.s] (Els.one (cs := [.int .i64 z.kind, .int .i64 z.n, .string z.s]) rfl) 1 1 rfl rfl (by decide) (by unfold maxLen; omega) (by show _ * 32 ≤ _; omega) hz4 ?_; intro g cap w5 hP hPa)
            go_roundw
            case rel => exact ⟨j + 1, la ++ [z], by omega, by go_num, hP.own' (by simp), HLA', HLG', HB4.out.trans hP.below⟩
            case measure => simp [intOf]; omega
        · have hjq : j = q := by omega
          subst hjq
          have hall : ol.take j = ol := List.take_of_length_le (by rw [← HQ.out]; omega)
          have HAP : Hid (applyG ⟨op, xa, xb, col, ⟨ck, cn, cs⟩⟩ la row = xev (l.getD k gx0) k row (vals l row k)) := by
            show _ = _
            rw [HX.out, xev_leg _ k row _ (by rw [← HOL.out, ← hall]; exact HLG.out), HLA.out, hall, HOL.out]
          have hap := apply_any ⟨op, xa, xb, col, ⟨ck, cn, cs⟩⟩ (.slice ob la.length oc) (.slice a2 m c2) la row w4 hO4.sl (HRW.out.below HBW4.out) (.inr (HLL.out.trans HQA.out)) (by
            rw [HLA.out, hall]
            intro g hg
            obtain ⟨o', ho', rfl⟩ := List.mem_map.1 hg
            by_cases hlo : o'.toNat < (vals l row k).length
            · obtain ⟨z, hz⟩ := lget_some (vals l row k) o'.toNat hlo
              rw [getD_some hz]
              exact in64_vals l row HC.out HRO.out k z (List.mem_of_getElem? hz)
            · rw [show (vals l row k).getD o'.toNat gnull = gnull by rw [List.getD_eq_getElem?_getD, List.getElem?_eq_none (by omega)]; rfl]
              exact in64_gnull)
          rw [HAP.out] at hap
          obtain ⟨y, hy⟩ : ∃ y, y = xev (l.getD k gx0) k row (vals l row k) := ⟨_, rfl⟩
          rw [← hy] at hap
          have HY := Lib.hid hy
          have HAPP := Lib.hid hap
          have hbx4 := box_kept HBX.out hB4
          have x0 : w4.cell? ⟨wo.heap.size, 0, none⟩ = some (.int .i64 op) := cell_of hbx4 rfl
          have x1 : w4.cell? ⟨wo.heap.size, 1, none⟩ = some (.int .i64 xa) := cell_of hbx4 rfl
          have x2 : w4.cell? ⟨wo.heap.size, 2, none⟩ = some (.int .i64 xb) := cell_of hbx4 rfl
          have x3 : w4.cell? ⟨wo.heap.size, 3, none⟩ = some (.int .i64 col) := cell_of hbx4 rfl
          have x4 : w4.cell? ⟨wo.heap.size, 4, none⟩ = some (.int .i64 ck) := cell_of hbx4 rfl
          have x5 : w4.cell? ⟨wo.heap.size, 5, none⟩ = some (.int .i64 cn) := cell_of hbx4 rfl
          have x6 : w4.cell? ⟨wo.heap.size, 6, none⟩ = some (.string cs) := cell_of hbx4 rfl
          clear hap hall hy hO4 hB4 hBw hOv hxr hbx4
          go_wp2_with fail
          refine HAPP.out.mono ?_
          rintro e w5 ⟨rfl, hb5⟩
          have hO5 := HOV.out.below hb5
          have hx5 := box_kept HXR.out hb5
          have hB5 : Below w.heap.size w w5 := HBW4.out.trans (hb5.mono HBW4.out.size)
          have HV5 : Hid ((vals l row k ++ List.replicate (R + 1 - k) gnull).set k y = vals l row (k + 1) ++ List.replicate (R + 1 - (k + 1)) gnull) := by
            show _ = _
            have h := fill_set (vals l row k) gnull y (R + 1 - (k + 1))
            rw [vals_length, show R + 1 - (k + 1) + 1 = R + 1 - k by omega] at h
            rw [h, HY.out]; rfl
          have hS := own_set3 hO5 hvl hlt y
          rw [HV5.out] at hS
          obtain ⟨z, hz⟩ := lget_some (vals l row k ++ List.replicate (R + 1 - k) gnull) k (by omega)
          obtain ⟨q0, q1, q2⟩ := own_at3 hO5 hz
          have f0 := own_frozen hO5 hvl (k * 3)
          have f1 := own_frozen hO5 hvl (k * 3 + 1)
          have f2 := own_frozen hO5 hvl (k * 3 + 2)
          have HS := Lib.hid hS
          have HX5 := Lib.hid hx5
          have HB5 := Lib.hid hB5
          have hsz5 := hb5.size
          have hsz3 := (hO5.lt _ rfl).2
          clear hO5 hx5 hB5 hS hz hvl hb5 HAPP x0 x1 x2 x3 x4 x5 x6
          unfold aggG
          go_wp2_with fail
          go_roundw
          case rel =>
            refine ⟨k + 1, by omega, by go_num, HS.out, ?_, ((HB5.out.setCell (Nat.le_succ _) _).setCell (Nat.le_succ _) _).setCell (Nat.le_succ _) _⟩
            rw [heap_setCell_other _ _ _ _ (Nat.ne_of_lt (Nat.lt_succ_self _)), heap_setCell_other _ _ _ _ (Nat.ne_of_lt (Nat.lt_succ_self _)), heap_setCell_other _ _ _ _ (Nat.ne_of_lt (Nat.lt_succ_self _))]
            exact HX5.out
          case measure => simp [intOf]; omega
    · have hkR : k = R + 1 := by omega
      subst hkR
      obtain ⟨z, hz⟩ := lget_some (vals l row (R + 1) ++ List.replicate (R + 1 - (R + 1)) gnull) R (by simp [vals_length])
      obtain ⟨p0, p1, p2⟩ := own_at3 hO hz
      have HG : Hid ((vals l row (R + 1)).getD R gnull = z) := by
        show _ = _
        rw [← getD_left (vals l row (R + 1)) (List.replicate (R + 1 - (R + 1)) gnull) gnull (by rw [vals_length]; omega), getD_some hz]
      obtain ⟨⟨x0, x1, x2⟩, f0, f1, f2⟩ := box_three hx
      have hsz3 := hB.size
      have HB := Lib.hid hB
      have hsz4 := (hO.lt _ rfl).2
      clear hO hx hB hz
      go_wp2_with fail
      have hwz : w.heap.size < wo.heap.size := by omega
      exact bodyPost_ret (v := aggG z) (by simp [aggG, results, Tryz.results24, go_sem, x0, x1, x2]) rfl ⟨by rw [HG.out], ((HB.out.setCell (Nat.le_refl _) _).setCell (Nat.le_refl _) _).setCell (Nat.le_refl _) _⟩
/-- The program's Eval is the definition's. -/
theorem eval_any (v vr : Value) (l : List GExp) (root : Int) (row : List GVal) (w : World) (hv : Sl expE w free v l) (hr : Sl valE w free vr row) (hsz : 32 * l.length ≤ 281474976710656) (hc : ∀ x ∈ l, In64 x.c.n) (hrow : ∀ g ∈ row, In64 g.n) :
    Calls Tryz.prog 24 #[v, .int .i64 root, vr] w fun e w' => e = .returned (aggG (evalG l root row)) ∧ Below w.heap.size w w' := by
  unfold evalG
  by_cases h : root < 0 ∨ (l.length : Int) ≤ root
  · rw [if_pos h]; exact eval_none v vr l root w hv h
  · rw [if_neg h]
    obtain ⟨R, rfl⟩ := Int.eq_ofNat_of_zero_le (show 0 ≤ root by omega)
    exact eval_some v vr l R row w hv hr (by omega) (by omega) hc hrow
end Go.Proofs.YtfmbbfidjcgeiaaGreat

namespace Go.Proofs.YtfmbbfidjcgeiaaGreat
open Go.RowKit Go.Lib Go.Shelf

/-- What was there before the call is clear of a row of the call's own. -/
theorem Sl.clearOf {P : Program} {α : Type} {E : El P α} {w0 w : World} {G : Nat → Prop} {v u : Value} {ys : List α} (hu : Sl E w0 G u ys) (hb : Below w0.heap.size w0 w) (hlt : ∀ k, v.ownBlock = some k → w0.heap.size ≤ k) : Sl E w (fun k => some k = v.ownBlock) u ys :=
  ((hu.old (Nat.le_refl _)).below hb).mono (fun k _ hk => hlt k hk.symm)

theorem Sl.clearOr {P : Program} {α : Type} {E : El P α} {w0 w : World} {G D : Nat → Prop} {v u : Value} {ys : List α} (hu : Sl E w0 (fun k => G k ∨ D k) u ys) (hb : Below w0.heap.size w0 w) (hlt : ∀ k, v.ownBlock = some k → w0.heap.size ≤ k) : Sl E w (fun k => some k = v.ownBlock ∨ D k) u ys :=
  ((hu.mono (G' := fun k => w0.heap.size ≤ k ∨ D k) (fun k hk h => h.elim (fun h => by omega) .inr)).below hb).mono (fun k _ hk => hk.imp (fun h => hlt k h.symm) id)
def keepV (plo phi : Int) (e : List GExp) (pred : Int) (v : Ver) : Bool := (v.rhi == 1099511627776) && isOk v.lo v.hi plo phi && isTrueG (evalG e pred v.vals)
/-- The affected versions. -/
def affV (plo phi : Int) (e : List GExp) (pred : Int) (l : List Ver) : List Ver := sortV (l.filter (keepV plo phi e pred))
set_option maxHeartbeats 1000000 in
theorem current_any (x : Ver) (vx : Value) (w : World) :
    Calls Tryz.prog 54 #[.agg #[.int .i64 x.id, vx, .int .i64 x.lo, .int .i64 x.hi, .int .i64 x.rlo, .int .i64 x.rhi]] w fun e w' => e = .returned (.bool (x.rhi == 1099511627776)) ∧ Below w.heap.size w w' := by
  go_enter Tryz.func54, Tryz.ntmps54
  go_wp2_with fail
  go_ret
  exact ⟨rfl, below_alloc _ _⟩
set_option maxHeartbeats 4000000 in
set_option maxRecDepth 100000 in
theorem affected_any {D : Nat → Prop} (v ve : Value) (l : List Ver) (plo phi : Int) (e : List GExp) (pred : Int) (w : World) (hv : Sl (verE.avoid D) w free v l) (he : Sl expE w free ve e) (hl : l.length ≤ 1000) (ha : (l.filter (keepV plo phi e pred)).length ≤ 20) (hel : e.length ≤ 1000) (hc : ∀ x ∈ e, In64 x.c.n) (hvn : ∀ x ∈ l, ∀ g ∈ x.vals, In64 g.n) :
    Calls Tryz.prog 36 #[v, .agg #[.int .i64 plo, .int .i64 phi], ve, .int .i64 pred] w (RetOwn (verE.avoid D) w (affV plo phi e pred l)) := by
  obtain ⟨a, c, rfl⟩ := hv.shape
  obtain ⟨a2, c2, rfl⟩ := he.shape
  have HV := Lib.hid hv
  have HE := Lib.hid he
  have HC := Lib.hid hc
  have HVN := Lib.hid hvn
  obtain ⟨n, hn⟩ : ∃ n, n = l.length := ⟨_, rfl⟩
  obtain ⟨m, hm⟩ : ∃ m, m = e.length := ⟨_, rfl⟩
  have HN := Lib.hid hn
  have HM := Lib.hid hm
  have h63 := hv.1
  rw [← hn] at h63 HV hl ⊢
  rw [← hm] at HE hel ⊢
  clear hv he hc hvn hn hm
  go_enter Tryz.func36, Tryz.ntmps36
  go_wp2_with fail
  go_loopw [17, 9] (fun i o wr => ∃ k : Nat, k ≤ n ∧ i = .int .i64 k ∧ Own (verE.avoid D) wr (w.heap.size + 1) o ((l.take k).filter (keepV plo phi e pred)) ∧ wr.heap[w.heap.size]? = some (.cells #[.int .i64 plo, .int .i64 phi] 28 (0, 0)) ∧ Below w.heap.size w wr) (fun i _ _ => n - (intOf i).toNat)
  case atStart => exact ⟨0, Nat.zero_le _, rfl, Own.nil _ _ _, World.alloc_heap_new w _, below_alloc _ _⟩
  case round =>
    obtain ⟨k, hk, rfl, hO, hxp, hB⟩ := hrel
    obtain ⟨wo, rfl⟩ : ∃ wo : World, wo = wr := ⟨_, rfl⟩
    obtain ⟨oa, oc, rfl⟩ := hO.shape
    have hzo := hB.size
    by_cases hlt : k < n
    · obtain ⟨x, hx⟩ := lget_some l k (by rw [← HN.out]; exact hlt)
      obtain ⟨b, o, a1, c1v, rfl, hvv, p0, p1, p2, p3, p4, p5⟩ := vers_at (HV.out.below hB) hx
      have hxn := HVN.out x (List.mem_of_getElem? hx)
      have HX := Lib.hid hx
      have HVV := Lib.hid hvv
      have HXN := Lib.hid hxn
      have HVC : Hid (Sl valE w (fun k => free k ∨ D k) (.slice a1 x.vals.length c1v) x.vals) := by
        obtain ⟨b', o', a1', c1v', e', hv', q0, q1, _⟩ := vers_at HV.out (HX.out)
        cases e'
        have h1 := cell_keep hB q1
        rw [p1] at h1
        cases h1
        exact hv'
      have HO := Lib.hid hO
      have HB := Lib.hid hB
      obtain ⟨xid, xvals, xlo, xhi, xrlo, xrhi⟩ := x
      dsimp only at p0 p1 p2 p3 p4 p5 HVV HXN HVC
      obtain ⟨nv, hnv⟩ : ∃ nv, nv = xvals.length := ⟨_, rfl⟩
      rw [← hnv] at p1 HVV HVC
      have HNV := Lib.hid hnv
      have hflen : ((l.take k).filter (keepV plo phi e pred)).length ≤ 20 := by
        exact Nat.le_trans ((List.take_sublist k l).filter _).length_le ha
      have HXP := Lib.hid hxp
      obtain ⟨y0, y1, _, _⟩ := box_two hxp
      have hwz : w.heap.size < wo.heap.size := by
        have := World.block_lt_of_cell? wo _ y0
        exact this
      clear hx hvv hxn hO hB hxp hnv
      go_wp2_with fail
      refine (isect_any xlo xhi plo phi _).mono ?_
      rintro _ w2 ⟨rfl, hb2⟩
      have hbv := box_kept (World.alloc_heap_new wo (.cells #[.int .i64 xid, .slice a1 nv c1v, .int .i64 xlo, .int .i64 xhi, .int .i64 xrlo, .int .i64 xrhi] 64)) hb2
      have hB2 : Below wo.heap.size wo w2 := below_alloc2' hb2
      have hz2 : wo.heap.size + 1 ≤ w2.heap.size := by simpa using hb2.size
      have HBV := Lib.hid hbv
      have HB2 := Lib.hid hB2
      obtain ⟨ok, hok⟩ : ∃ ok, ok = isOk xlo xhi plo phi := ⟨_, rfl⟩
      rw [← hok]
      have HOK := Lib.hid hok
      obtain ⟨qlo, hqlo⟩ : ∃ q, q = isLo xlo xhi plo phi := ⟨_, rfl⟩
      obtain ⟨qhi, hqhi⟩ : ∃ q, q = isHi xlo xhi plo phi := ⟨_, rfl⟩
      rw [← hqlo, ← hqhi]
      have hbva := (below_alloc w2 (.cells #[.int .i64 qlo, .int .i64 qhi] 28)).block wo.heap.size (by omega)
      rw [hbv] at hbva
      have x0 : (w2.alloc (.cells #[.int .i64 qlo, .int .i64 qhi] 28)).cell? ⟨wo.heap.size, 0, none⟩ = some (.int .i64 xid) := cell_of hbva rfl
      have x1 : (w2.alloc (.cells #[.int .i64 qlo, .int .i64 qhi] 28)).cell? ⟨wo.heap.size, 1, none⟩ = some (.slice a1 nv c1v) := cell_of hbva rfl
      have x2 : (w2.alloc (.cells #[.int .i64 qlo, .int .i64 qhi] 28)).cell? ⟨wo.heap.size, 2, none⟩ = some (.int .i64 xlo) := cell_of hbva rfl
      have x3 : (w2.alloc (.cells #[.int .i64 qlo, .int .i64 qhi] 28)).cell? ⟨wo.heap.size, 3, none⟩ = some (.int .i64 xhi) := cell_of hbva rfl
      have x4 : (w2.alloc (.cells #[.int .i64 qlo, .int .i64 qhi] 28)).cell? ⟨wo.heap.size, 4, none⟩ = some (.int .i64 xrlo) := cell_of hbva rfl
      have x5 : (w2.alloc (.cells #[.int .i64 qlo, .int .i64 qhi] 28)).cell? ⟨wo.heap.size, 5, none⟩ = some (.int .i64 xrhi) := cell_of hbva rfl
      clear hbv hbva hB2 hb2 p0 p1 p2 p3 p4 p5 y0 y1 hok hqlo hqhi
      have HEV : Hid (Calls Tryz.prog 24 #[.slice a2 m c2, .int .i64 pred, .slice a1 nv c1v] (w2.alloc (.cells #[.int .i64 qlo, .int .i64 qhi] 28)) fun e' w' => e' = .returned (aggG (evalG e pred xvals)) ∧ Below (w2.alloc (.cells #[.int .i64 qlo, .int .i64 qhi] 28)).heap.size (w2.alloc (.cells #[.int .i64 qlo, .int .i64 qhi] 28)) w') :=
        eval_any _ _ e pred xvals (w2.alloc (.cells #[.int .i64 qlo, .int .i64 qhi] 28)) ((HE.out.below (HB.out.trans (HB2.out.mono hzo))).below (below_alloc _ _)) ((HVV.out.free.below HB2.out).below (below_alloc _ _)) (by rw [← HM.out]; omega) HC.out HXN.out
      obtain ⟨hg, hhg⟩ : ∃ g, g = evalG e pred xvals := ⟨_, rfl⟩
      rw [← hhg] at HEV
      have HHG := Lib.hid hhg
      clear hhg
      go_wp2_with fail
      refine HEV.out.mono ?_
      rintro _ w3 ⟨rfl, hb3⟩
      have hbv3 := box_kept (HBV.out) (below_alloc2' hb3)
      have hB3 : Below wo.heap.size wo w3 := HB2.out.trans ((below_alloc2' hb3).mono HB2.out.size)
      have hz3 : w2.heap.size + 1 ≤ w3.heap.size := by simpa using hb3.size
      have hbva := (below_alloc w3 (.cells #[.int .i64 hg.kind, .int .i64 hg.n, .string hg.s] 36)).block wo.heap.size (by omega)
      rw [hbv3] at hbva
      have HBV3 := Lib.hid hbv3
      have HB3 := Lib.hid hB3
      clear x0 x1 x2 x3 x4 x5 HEV
      have x0 : (w3.alloc (.cells #[.int .i64 hg.kind, .int .i64 hg.n, .string hg.s] 36)).cell? ⟨wo.heap.size, 0, none⟩ = some (.int .i64 xid) := cell_of hbva rfl
      have x1 : (w3.alloc (.cells #[.int .i64 hg.kind, .int .i64 hg.n, .string hg.s] 36)).cell? ⟨wo.heap.size, 1, none⟩ = some (.slice a1 nv c1v) := cell_of hbva rfl
      have x2 : (w3.alloc (.cells #[.int .i64 hg.kind, .int .i64 hg.n, .string hg.s] 36)).cell? ⟨wo.heap.size, 2, none⟩ = some (.int .i64 xlo) := cell_of hbva rfl
      have x3 : (w3.alloc (.cells #[.int .i64 hg.kind, .int .i64 hg.n, .string hg.s] 36)).cell? ⟨wo.heap.size, 3, none⟩ = some (.int .i64 xhi) := cell_of hbva rfl
      have x4 : (w3.alloc (.cells #[.int .i64 hg.kind, .int .i64 hg.n, .string hg.s] 36)).cell? ⟨wo.heap.size, 4, none⟩ = some (.int .i64 xrlo) := cell_of hbva rfl
      have x5 : (w3.alloc (.cells #[.int .i64 hg.kind, .int .i64 hg.n, .string hg.s] 36)).cell? ⟨wo.heap.size, 5, none⟩ = some (.int .i64 xrhi) := cell_of hbva rfl
      clear hbva hbv3 hB3 hb3
      unfold aggG
      go_wp2_with fail
      refine (current_any ⟨xid, xvals, xlo, xhi, xrlo, xrhi⟩ _ _).mono ?_
      rintro _ w4 ⟨rfl, hb4⟩
      dsimp only
      have hB4 : Below wo.heap.size wo w4 := HB3.out.trans ((below_alloc2' hb4).mono HB3.out.size)
      have hh4 := box_kept (World.alloc_heap_new w3 (.cells #[.int .i64 hg.kind, .int .i64 hg.n, .string hg.s] 36)) hb4
      have hbv4 := box_kept HBV3.out (below_alloc2' hb4)
      obtain ⟨⟨g0, g1, g2⟩, _⟩ := box_three hh4
      have HO4 := Lib.hid (HO.out.below hB4)
      have HXP4 := Lib.hid (box_kept HXP.out hB4)
      have HB4w := Lib.hid (HB.out.trans (hB4.mono hzo))
      have hz4 : w3.heap.size + 1 ≤ w4.heap.size := by simpa using hb4.size
      obtain ⟨cur, hcur⟩ : ∃ cur, cur = (xrhi == 1099511627776) := ⟨_, rfl⟩
      have HKV : Hid (keepV plo phi e pred ⟨xid, xvals, xlo, xhi, xrlo, xrhi⟩ = (cur && ok && isTrueG hg)) := by
        show _ = _
        rw [hcur, HOK.out, HHG.out]
        rfl
      rw [← hcur]
      clear x0 x1 x2 x3 x4 x5 hB4 hh4 hb4 hcur
      have HBV4 := Lib.hid hbv4
      have x0 : w4.cell? ⟨wo.heap.size, 0, none⟩ = some (.int .i64 xid) := cell_of hbv4 rfl
      have x1 : w4.cell? ⟨wo.heap.size, 1, none⟩ = some (.slice a1 nv c1v) := cell_of hbv4 rfl
      have x2 : w4.cell? ⟨wo.heap.size, 2, none⟩ = some (.int .i64 xlo) := cell_of hbv4 rfl
      have x3 : w4.cell? ⟨wo.heap.size, 3, none⟩ = some (.int .i64 xhi) := cell_of hbv4 rfl
      have x4 : w4.cell? ⟨wo.heap.size, 4, none⟩ = some (.int .i64 xrlo) := cell_of hbv4 rfl
      have x5 : w4.cell? ⟨wo.heap.size, 5, none⟩ = some (.int .i64 xrhi) := cell_of hbv4 rfl
      clear hbv4
      cases cur
      · 
        have HT : Hid ((l.take (k + 1)).filter (keepV plo phi e pred) = (l.take k).filter (keepV plo phi e pred)) := by
          show _ = _
          rw [take_get HX.out, List.filter_append, List.filter_cons_of_neg (by rw [HKV.out]; simp)]
          simp
        go_wp2_with fail
        go_roundw
        case rel => exact ⟨k + 1, by omega, by go_num, by rw [HT.out]; exact HO4.out, HXP4.out, HB4w.out⟩
        case measure => simp [intOf]; omega
      · cases ok
        · 
          have HT : Hid ((l.take (k + 1)).filter (keepV plo phi e pred) = (l.take k).filter (keepV plo phi e pred)) := by
            show _ = _
            rw [take_get HX.out, List.filter_append, List.filter_cons_of_neg (by rw [HKV.out]; simp)]
            simp
          go_wp2_with fail
          go_roundw
          case rel => exact ⟨k + 1, by omega, by go_num, by rw [HT.out]; exact HO4.out, HXP4.out, HB4w.out⟩
          case measure => simp [intOf]; omega
        · by_cases hk3 : (hg.kind == 3) = true
          · by_cases hn1 : (hg.n == 1) = true
            · have HT : Hid ((l.take k).filter (keepV plo phi e pred) ++ [⟨xid, xvals, xlo, xhi, xrlo, xrhi⟩] = (l.take (k + 1)).filter (keepV plo phi e pred)) := by
                show _ = _
                rw [take_get HX.out, List.filter_append, List.filter_cons_of_pos (by rw [HKV.out]; unfold isTrueG; rw [hk3, hn1]; rfl)]
                rfl
              have hz0 : w.heap.size + 1 ≤ w4.heap.size := by omega
              have HIS : Hid (Els (verE.avoid D) w4 (fun k' => some k' = (Value.slice oa ((l.take k).filter (keepV plo phi e pred)).length oc).ownBlock) [⟨xid, xvals, xlo, xhi, xrlo, xrhi⟩] [.int .i64 xid, .slice a1 nv c1v, .int .i64 xlo, .int .i64 xhi, .int .i64 xrlo, .int .i64 xrhi]) :=
                Els.one ⟨_, rfl, HVC.out.clearOr HB4w.out (fun k' hk' => Nat.le_of_succ_le (HO4.out.lt k' hk').1)⟩
              go_wp2_with (at_builtin; refine wpList_push rfl _ _ 25 rfl (verE.avoid D) Tryz.underlying25 (w.heap.size + 1) (.slice oa ((l.take k).filter (keepV plo phi e pred)).length oc) ((l.take k).filter (keepV plo phi e pred)) rfl HO4.out [⟨xid, xvals, xlo, xhi, xrlo, xrhi⟩] #[.int .i64 xid, .slice a1 nv c1v, .int .i64 xlo, .int .i64 xhi, .int .i64 xrlo, .int .i64 xrhi] HIS.out 1 1 rfl rfl (by decide) (by unfold maxLen; omega) (by show _ * 64 ≤ _; omega) hz0 ?_; intro g cap w5 hP hPa)
              go_roundw
              case rel => exact ⟨k + 1, by omega, by go_num, by rw [← HT.out]; exact hP.own' (by simp), hP.block (fun h => by have := (HO4.out.lt _ h.symm).1; omega) HXP4.out, HB4w.out.trans (hP.below.mono (by omega))⟩
              case measure => simp [intOf]; omega
            · replace hn1 : (hg.n == 1) = false := by simpa using hn1
              have HT : Hid ((l.take (k + 1)).filter (keepV plo phi e pred) = (l.take k).filter (keepV plo phi e pred)) := by
                show _ = _
                rw [take_get HX.out, List.filter_append, List.filter_cons_of_neg (by rw [HKV.out]; unfold isTrueG; rw [hk3, hn1]; simp)]
                simp
              go_wp2_with fail
              go_roundw
              case rel => exact ⟨k + 1, by omega, by go_num, by rw [HT.out]; exact HO4.out, HXP4.out, HB4w.out⟩
              case measure => simp [intOf]; omega
          · replace hk3 : (hg.kind == 3) = false := by simpa using hk3
            have HT : Hid ((l.take (k + 1)).filter (keepV plo phi e pred) = (l.take k).filter (keepV plo phi e pred)) := by
              show _ = _
              rw [take_get HX.out, List.filter_append, List.filter_cons_of_neg (by rw [HKV.out]; unfold isTrueG; rw [hk3]; simp)]
              simp
            go_wp2_with fail
            go_roundw
            case rel => exact ⟨k + 1, by omega, by go_num, by rw [HT.out]; exact HO4.out, HXP4.out, HB4w.out⟩
            case measure => simp [intOf]; omega
    · have HF : Hid ((l.take k).filter (keepV plo phi e pred) = l.filter (keepV plo phi e pred)) := by show _ = _; rw [List.take_of_length_le (by rw [← HN.out]; omega)]
      rw [HF.out] at hO ⊢
      have hfl : (l.filter (keepV plo phi e pred)).length ≤ 20 := ha
      have hwz : w.heap.size + 1 ≤ wo.heap.size := World.block_lt_of_cell? wo _ (box_two hxp).1
      have HO := Lib.hid hO
      have HB := Lib.hid hB
      clear hO hB hxp
      go_wp2_with fail
      refine (stable_any _ oa oc (w.heap.size + 1) wo HO.out hfl hwz).mono ?_
      rintro _ w5 ⟨rfl, hO5, hB5⟩
      have HO5 := Lib.hid hO5
      have HB5 := Lib.hid (HB.out.trans (hB5.mono (Nat.le_succ _)))
      clear hO5 hB5 HO
      go_wp2_with fail
      go_ret
      refine ⟨_, rfl, ?_, HB5.out⟩
      have h := HO5.out.mono (Nat.le_succ w.heap.size)
      have hs := sortV_length (l.filter (keepV plo phi e pred))
      rw [show affV plo phi e pred l = sortV (l.filter (keepV plo phi e pred)) from rfl]
      exact h
end Go.Proofs.YtfmbbfidjcgeiaaGreat

namespace Go.Proofs.YtfmbbfidjcgeiaaGreat
open Go.RowKit Go.Lib Go.Shelf

theorem size_drewA {n : Nat} {w : World} (h : n ≤ w.heap.size) : n ≤ w.drew.heap.size := h
theorem heap_drew {w : World} {g : Nat} {o : Option Obj} (h : w.heap[g]? = o) : w.drew.heap[g]? = o := h
end Go.Proofs.YtfmbbfidjcgeiaaGreat
