/- A part of the proofs: ExpG, Prd, Own, Hand, Isv, ExpH, ExpI, EvlP, EvlA, EvlB, EvlC, EvlD. No condition beside sizes and tables that read as laid. -/
import Derived.Test.YtfmbbfidjcgeiaaGreatMgAa
import Derived.Deep.RegionHeld3
namespace Go.Proofs.YtfmbbfidjcgeiaaGreat
open Go.RowKit Go.Lib Go.Shelf

def b2i (b : Bool) : Int := if b = true then 1 else 0
theorem rboolean_ag (b : Bool) (w : World) : Calls Tryz.prog 48 #[.bool b] w fun e w' => e = .returned (.agg #[.int .i64 3, .int .i64 (b2i b), .string ⟨#[]⟩]) ∧ Below w.heap.size w w' := rboolean_any b w
theorem rtrue_kns (k n : Int) (s : ByteArray) (w : World) : Calls Tryz.prog 13 #[.agg #[.int .i64 k, .int .i64 n, .string s]] w fun e w' => e = .returned (.bool (k == 3 && n == 1)) ∧ Below w.heap.size w w' := rtrue_any ⟨k, n, s⟩ w
/-- What an operator gives. -/
def xapp (op col : Int) (c : GVal) (row : List GVal) (a b : GVal) : GVal :=
  if op = 1 then c
  else if op = 2 then (if 0 ≤ col ∧ col < row.length then row.getD col.toNat gnull else gnull)
  else if op = 6 then gbool (a.kind != 0 && b.kind != 0 && cmpG a b == 0)
  else if op = 7 then gbool (a.kind != 0 && a.kind == b.kind && decide (cmpG a b < 0))
  else if op = 8 then gbool (isTrueG a && isTrueG b)
  else if op = 9 then gbool (isTrueG a || isTrueG b)
  else if op = 10 then gbool (!isTrueG a)
  else if op = 11 then gbool (a.kind == 0)
  else arithG op a b
def xev (x : GExp) (k : Nat) (row done : List GVal) : GVal :=
  if arity x.op < 0 ∨ legalX x k = false then gnull
  else xapp x.op x.col x.c row (done.getD x.a.toNat gnull) (done.getD x.b.toNat gnull)
theorem sz4 {n : Nat} {W W' : World} (h : n + 1 + 1 + 1 < W.heap.size) (hb : Below W.heap.size W W') : n < W'.heap.size ∧ n + 1 < W'.heap.size ∧ n + 1 + 1 < W'.heap.size ∧ n + 1 + 1 + 1 < W'.heap.size := by
  have := hb.size
  omega

theorem bel4 (w : World) (c1 c2 c3 c4 : Obj) : Below w.heap.size w ((((w.alloc c1).alloc c2).alloc c3).alloc c4) := below_alloc_keep (below_alloc_keep (below_alloc_two w c1 c2))
theorem heap4_0 (w : World) (c1 c2 c3 c4 : Obj) : ((((w.alloc c1).alloc c2).alloc c3).alloc c4).heap[w.heap.size]? = some c1 :=
  (Below.heap_alloc _ _ _ (by simp; omega)).trans ((Below.heap_alloc _ _ _ (by simp; omega)).trans (heap_alloc_old' w c1 c2))
theorem bel_end {w W wb : World} (h : Below w.heap.size w W) (hb : Below W.heap.size W wb) (x y z : Value) : Below w.heap.size w (((wb.setCell ⟨w.heap.size, 0, none⟩ x).setCell ⟨w.heap.size, 1, none⟩ y).setCell ⟨w.heap.size, 2, none⟩ z) :=
  (((below_keep h hb).setCell (Nat.le_refl _) _).setCell (Nat.le_refl _) _).setCell (Nat.le_refl _) _
/-! -/

/-! -/

/-! -/

set_option maxHeartbeats 4000000 in
set_option maxRecDepth 100000 in
theorem reval_6 (b o n c k : Nat) (ck cn : Int) (cs : ByteArray) (w : World) (hkn : k < n) (_hn63 : n ≤ 9223372036854775807) (b3 o3 n3 c3 A B : Nat) (vr : Value) (col ka na kb nb : Int) (sa sb : ByteArray)
    (c0 : w.cell? ⟨b, o + k * 7, none⟩ = some (.int .i64 6)) (c1 : w.cell? ⟨b, o + k * 7 + 1, none⟩ = some (.int .i64 (A : Int))) (c2 : w.cell? ⟨b, o + k * 7 + 2, none⟩ = some (.int .i64 (B : Int))) (c3' : w.cell? ⟨b, o + k * 7 + 3, none⟩ = some (.int .i64 col))
    (c4 : w.cell? ⟨b, o + k * 7 + 4, none⟩ = some (.int .i64 ck)) (c5 : w.cell? ⟨b, o + k * 7 + 5, none⟩ = some (.int .i64 cn)) (c6 : w.cell? ⟨b, o + k * 7 + 6, none⟩ = some (.string cs))
    (a0 : w.cell? ⟨b3, o3 + A * 3, none⟩ = some (.int .i64 ka)) (a1 : w.cell? ⟨b3, o3 + A * 3 + 1, none⟩ = some (.int .i64 na)) (a2 : w.cell? ⟨b3, o3 + A * 3 + 2, none⟩ = some (.string sa)) (hA : A < n3) (_hn3 : n3 ≤ 9223372036854775807)
    (b0 : w.cell? ⟨b3, o3 + B * 3, none⟩ = some (.int .i64 kb)) (b1 : w.cell? ⟨b3, o3 + B * 3 + 1, none⟩ = some (.int .i64 nb)) (b2 : w.cell? ⟨b3, o3 + B * 3 + 2, none⟩ = some (.string sb)) (hB : B < n3)
    (HAR : ∀ W, Hid (Calls Tryz.prog 46 #[.int .i64 6] W fun e w' => e = .returned (.int .i64 2) ∧ W = w'))
    (HLG : ∀ W, Below w.heap.size w W → Hid (Calls Tryz.prog 47 #[.slice (some ⟨b, o, none⟩) n c, .int .i64 (k : Int)] W fun e w' => e = .returned (.bool true) ∧ W = w')) :
    Calls Tryz.prog 28 #[.slice (some ⟨b, o, none⟩) n c, .int .i64 (k : Int), vr, .slice (some ⟨b3, o3, none⟩) n3 c3] w fun e w' => e = .returned (aggG (gbool (ka != 0 && kb != 0 && cmpG ⟨ka, na, sa⟩ ⟨kb, nb, sb⟩ == 0))) ∧ Below w.heap.size w w' := by
  have lb : b < w.heap.size := World.block_lt_of_cell? w _ c0
  have lb3 : b3 < w.heap.size := World.block_lt_of_cell? w _ a0
  have lb3a : b3 < w.heap.size + 1 := by omega
  have lb3b : b3 < w.heap.size + 1 + 1 := by omega
  have lb3c : b3 < w.heap.size + 1 + 1 + 1 := by omega
  have HCM := fun W => Lib.hid (cmpG_any ⟨ka, na, sa⟩ ⟨kb, nb, sb⟩ W)
  obtain ⟨r, hr⟩ : ∃ r, r = cmpG ⟨ka, na, sa⟩ ⟨kb, nb, sb⟩ := ⟨_, rfl⟩
  rw [← hr] at HCM ⊢
  dsimp only at HCM
  clear hr
  by_cases h0 : ka = 0
  · have q0 : (ka != 0) = false := by simpa using h0
    have HX : Hid ((gbool (ka != 0 && kb != 0 && r == 0)) = gbool false) := by show _ = _; rw [q0]; rfl
    clear h0
    go_enter Tryz.func28, Tryz.ntmps28
    go_wp2_with (first
      | (go_at_call 46; refine (HAR _).out.mono ?_; rintro e w' ⟨rfl, rfl⟩)
      | (go_at_call 47; refine (HLG _ (below_alloc_two w _ _)).out.mono ?_; rintro e w' ⟨rfl, rfl⟩)
      | (go_at_call 48; refine (rboolean_ag _ _).mono ?_; rintro e wb ⟨rfl, hbb⟩; obtain ⟨hcb, hfb⟩ := bcell hbb; obtain ⟨hzb0, hzb1, hzb2, hzb3⟩ := sz4 (n := w.heap.size) (by first | assumption | (simp; done)) hbb))
    obtain ⟨⟨d0, d1, d2⟩, _⟩ := box_three (box_kept (heap4_0 w _ _ _ _) hbb)
    refine bodyPost_ret (v := .agg #[.int .i64 3, .int .i64 0, .string ⟨#[]⟩]) ?_ rfl ⟨?_, ?_⟩
    · simp [results, Tryz.results28, go_sem, b2i, d0, d1, d2]
    · first | rfl | (rw [HX.out]; rfl)
    · exact bel_end (bel4 w _ _ _ _) hbb _ _ _
  · have q0 : (ka != 0) = true := by simpa using h0
    by_cases h1 : kb = 0
    · have q1 : (kb != 0) = false := by simpa using h1
      have HX : Hid ((gbool (ka != 0 && kb != 0 && r == 0)) = gbool false) := by show _ = _; rw [q0, q1]; rfl
      clear h0 h1
      go_enter Tryz.func28, Tryz.ntmps28
      go_wp2_with (first
        | (go_at_call 46; refine (HAR _).out.mono ?_; rintro e w' ⟨rfl, rfl⟩)
        | (go_at_call 47; refine (HLG _ (below_alloc_two w _ _)).out.mono ?_; rintro e w' ⟨rfl, rfl⟩)
        | (go_at_call 48; refine (rboolean_ag _ _).mono ?_; rintro e wb ⟨rfl, hbb⟩; obtain ⟨hcb, hfb⟩ := bcell hbb; obtain ⟨hzb0, hzb1, hzb2, hzb3⟩ := sz4 (n := w.heap.size) (by first | assumption | (simp; done)) hbb))
      obtain ⟨⟨d0, d1, d2⟩, _⟩ := box_three (box_kept (heap4_0 w _ _ _ _) hbb)
      refine bodyPost_ret (v := .agg #[.int .i64 3, .int .i64 0, .string ⟨#[]⟩]) ?_ rfl ⟨?_, ?_⟩
      · simp [results, Tryz.results28, go_sem, b2i, d0, d1, d2]
      · first | rfl | (rw [HX.out]; rfl)
      · exact bel_end (bel4 w _ _ _ _) hbb _ _ _
    · have q1 : (kb != 0) = true := by simpa using h1
      by_cases h2 : r = 0
      · have q2 : (r == 0) = true := by simpa using h2
        have HX : Hid ((gbool (ka != 0 && kb != 0 && r == 0)) = gbool true) := by show _ = _; rw [q0, q1, q2]; rfl
        clear h0 h1 h2
        go_enter Tryz.func28, Tryz.ntmps28
        go_wp2_with (first
          | (go_at_call 46; refine (HAR _).out.mono ?_; rintro e w' ⟨rfl, rfl⟩)
          | (go_at_call 47; refine (HLG _ (below_alloc_two w _ _)).out.mono ?_; rintro e w' ⟨rfl, rfl⟩)
          | (go_at_call 49; refine (HCM _).out.mono ?_; rintro e wc ⟨rfl, hbc⟩; obtain ⟨hcc, hfc⟩ := bcell hbc; obtain ⟨hzc0, hzc1, hzc2, hzc3⟩ := sz4 (n := w.heap.size) (by first | assumption | (simp; done)) hbc)
          | (go_at_call 48; refine (rboolean_ag _ _).mono ?_; rintro e wb ⟨rfl, hbb⟩; obtain ⟨hcb, hfb⟩ := bcell hbb; obtain ⟨hzb0, hzb1, hzb2, hzb3⟩ := sz4 (n := w.heap.size) (by first | assumption | (simp; done)) hbb))
        obtain ⟨⟨d0, d1, d2⟩, _⟩ := box_three (box_kept (box_kept (heap4_0 w _ _ _ _) hbc) hbb)
        refine bodyPost_ret (v := .agg #[.int .i64 3, .int .i64 1, .string ⟨#[]⟩]) ?_ rfl ⟨?_, ?_⟩
        · simp [results, Tryz.results28, go_sem, b2i, d0, d1, d2]
        · first | rfl | (rw [HX.out]; rfl)
        · exact bel_end (below_keep (bel4 w _ _ _ _) hbc) hbb _ _ _
      · have q2 : (r == 0) = false := by simpa using h2
        have HX : Hid ((gbool (ka != 0 && kb != 0 && r == 0)) = gbool false) := by show _ = _; rw [q0, q1, q2]; rfl
        clear h0 h1 h2
        go_enter Tryz.func28, Tryz.ntmps28
        go_wp2_with (first
          | (go_at_call 46; refine (HAR _).out.mono ?_; rintro e w' ⟨rfl, rfl⟩)
          | (go_at_call 47; refine (HLG _ (below_alloc_two w _ _)).out.mono ?_; rintro e w' ⟨rfl, rfl⟩)
          | (go_at_call 49; refine (HCM _).out.mono ?_; rintro e wc ⟨rfl, hbc⟩; obtain ⟨hcc, hfc⟩ := bcell hbc; obtain ⟨hzc0, hzc1, hzc2, hzc3⟩ := sz4 (n := w.heap.size) (by first | assumption | (simp; done)) hbc)
          | (go_at_call 48; refine (rboolean_ag _ _).mono ?_; rintro e wb ⟨rfl, hbb⟩; obtain ⟨hcb, hfb⟩ := bcell hbb; obtain ⟨hzb0, hzb1, hzb2, hzb3⟩ := sz4 (n := w.heap.size) (by first | assumption | (simp; done)) hbb))
        obtain ⟨⟨d0, d1, d2⟩, _⟩ := box_three (box_kept (box_kept (heap4_0 w _ _ _ _) hbc) hbb)
        refine bodyPost_ret (v := .agg #[.int .i64 3, .int .i64 0, .string ⟨#[]⟩]) ?_ rfl ⟨?_, ?_⟩
        · simp [results, Tryz.results28, go_sem, b2i, d0, d1, d2]
        · first | rfl | (rw [HX.out]; rfl)
        · exact bel_end (below_keep (bel4 w _ _ _ _) hbc) hbb _ _ _

set_option maxHeartbeats 4000000 in
set_option maxRecDepth 100000 in
theorem reval_7 (b o n c k : Nat) (ck cn : Int) (cs : ByteArray) (w : World) (hkn : k < n) (_hn63 : n ≤ 9223372036854775807) (b3 o3 n3 c3 A B : Nat) (vr : Value) (col ka na kb nb : Int) (sa sb : ByteArray)
    (c0 : w.cell? ⟨b, o + k * 7, none⟩ = some (.int .i64 7)) (c1 : w.cell? ⟨b, o + k * 7 + 1, none⟩ = some (.int .i64 (A : Int))) (c2 : w.cell? ⟨b, o + k * 7 + 2, none⟩ = some (.int .i64 (B : Int))) (c3' : w.cell? ⟨b, o + k * 7 + 3, none⟩ = some (.int .i64 col))
    (c4 : w.cell? ⟨b, o + k * 7 + 4, none⟩ = some (.int .i64 ck)) (c5 : w.cell? ⟨b, o + k * 7 + 5, none⟩ = some (.int .i64 cn)) (c6 : w.cell? ⟨b, o + k * 7 + 6, none⟩ = some (.string cs))
    (a0 : w.cell? ⟨b3, o3 + A * 3, none⟩ = some (.int .i64 ka)) (a1 : w.cell? ⟨b3, o3 + A * 3 + 1, none⟩ = some (.int .i64 na)) (a2 : w.cell? ⟨b3, o3 + A * 3 + 2, none⟩ = some (.string sa)) (hA : A < n3) (_hn3 : n3 ≤ 9223372036854775807)
    (b0 : w.cell? ⟨b3, o3 + B * 3, none⟩ = some (.int .i64 kb)) (b1 : w.cell? ⟨b3, o3 + B * 3 + 1, none⟩ = some (.int .i64 nb)) (b2 : w.cell? ⟨b3, o3 + B * 3 + 2, none⟩ = some (.string sb)) (hB : B < n3)
    (HAR : ∀ W, Hid (Calls Tryz.prog 46 #[.int .i64 7] W fun e w' => e = .returned (.int .i64 2) ∧ W = w'))
    (HLG : ∀ W, Below w.heap.size w W → Hid (Calls Tryz.prog 47 #[.slice (some ⟨b, o, none⟩) n c, .int .i64 (k : Int)] W fun e w' => e = .returned (.bool true) ∧ W = w')) :
    Calls Tryz.prog 28 #[.slice (some ⟨b, o, none⟩) n c, .int .i64 (k : Int), vr, .slice (some ⟨b3, o3, none⟩) n3 c3] w fun e w' => e = .returned (aggG (gbool (ka != 0 && ka == kb && decide (cmpG ⟨ka, na, sa⟩ ⟨kb, nb, sb⟩ < 0)))) ∧ Below w.heap.size w w' := by
  have lb : b < w.heap.size := World.block_lt_of_cell? w _ c0
  have lb3 : b3 < w.heap.size := World.block_lt_of_cell? w _ a0
  have lb3a : b3 < w.heap.size + 1 := by omega
  have lb3b : b3 < w.heap.size + 1 + 1 := by omega
  have lb3c : b3 < w.heap.size + 1 + 1 + 1 := by omega
  have HCM := fun W => Lib.hid (cmpG_any ⟨ka, na, sa⟩ ⟨kb, nb, sb⟩ W)
  obtain ⟨r, hr⟩ : ∃ r, r = cmpG ⟨ka, na, sa⟩ ⟨kb, nb, sb⟩ := ⟨_, rfl⟩
  rw [← hr] at HCM ⊢
  dsimp only at HCM
  clear hr
  by_cases h0 : ka = 0
  · have q0 : (ka != 0) = false := by simpa using h0
    have HX : Hid ((gbool (ka != 0 && ka == kb && decide (r < 0))) = gbool false) := by show _ = _; rw [q0]; rfl
    clear h0
    go_enter Tryz.func28, Tryz.ntmps28
    go_wp2_with (first
      | (go_at_call 46; refine (HAR _).out.mono ?_; rintro e w' ⟨rfl, rfl⟩)
      | (go_at_call 47; refine (HLG _ (below_alloc_two w _ _)).out.mono ?_; rintro e w' ⟨rfl, rfl⟩)
      | (go_at_call 48; refine (rboolean_ag _ _).mono ?_; rintro e wb ⟨rfl, hbb⟩; obtain ⟨hcb, hfb⟩ := bcell hbb; obtain ⟨hzb0, hzb1, hzb2, hzb3⟩ := sz4 (n := w.heap.size) (by first | assumption | (simp; done)) hbb))
    obtain ⟨⟨d0, d1, d2⟩, _⟩ := box_three (box_kept (heap4_0 w _ _ _ _) hbb)
    refine bodyPost_ret (v := .agg #[.int .i64 3, .int .i64 0, .string ⟨#[]⟩]) ?_ rfl ⟨?_, ?_⟩
    · simp [results, Tryz.results28, go_sem, b2i, d0, d1, d2]
    · first | rfl | (rw [HX.out]; rfl)
    · exact bel_end (bel4 w _ _ _ _) hbb _ _ _
  · have q0 : (ka != 0) = true := by simpa using h0
    by_cases h1 : ka = kb
    · have q1 : (ka == kb) = true := by simpa using h1
      clear h1
      by_cases h2 : r < 0
      · have q2 : decide (r < 0) = true := by simpa using h2
        have HX : Hid ((gbool (ka != 0 && ka == kb && decide (r < 0))) = gbool true) := by show _ = _; rw [q0, q1, q2]; rfl
        clear h0
        go_enter Tryz.func28, Tryz.ntmps28
        go_wp2_with (first
          | (go_at_call 46; refine (HAR _).out.mono ?_; rintro e w' ⟨rfl, rfl⟩)
          | (go_at_call 47; refine (HLG _ (below_alloc_two w _ _)).out.mono ?_; rintro e w' ⟨rfl, rfl⟩)
          | (go_at_call 49; refine (HCM _).out.mono ?_; rintro e wc ⟨rfl, hbc⟩; obtain ⟨hcc, hfc⟩ := bcell hbc; obtain ⟨hzc0, hzc1, hzc2, hzc3⟩ := sz4 (n := w.heap.size) (by first | assumption | (simp; done)) hbc)
          | (go_at_call 48; refine (rboolean_ag _ _).mono ?_; rintro e wb ⟨rfl, hbb⟩; obtain ⟨hcb, hfb⟩ := bcell hbb; obtain ⟨hzb0, hzb1, hzb2, hzb3⟩ := sz4 (n := w.heap.size) (by first | assumption | (simp; done)) hbb))
        obtain ⟨⟨d0, d1, d2⟩, _⟩ := box_three (box_kept (box_kept (heap4_0 w _ _ _ _) hbc) hbb)
        refine bodyPost_ret (v := .agg #[.int .i64 3, .int .i64 1, .string ⟨#[]⟩]) ?_ rfl ⟨?_, ?_⟩
        · simp [results, Tryz.results28, go_sem, b2i, d0, d1, d2]
        · first | rfl | (rw [HX.out]; rfl)
        · exact bel_end (below_keep (bel4 w _ _ _ _) hbc) hbb _ _ _
      · have q2 : decide (r < 0) = false := by simpa using h2
        have HX : Hid ((gbool (ka != 0 && ka == kb && decide (r < 0))) = gbool false) := by show _ = _; rw [q0, q1, q2]; rfl
        clear h0
        go_enter Tryz.func28, Tryz.ntmps28
        go_wp2_with (first
          | (go_at_call 46; refine (HAR _).out.mono ?_; rintro e w' ⟨rfl, rfl⟩)
          | (go_at_call 47; refine (HLG _ (below_alloc_two w _ _)).out.mono ?_; rintro e w' ⟨rfl, rfl⟩)
          | (go_at_call 49; refine (HCM _).out.mono ?_; rintro e wc ⟨rfl, hbc⟩; obtain ⟨hcc, hfc⟩ := bcell hbc; obtain ⟨hzc0, hzc1, hzc2, hzc3⟩ := sz4 (n := w.heap.size) (by first | assumption | (simp; done)) hbc)
          | (go_at_call 48; refine (rboolean_ag _ _).mono ?_; rintro e wb ⟨rfl, hbb⟩; obtain ⟨hcb, hfb⟩ := bcell hbb; obtain ⟨hzb0, hzb1, hzb2, hzb3⟩ := sz4 (n := w.heap.size) (by first | assumption | (simp; done)) hbb))
        obtain ⟨⟨d0, d1, d2⟩, _⟩ := box_three (box_kept (box_kept (heap4_0 w _ _ _ _) hbc) hbb)
        refine bodyPost_ret (v := .agg #[.int .i64 3, .int .i64 0, .string ⟨#[]⟩]) ?_ rfl ⟨?_, ?_⟩
        · simp [results, Tryz.results28, go_sem, b2i, d0, d1, d2]
        · first | rfl | (rw [HX.out]; rfl)
        · exact bel_end (below_keep (bel4 w _ _ _ _) hbc) hbb _ _ _
    · have q1 : (ka == kb) = false := by simpa using h1
      have HX : Hid ((gbool (ka != 0 && ka == kb && decide (r < 0))) = gbool false) := by show _ = _; rw [q0, q1]; rfl
      clear h0 h1
      go_enter Tryz.func28, Tryz.ntmps28
      go_wp2_with (first
        | (go_at_call 46; refine (HAR _).out.mono ?_; rintro e w' ⟨rfl, rfl⟩)
        | (go_at_call 47; refine (HLG _ (below_alloc_two w _ _)).out.mono ?_; rintro e w' ⟨rfl, rfl⟩)
        | (go_at_call 48; refine (rboolean_ag _ _).mono ?_; rintro e wb ⟨rfl, hbb⟩; obtain ⟨hcb, hfb⟩ := bcell hbb; obtain ⟨hzb0, hzb1, hzb2, hzb3⟩ := sz4 (n := w.heap.size) (by first | assumption | (simp; done)) hbb))
      obtain ⟨⟨d0, d1, d2⟩, _⟩ := box_three (box_kept (heap4_0 w _ _ _ _) hbb)
      refine bodyPost_ret (v := .agg #[.int .i64 3, .int .i64 0, .string ⟨#[]⟩]) ?_ rfl ⟨?_, ?_⟩
      · simp [results, Tryz.results28, go_sem, b2i, d0, d1, d2]
      · first | rfl | (rw [HX.out]; rfl)
      · exact bel_end (bel4 w _ _ _ _) hbb _ _ _

set_option maxHeartbeats 4000000 in
set_option maxRecDepth 100000 in
theorem reval_8 (b o n c k : Nat) (ck cn : Int) (cs : ByteArray) (w : World) (hkn : k < n) (_hn63 : n ≤ 9223372036854775807) (b3 o3 n3 c3 A B : Nat) (vr : Value) (col ka na kb nb : Int) (sa sb : ByteArray)
    (c0 : w.cell? ⟨b, o + k * 7, none⟩ = some (.int .i64 8)) (c1 : w.cell? ⟨b, o + k * 7 + 1, none⟩ = some (.int .i64 (A : Int))) (c2 : w.cell? ⟨b, o + k * 7 + 2, none⟩ = some (.int .i64 (B : Int))) (c3' : w.cell? ⟨b, o + k * 7 + 3, none⟩ = some (.int .i64 col))
    (c4 : w.cell? ⟨b, o + k * 7 + 4, none⟩ = some (.int .i64 ck)) (c5 : w.cell? ⟨b, o + k * 7 + 5, none⟩ = some (.int .i64 cn)) (c6 : w.cell? ⟨b, o + k * 7 + 6, none⟩ = some (.string cs))
    (a0 : w.cell? ⟨b3, o3 + A * 3, none⟩ = some (.int .i64 ka)) (a1 : w.cell? ⟨b3, o3 + A * 3 + 1, none⟩ = some (.int .i64 na)) (a2 : w.cell? ⟨b3, o3 + A * 3 + 2, none⟩ = some (.string sa)) (hA : A < n3) (_hn3 : n3 ≤ 9223372036854775807)
    (b0 : w.cell? ⟨b3, o3 + B * 3, none⟩ = some (.int .i64 kb)) (b1 : w.cell? ⟨b3, o3 + B * 3 + 1, none⟩ = some (.int .i64 nb)) (b2 : w.cell? ⟨b3, o3 + B * 3 + 2, none⟩ = some (.string sb)) (hB : B < n3)
    (HAR : ∀ W, Hid (Calls Tryz.prog 46 #[.int .i64 8] W fun e w' => e = .returned (.int .i64 2) ∧ W = w'))
    (HLG : ∀ W, Below w.heap.size w W → Hid (Calls Tryz.prog 47 #[.slice (some ⟨b, o, none⟩) n c, .int .i64 (k : Int)] W fun e w' => e = .returned (.bool true) ∧ W = w')) :
    Calls Tryz.prog 28 #[.slice (some ⟨b, o, none⟩) n c, .int .i64 (k : Int), vr, .slice (some ⟨b3, o3, none⟩) n3 c3] w fun e w' => e = .returned (aggG (gbool (isTrueG ⟨ka, na, sa⟩ && isTrueG ⟨kb, nb, sb⟩))) ∧ Below w.heap.size w w' := by
  have lb : b < w.heap.size := World.block_lt_of_cell? w _ c0
  have lb3 : b3 < w.heap.size := World.block_lt_of_cell? w _ a0
  have lb3a : b3 < w.heap.size + 1 := by omega
  have lb3b : b3 < w.heap.size + 1 + 1 := by omega
  have lb3c : b3 < w.heap.size + 1 + 1 + 1 := by omega
  have HTA := fun W => Lib.hid (rtrue_kns ka na sa W)
  obtain ⟨ta, hta⟩ : ∃ t, t = (ka == 3 && na == 1) := ⟨_, rfl⟩
  rw [← hta] at HTA
  have HTB := fun W => Lib.hid (rtrue_kns kb nb sb W)
  obtain ⟨tb, htb⟩ : ∃ t, t = (kb == 3 && nb == 1) := ⟨_, rfl⟩
  rw [← htb] at HTB
  rw [show isTrueG ⟨ka, na, sa⟩ = ta from hta.symm, show isTrueG ⟨kb, nb, sb⟩ = tb from htb.symm]
  clear hta htb
  cases ta
  · have HX : Hid (gbool (false && tb) = gbool false) := Lib.hid rfl
    go_enter Tryz.func28, Tryz.ntmps28
    go_wp2_with (first
      | (go_at_call 46; refine (HAR _).out.mono ?_; rintro e w' ⟨rfl, rfl⟩)
      | (go_at_call 47; refine (HLG _ (below_alloc_two w _ _)).out.mono ?_; rintro e w' ⟨rfl, rfl⟩)
      | (go_at_call 13; ((with_reducible refine (HTA _).out.mono ?_); rintro e wt ⟨rfl, hbt⟩; obtain ⟨hct, hft⟩ := bcell hbt; obtain ⟨hzt0, hzt1, hzt2, hzt3⟩ := sz4 (n := w.heap.size) (by first | assumption | (simp; done)) hbt))
      | (go_at_call 48; refine (rboolean_ag _ _).mono ?_; rintro e wb ⟨rfl, hbb⟩; obtain ⟨hcb, hfb⟩ := bcell hbb; obtain ⟨hzb0, hzb1, hzb2, hzb3⟩ := sz4 (n := w.heap.size) (by first | assumption | (simp; done)) hbb))
    obtain ⟨⟨d0, d1, d2⟩, _⟩ := box_three (box_kept (box_kept (heap4_0 w _ _ _ _) hbt) hbb)
    refine bodyPost_ret (v := .agg #[.int .i64 3, .int .i64 0, .string ⟨#[]⟩]) ?_ rfl ⟨?_, ?_⟩
    · simp [results, Tryz.results28, go_sem, b2i, d0, d1, d2]
    · first | rfl | (rw [HX.out]; rfl)
    · exact bel_end (below_keep (bel4 w _ _ _ _) hbt) hbb _ _ _
  · cases tb
    · have HX : Hid (gbool (true && false) = gbool false) := Lib.hid rfl
      go_enter Tryz.func28, Tryz.ntmps28
      go_wp2_with (first
        | (go_at_call 46; refine (HAR _).out.mono ?_; rintro e w' ⟨rfl, rfl⟩)
        | (go_at_call 47; refine (HLG _ (below_alloc_two w _ _)).out.mono ?_; rintro e w' ⟨rfl, rfl⟩)
        | (go_at_call 13; ((with_reducible refine (HTA _).out.mono ?_); rintro e wt ⟨rfl, hbt⟩; obtain ⟨hct, hft⟩ := bcell hbt; obtain ⟨hzt0, hzt1, hzt2, hzt3⟩ := sz4 (n := w.heap.size) (by first | assumption | (simp; done)) hbt))
        | (go_at_call 13; ((with_reducible refine (HTB _).out.mono ?_); rintro e wu ⟨rfl, hbu⟩; obtain ⟨hcu, hfu⟩ := bcell hbu; obtain ⟨hzu0, hzu1, hzu2, hzu3⟩ := sz4 (n := w.heap.size) (by first | assumption | (simp; done)) hbu))
        | (go_at_call 48; refine (rboolean_ag _ _).mono ?_; rintro e wb ⟨rfl, hbb⟩; obtain ⟨hcb, hfb⟩ := bcell hbb; obtain ⟨hzb0, hzb1, hzb2, hzb3⟩ := sz4 (n := w.heap.size) (by first | assumption | (simp; done)) hbb))
      obtain ⟨⟨d0, d1, d2⟩, _⟩ := box_three (box_kept (box_kept (box_kept (heap4_0 w _ _ _ _) hbt) hbu) hbb)
      refine bodyPost_ret (v := .agg #[.int .i64 3, .int .i64 0, .string ⟨#[]⟩]) ?_ rfl ⟨?_, ?_⟩
      · simp [results, Tryz.results28, go_sem, b2i, d0, d1, d2]
      · first | rfl | (rw [HX.out]; rfl)
      · exact bel_end (below_keep (below_keep (bel4 w _ _ _ _) hbt) hbu) hbb _ _ _
    · have HX : Hid (gbool (true && true) = gbool true) := Lib.hid rfl
      go_enter Tryz.func28, Tryz.ntmps28
      go_wp2_with (first
        | (go_at_call 46; refine (HAR _).out.mono ?_; rintro e w' ⟨rfl, rfl⟩)
        | (go_at_call 47; refine (HLG _ (below_alloc_two w _ _)).out.mono ?_; rintro e w' ⟨rfl, rfl⟩)
        | (go_at_call 13; ((with_reducible refine (HTA _).out.mono ?_); rintro e wt ⟨rfl, hbt⟩; obtain ⟨hct, hft⟩ := bcell hbt; obtain ⟨hzt0, hzt1, hzt2, hzt3⟩ := sz4 (n := w.heap.size) (by first | assumption | (simp; done)) hbt))
        | (go_at_call 13; ((with_reducible refine (HTB _).out.mono ?_); rintro e wu ⟨rfl, hbu⟩; obtain ⟨hcu, hfu⟩ := bcell hbu; obtain ⟨hzu0, hzu1, hzu2, hzu3⟩ := sz4 (n := w.heap.size) (by first | assumption | (simp; done)) hbu))
        | (go_at_call 48; refine (rboolean_ag _ _).mono ?_; rintro e wb ⟨rfl, hbb⟩; obtain ⟨hcb, hfb⟩ := bcell hbb; obtain ⟨hzb0, hzb1, hzb2, hzb3⟩ := sz4 (n := w.heap.size) (by first | assumption | (simp; done)) hbb))
      obtain ⟨⟨d0, d1, d2⟩, _⟩ := box_three (box_kept (box_kept (box_kept (heap4_0 w _ _ _ _) hbt) hbu) hbb)
      refine bodyPost_ret (v := .agg #[.int .i64 3, .int .i64 1, .string ⟨#[]⟩]) ?_ rfl ⟨?_, ?_⟩
      · simp [results, Tryz.results28, go_sem, b2i, d0, d1, d2]
      · first | rfl | (rw [HX.out]; rfl)
      · exact bel_end (below_keep (below_keep (bel4 w _ _ _ _) hbt) hbu) hbb _ _ _

set_option maxHeartbeats 4000000 in
set_option maxRecDepth 100000 in
theorem reval_9 (b o n c k : Nat) (ck cn : Int) (cs : ByteArray) (w : World) (hkn : k < n) (_hn63 : n ≤ 9223372036854775807) (b3 o3 n3 c3 A B : Nat) (vr : Value) (col ka na kb nb : Int) (sa sb : ByteArray)
    (c0 : w.cell? ⟨b, o + k * 7, none⟩ = some (.int .i64 9)) (c1 : w.cell? ⟨b, o + k * 7 + 1, none⟩ = some (.int .i64 (A : Int))) (c2 : w.cell? ⟨b, o + k * 7 + 2, none⟩ = some (.int .i64 (B : Int))) (c3' : w.cell? ⟨b, o + k * 7 + 3, none⟩ = some (.int .i64 col))
    (c4 : w.cell? ⟨b, o + k * 7 + 4, none⟩ = some (.int .i64 ck)) (c5 : w.cell? ⟨b, o + k * 7 + 5, none⟩ = some (.int .i64 cn)) (c6 : w.cell? ⟨b, o + k * 7 + 6, none⟩ = some (.string cs))
    (a0 : w.cell? ⟨b3, o3 + A * 3, none⟩ = some (.int .i64 ka)) (a1 : w.cell? ⟨b3, o3 + A * 3 + 1, none⟩ = some (.int .i64 na)) (a2 : w.cell? ⟨b3, o3 + A * 3 + 2, none⟩ = some (.string sa)) (hA : A < n3) (_hn3 : n3 ≤ 9223372036854775807)
    (b0 : w.cell? ⟨b3, o3 + B * 3, none⟩ = some (.int .i64 kb)) (b1 : w.cell? ⟨b3, o3 + B * 3 + 1, none⟩ = some (.int .i64 nb)) (b2 : w.cell? ⟨b3, o3 + B * 3 + 2, none⟩ = some (.string sb)) (hB : B < n3)
    (HAR : ∀ W, Hid (Calls Tryz.prog 46 #[.int .i64 9] W fun e w' => e = .returned (.int .i64 2) ∧ W = w'))
    (HLG : ∀ W, Below w.heap.size w W → Hid (Calls Tryz.prog 47 #[.slice (some ⟨b, o, none⟩) n c, .int .i64 (k : Int)] W fun e w' => e = .returned (.bool true) ∧ W = w')) :
    Calls Tryz.prog 28 #[.slice (some ⟨b, o, none⟩) n c, .int .i64 (k : Int), vr, .slice (some ⟨b3, o3, none⟩) n3 c3] w fun e w' => e = .returned (aggG (gbool (isTrueG ⟨ka, na, sa⟩ || isTrueG ⟨kb, nb, sb⟩))) ∧ Below w.heap.size w w' := by
  have lb : b < w.heap.size := World.block_lt_of_cell? w _ c0
  have lb3 : b3 < w.heap.size := World.block_lt_of_cell? w _ a0
  have lb3a : b3 < w.heap.size + 1 := by omega
  have lb3b : b3 < w.heap.size + 1 + 1 := by omega
  have lb3c : b3 < w.heap.size + 1 + 1 + 1 := by omega
  have HTA := fun W => Lib.hid (rtrue_kns ka na sa W)
  obtain ⟨ta, hta⟩ : ∃ t, t = (ka == 3 && na == 1) := ⟨_, rfl⟩
  rw [← hta] at HTA
  have HTB := fun W => Lib.hid (rtrue_kns kb nb sb W)
  obtain ⟨tb, htb⟩ : ∃ t, t = (kb == 3 && nb == 1) := ⟨_, rfl⟩
  rw [← htb] at HTB
  rw [show isTrueG ⟨ka, na, sa⟩ = ta from hta.symm, show isTrueG ⟨kb, nb, sb⟩ = tb from htb.symm]
  clear hta htb
  cases ta
  · 
    cases tb
    · have HX : Hid (gbool (false || false) = gbool false) := Lib.hid rfl
      go_enter Tryz.func28, Tryz.ntmps28
      go_wp2_with (first
        | (go_at_call 46; refine (HAR _).out.mono ?_; rintro e w' ⟨rfl, rfl⟩)
        | (go_at_call 47; refine (HLG _ (below_alloc_two w _ _)).out.mono ?_; rintro e w' ⟨rfl, rfl⟩)
        | (go_at_call 13; ((with_reducible refine (HTA _).out.mono ?_); rintro e wt ⟨rfl, hbt⟩; obtain ⟨hct, hft⟩ := bcell hbt; obtain ⟨hzt0, hzt1, hzt2, hzt3⟩ := sz4 (n := w.heap.size) (by first | assumption | (simp; done)) hbt))
        | (go_at_call 13; ((with_reducible refine (HTB _).out.mono ?_); rintro e wu ⟨rfl, hbu⟩; obtain ⟨hcu, hfu⟩ := bcell hbu; obtain ⟨hzu0, hzu1, hzu2, hzu3⟩ := sz4 (n := w.heap.size) (by first | assumption | (simp; done)) hbu))
        | (go_at_call 48; refine (rboolean_ag _ _).mono ?_; rintro e wb ⟨rfl, hbb⟩; obtain ⟨hcb, hfb⟩ := bcell hbb; obtain ⟨hzb0, hzb1, hzb2, hzb3⟩ := sz4 (n := w.heap.size) (by first | assumption | (simp; done)) hbb))
      obtain ⟨⟨d0, d1, d2⟩, _⟩ := box_three (box_kept (box_kept (box_kept (heap4_0 w _ _ _ _) hbt) hbu) hbb)
      refine bodyPost_ret (v := .agg #[.int .i64 3, .int .i64 0, .string ⟨#[]⟩]) ?_ rfl ⟨?_, ?_⟩
      · simp [results, Tryz.results28, go_sem, b2i, d0, d1, d2]
      · first | rfl | (rw [HX.out]; rfl)
      · exact bel_end (below_keep (below_keep (bel4 w _ _ _ _) hbt) hbu) hbb _ _ _
    · have HX : Hid (gbool (false || true) = gbool true) := Lib.hid rfl
      go_enter Tryz.func28, Tryz.ntmps28
      go_wp2_with (first
        | (go_at_call 46; refine (HAR _).out.mono ?_; rintro e w' ⟨rfl, rfl⟩)
        | (go_at_call 47; refine (HLG _ (below_alloc_two w _ _)).out.mono ?_; rintro e w' ⟨rfl, rfl⟩)
        | (go_at_call 13; ((with_reducible refine (HTA _).out.mono ?_); rintro e wt ⟨rfl, hbt⟩; obtain ⟨hct, hft⟩ := bcell hbt; obtain ⟨hzt0, hzt1, hzt2, hzt3⟩ := sz4 (n := w.heap.size) (by first | assumption | (simp; done)) hbt))
        | (go_at_call 13; ((with_reducible refine (HTB _).out.mono ?_); rintro e wu ⟨rfl, hbu⟩; obtain ⟨hcu, hfu⟩ := bcell hbu; obtain ⟨hzu0, hzu1, hzu2, hzu3⟩ := sz4 (n := w.heap.size) (by first | assumption | (simp; done)) hbu))
        | (go_at_call 48; refine (rboolean_ag _ _).mono ?_; rintro e wb ⟨rfl, hbb⟩; obtain ⟨hcb, hfb⟩ := bcell hbb; obtain ⟨hzb0, hzb1, hzb2, hzb3⟩ := sz4 (n := w.heap.size) (by first | assumption | (simp; done)) hbb))
      obtain ⟨⟨d0, d1, d2⟩, _⟩ := box_three (box_kept (box_kept (box_kept (heap4_0 w _ _ _ _) hbt) hbu) hbb)
      refine bodyPost_ret (v := .agg #[.int .i64 3, .int .i64 1, .string ⟨#[]⟩]) ?_ rfl ⟨?_, ?_⟩
      · simp [results, Tryz.results28, go_sem, b2i, d0, d1, d2]
      · first | rfl | (rw [HX.out]; rfl)
      · exact bel_end (below_keep (below_keep (bel4 w _ _ _ _) hbt) hbu) hbb _ _ _
  · have HX : Hid (gbool (true || tb) = gbool true) := Lib.hid rfl
    go_enter Tryz.func28, Tryz.ntmps28
    go_wp2_with (first
      | (go_at_call 46; refine (HAR _).out.mono ?_; rintro e w' ⟨rfl, rfl⟩)
      | (go_at_call 47; refine (HLG _ (below_alloc_two w _ _)).out.mono ?_; rintro e w' ⟨rfl, rfl⟩)
      | (go_at_call 13; ((with_reducible refine (HTA _).out.mono ?_); rintro e wt ⟨rfl, hbt⟩; obtain ⟨hct, hft⟩ := bcell hbt; obtain ⟨hzt0, hzt1, hzt2, hzt3⟩ := sz4 (n := w.heap.size) (by first | assumption | (simp; done)) hbt))
      | (go_at_call 48; refine (rboolean_ag _ _).mono ?_; rintro e wb ⟨rfl, hbb⟩; obtain ⟨hcb, hfb⟩ := bcell hbb; obtain ⟨hzb0, hzb1, hzb2, hzb3⟩ := sz4 (n := w.heap.size) (by first | assumption | (simp; done)) hbb))
    obtain ⟨⟨d0, d1, d2⟩, _⟩ := box_three (box_kept (box_kept (heap4_0 w _ _ _ _) hbt) hbb)
    refine bodyPost_ret (v := .agg #[.int .i64 3, .int .i64 1, .string ⟨#[]⟩]) ?_ rfl ⟨?_, ?_⟩
    · simp [results, Tryz.results28, go_sem, b2i, d0, d1, d2]
    · first | rfl | (rw [HX.out]; rfl)
    · exact bel_end (below_keep (bel4 w _ _ _ _) hbt) hbb _ _ _

set_option maxHeartbeats 4000000 in
set_option maxRecDepth 100000 in
theorem reval_3 (b o n c k : Nat) (ck cn : Int) (cs : ByteArray) (w : World) (hkn : k < n) (_hn63 : n ≤ 9223372036854775807) (b3 o3 n3 c3 A B : Nat) (vr : Value) (col ka na kb nb : Int) (sa sb : ByteArray)
    (c0 : w.cell? ⟨b, o + k * 7, none⟩ = some (.int .i64 3)) (c1 : w.cell? ⟨b, o + k * 7 + 1, none⟩ = some (.int .i64 (A : Int))) (c2 : w.cell? ⟨b, o + k * 7 + 2, none⟩ = some (.int .i64 (B : Int))) (c3' : w.cell? ⟨b, o + k * 7 + 3, none⟩ = some (.int .i64 col))
    (c4 : w.cell? ⟨b, o + k * 7 + 4, none⟩ = some (.int .i64 ck)) (c5 : w.cell? ⟨b, o + k * 7 + 5, none⟩ = some (.int .i64 cn)) (c6 : w.cell? ⟨b, o + k * 7 + 6, none⟩ = some (.string cs))
    (a0 : w.cell? ⟨b3, o3 + A * 3, none⟩ = some (.int .i64 ka)) (a1 : w.cell? ⟨b3, o3 + A * 3 + 1, none⟩ = some (.int .i64 na)) (a2 : w.cell? ⟨b3, o3 + A * 3 + 2, none⟩ = some (.string sa)) (hA : A < n3) (_hn3 : n3 ≤ 9223372036854775807)
    (b0 : w.cell? ⟨b3, o3 + B * 3, none⟩ = some (.int .i64 kb)) (b1 : w.cell? ⟨b3, o3 + B * 3 + 1, none⟩ = some (.int .i64 nb)) (b2 : w.cell? ⟨b3, o3 + B * 3 + 2, none⟩ = some (.string sb)) (hB : B < n3)
    (hna : In64 na) (hnb : In64 nb)
    (HAR : ∀ W, Hid (Calls Tryz.prog 46 #[.int .i64 3] W fun e w' => e = .returned (.int .i64 2) ∧ W = w'))
    (HLG : ∀ W, Below w.heap.size w W → Hid (Calls Tryz.prog 47 #[.slice (some ⟨b, o, none⟩) n c, .int .i64 (k : Int)] W fun e w' => e = .returned (.bool true) ∧ W = w')) :
    Calls Tryz.prog 28 #[.slice (some ⟨b, o, none⟩) n c, .int .i64 (k : Int), vr, .slice (some ⟨b3, o3, none⟩) n3 c3] w fun e w' => e = .returned (aggG (arithG 3 ⟨ka, na, sa⟩ ⟨kb, nb, sb⟩)) ∧ Below w.heap.size w w' := by
  have lb : b < w.heap.size := World.block_lt_of_cell? w _ c0
  have lb3 : b3 < w.heap.size := World.block_lt_of_cell? w _ a0
  have lb3a : b3 < w.heap.size + 1 := by omega
  have lb3b : b3 < w.heap.size + 1 + 1 := by omega
  have lb3c : b3 < w.heap.size + 1 + 1 + 1 := by omega
  have HRA := fun W => Lib.hid (rarith_any 3 ⟨ka, na, sa⟩ ⟨kb, nb, sb⟩ (by omega) hna hnb W)
  obtain ⟨g, hg⟩ : ∃ g, g = arithG 3 ⟨ka, na, sa⟩ ⟨kb, nb, sb⟩ := ⟨_, rfl⟩
  rw [← hg] at HRA ⊢
  unfold aggG at HRA
  dsimp only at HRA
  clear hg
  have HX : Hid (g = g) := Lib.hid rfl
  go_enter Tryz.func28, Tryz.ntmps28
  go_wp2_with (first
    | (go_at_call 46; refine (HAR _).out.mono ?_; rintro e w' ⟨rfl, rfl⟩)
    | (go_at_call 47; refine (HLG _ (below_alloc_two w _ _)).out.mono ?_; rintro e w' ⟨rfl, rfl⟩)
    | (go_at_call 50; refine (HRA _).out.mono ?_; rintro e wb ⟨rfl, hbb⟩; obtain ⟨hcb, hfb⟩ := bcell hbb; obtain ⟨hzb0, hzb1, hzb2, hzb3⟩ := sz4 (n := w.heap.size) (by first | assumption | (simp; done)) hbb))
  obtain ⟨⟨d0, d1, d2⟩, _⟩ := box_three (box_kept (heap4_0 w _ _ _ _) hbb)
  refine bodyPost_ret (v := .agg #[.int .i64 g.kind, .int .i64 g.n, .string g.s]) ?_ rfl ⟨?_, ?_⟩
  · simp [results, Tryz.results28, go_sem, d0, d1, d2]
  · first | rfl | (rw [HX.out]; rfl)
  · exact bel_end (bel4 w _ _ _ _) hbb _ _ _

set_option maxHeartbeats 4000000 in
set_option maxRecDepth 100000 in
theorem reval_4 (b o n c k : Nat) (ck cn : Int) (cs : ByteArray) (w : World) (hkn : k < n) (_hn63 : n ≤ 9223372036854775807) (b3 o3 n3 c3 A B : Nat) (vr : Value) (col ka na kb nb : Int) (sa sb : ByteArray)
    (c0 : w.cell? ⟨b, o + k * 7, none⟩ = some (.int .i64 4)) (c1 : w.cell? ⟨b, o + k * 7 + 1, none⟩ = some (.int .i64 (A : Int))) (c2 : w.cell? ⟨b, o + k * 7 + 2, none⟩ = some (.int .i64 (B : Int))) (c3' : w.cell? ⟨b, o + k * 7 + 3, none⟩ = some (.int .i64 col))
    (c4 : w.cell? ⟨b, o + k * 7 + 4, none⟩ = some (.int .i64 ck)) (c5 : w.cell? ⟨b, o + k * 7 + 5, none⟩ = some (.int .i64 cn)) (c6 : w.cell? ⟨b, o + k * 7 + 6, none⟩ = some (.string cs))
    (a0 : w.cell? ⟨b3, o3 + A * 3, none⟩ = some (.int .i64 ka)) (a1 : w.cell? ⟨b3, o3 + A * 3 + 1, none⟩ = some (.int .i64 na)) (a2 : w.cell? ⟨b3, o3 + A * 3 + 2, none⟩ = some (.string sa)) (hA : A < n3) (_hn3 : n3 ≤ 9223372036854775807)
    (b0 : w.cell? ⟨b3, o3 + B * 3, none⟩ = some (.int .i64 kb)) (b1 : w.cell? ⟨b3, o3 + B * 3 + 1, none⟩ = some (.int .i64 nb)) (b2 : w.cell? ⟨b3, o3 + B * 3 + 2, none⟩ = some (.string sb)) (hB : B < n3)
    (hna : In64 na) (hnb : In64 nb)
    (HAR : ∀ W, Hid (Calls Tryz.prog 46 #[.int .i64 4] W fun e w' => e = .returned (.int .i64 2) ∧ W = w'))
    (HLG : ∀ W, Below w.heap.size w W → Hid (Calls Tryz.prog 47 #[.slice (some ⟨b, o, none⟩) n c, .int .i64 (k : Int)] W fun e w' => e = .returned (.bool true) ∧ W = w')) :
    Calls Tryz.prog 28 #[.slice (some ⟨b, o, none⟩) n c, .int .i64 (k : Int), vr, .slice (some ⟨b3, o3, none⟩) n3 c3] w fun e w' => e = .returned (aggG (arithG 4 ⟨ka, na, sa⟩ ⟨kb, nb, sb⟩)) ∧ Below w.heap.size w w' := by
  have lb : b < w.heap.size := World.block_lt_of_cell? w _ c0
  have lb3 : b3 < w.heap.size := World.block_lt_of_cell? w _ a0
  have lb3a : b3 < w.heap.size + 1 := by omega
  have lb3b : b3 < w.heap.size + 1 + 1 := by omega
  have lb3c : b3 < w.heap.size + 1 + 1 + 1 := by omega
  have HRA := fun W => Lib.hid (rarith_any 4 ⟨ka, na, sa⟩ ⟨kb, nb, sb⟩ (by omega) hna hnb W)
  obtain ⟨g, hg⟩ : ∃ g, g = arithG 4 ⟨ka, na, sa⟩ ⟨kb, nb, sb⟩ := ⟨_, rfl⟩
  rw [← hg] at HRA ⊢
  unfold aggG at HRA
  dsimp only at HRA
  clear hg
  have HX : Hid (g = g) := Lib.hid rfl
  go_enter Tryz.func28, Tryz.ntmps28
  go_wp2_with (first
    | (go_at_call 46; refine (HAR _).out.mono ?_; rintro e w' ⟨rfl, rfl⟩)
    | (go_at_call 47; refine (HLG _ (below_alloc_two w _ _)).out.mono ?_; rintro e w' ⟨rfl, rfl⟩)
    | (go_at_call 50; refine (HRA _).out.mono ?_; rintro e wb ⟨rfl, hbb⟩; obtain ⟨hcb, hfb⟩ := bcell hbb; obtain ⟨hzb0, hzb1, hzb2, hzb3⟩ := sz4 (n := w.heap.size) (by first | assumption | (simp; done)) hbb))
  obtain ⟨⟨d0, d1, d2⟩, _⟩ := box_three (box_kept (heap4_0 w _ _ _ _) hbb)
  refine bodyPost_ret (v := .agg #[.int .i64 g.kind, .int .i64 g.n, .string g.s]) ?_ rfl ⟨?_, ?_⟩
  · simp [results, Tryz.results28, go_sem, d0, d1, d2]
  · first | rfl | (rw [HX.out]; rfl)
  · exact bel_end (bel4 w _ _ _ _) hbb _ _ _

set_option maxHeartbeats 4000000 in
set_option maxRecDepth 100000 in
theorem reval_5 (b o n c k : Nat) (ck cn : Int) (cs : ByteArray) (w : World) (hkn : k < n) (_hn63 : n ≤ 9223372036854775807) (b3 o3 n3 c3 A B : Nat) (vr : Value) (col ka na kb nb : Int) (sa sb : ByteArray)
    (c0 : w.cell? ⟨b, o + k * 7, none⟩ = some (.int .i64 5)) (c1 : w.cell? ⟨b, o + k * 7 + 1, none⟩ = some (.int .i64 (A : Int))) (c2 : w.cell? ⟨b, o + k * 7 + 2, none⟩ = some (.int .i64 (B : Int))) (c3' : w.cell? ⟨b, o + k * 7 + 3, none⟩ = some (.int .i64 col))
    (c4 : w.cell? ⟨b, o + k * 7 + 4, none⟩ = some (.int .i64 ck)) (c5 : w.cell? ⟨b, o + k * 7 + 5, none⟩ = some (.int .i64 cn)) (c6 : w.cell? ⟨b, o + k * 7 + 6, none⟩ = some (.string cs))
    (a0 : w.cell? ⟨b3, o3 + A * 3, none⟩ = some (.int .i64 ka)) (a1 : w.cell? ⟨b3, o3 + A * 3 + 1, none⟩ = some (.int .i64 na)) (a2 : w.cell? ⟨b3, o3 + A * 3 + 2, none⟩ = some (.string sa)) (hA : A < n3) (_hn3 : n3 ≤ 9223372036854775807)
    (b0 : w.cell? ⟨b3, o3 + B * 3, none⟩ = some (.int .i64 kb)) (b1 : w.cell? ⟨b3, o3 + B * 3 + 1, none⟩ = some (.int .i64 nb)) (b2 : w.cell? ⟨b3, o3 + B * 3 + 2, none⟩ = some (.string sb)) (hB : B < n3)
    (hna : In64 na) (hnb : In64 nb)
    (HAR : ∀ W, Hid (Calls Tryz.prog 46 #[.int .i64 5] W fun e w' => e = .returned (.int .i64 2) ∧ W = w'))
    (HLG : ∀ W, Below w.heap.size w W → Hid (Calls Tryz.prog 47 #[.slice (some ⟨b, o, none⟩) n c, .int .i64 (k : Int)] W fun e w' => e = .returned (.bool true) ∧ W = w')) :
    Calls Tryz.prog 28 #[.slice (some ⟨b, o, none⟩) n c, .int .i64 (k : Int), vr, .slice (some ⟨b3, o3, none⟩) n3 c3] w fun e w' => e = .returned (aggG (arithG 5 ⟨ka, na, sa⟩ ⟨kb, nb, sb⟩)) ∧ Below w.heap.size w w' := by
  have lb : b < w.heap.size := World.block_lt_of_cell? w _ c0
  have lb3 : b3 < w.heap.size := World.block_lt_of_cell? w _ a0
  have lb3a : b3 < w.heap.size + 1 := by omega
  have lb3b : b3 < w.heap.size + 1 + 1 := by omega
  have lb3c : b3 < w.heap.size + 1 + 1 + 1 := by omega
  have HRA := fun W => Lib.hid (rarith_any 5 ⟨ka, na, sa⟩ ⟨kb, nb, sb⟩ (by omega) hna hnb W)
  obtain ⟨g, hg⟩ : ∃ g, g = arithG 5 ⟨ka, na, sa⟩ ⟨kb, nb, sb⟩ := ⟨_, rfl⟩
  rw [← hg] at HRA ⊢
  unfold aggG at HRA
  dsimp only at HRA
  clear hg
  have HX : Hid (g = g) := Lib.hid rfl
  go_enter Tryz.func28, Tryz.ntmps28
  go_wp2_with (first
    | (go_at_call 46; refine (HAR _).out.mono ?_; rintro e w' ⟨rfl, rfl⟩)
    | (go_at_call 47; refine (HLG _ (below_alloc_two w _ _)).out.mono ?_; rintro e w' ⟨rfl, rfl⟩)
    | (go_at_call 50; refine (HRA _).out.mono ?_; rintro e wb ⟨rfl, hbb⟩; obtain ⟨hcb, hfb⟩ := bcell hbb; obtain ⟨hzb0, hzb1, hzb2, hzb3⟩ := sz4 (n := w.heap.size) (by first | assumption | (simp; done)) hbb))
  obtain ⟨⟨d0, d1, d2⟩, _⟩ := box_three (box_kept (heap4_0 w _ _ _ _) hbb)
  refine bodyPost_ret (v := .agg #[.int .i64 g.kind, .int .i64 g.n, .string g.s]) ?_ rfl ⟨?_, ?_⟩
  · simp [results, Tryz.results28, go_sem, d0, d1, d2]
  · first | rfl | (rw [HX.out]; rfl)
  · exact bel_end (bel4 w _ _ _ _) hbb _ _ _

set_option maxHeartbeats 4000000 in
set_option maxRecDepth 100000 in
theorem reval_10 (b o n c k : Nat) (ck cn : Int) (cs : ByteArray) (w : World) (hkn : k < n) (_hn63 : n ≤ 9223372036854775807) (b3 o3 n3 c3 A : Nat) (vr : Value) (xb col ka na : Int) (sa : ByteArray)
    (c0 : w.cell? ⟨b, o + k * 7, none⟩ = some (.int .i64 10)) (c1 : w.cell? ⟨b, o + k * 7 + 1, none⟩ = some (.int .i64 (A : Int))) (c2 : w.cell? ⟨b, o + k * 7 + 2, none⟩ = some (.int .i64 xb)) (c3' : w.cell? ⟨b, o + k * 7 + 3, none⟩ = some (.int .i64 col))
    (c4 : w.cell? ⟨b, o + k * 7 + 4, none⟩ = some (.int .i64 ck)) (c5 : w.cell? ⟨b, o + k * 7 + 5, none⟩ = some (.int .i64 cn)) (c6 : w.cell? ⟨b, o + k * 7 + 6, none⟩ = some (.string cs))
    (a0 : w.cell? ⟨b3, o3 + A * 3, none⟩ = some (.int .i64 ka)) (a1 : w.cell? ⟨b3, o3 + A * 3 + 1, none⟩ = some (.int .i64 na)) (a2 : w.cell? ⟨b3, o3 + A * 3 + 2, none⟩ = some (.string sa)) (hA : A < n3) (_hn3 : n3 ≤ 9223372036854775807)
    (HAR : ∀ W, Hid (Calls Tryz.prog 46 #[.int .i64 10] W fun e w' => e = .returned (.int .i64 1) ∧ W = w'))
    (HLG : ∀ W, Below w.heap.size w W → Hid (Calls Tryz.prog 47 #[.slice (some ⟨b, o, none⟩) n c, .int .i64 (k : Int)] W fun e w' => e = .returned (.bool true) ∧ W = w')) :
    Calls Tryz.prog 28 #[.slice (some ⟨b, o, none⟩) n c, .int .i64 (k : Int), vr, .slice (some ⟨b3, o3, none⟩) n3 c3] w fun e w' => e = .returned (aggG (gbool (!isTrueG ⟨ka, na, sa⟩))) ∧ Below w.heap.size w w' := by
  have lb : b < w.heap.size := World.block_lt_of_cell? w _ c0
  have lb3 : b3 < w.heap.size := World.block_lt_of_cell? w _ a0
  have lb3a : b3 < w.heap.size + 1 := by omega
  have lb3b : b3 < w.heap.size + 1 + 1 := by omega
  have lb3c : b3 < w.heap.size + 1 + 1 + 1 := by omega
  have HTA := fun W => Lib.hid (rtrue_kns ka na sa W)
  obtain ⟨ta, hta⟩ : ∃ t, t = (ka == 3 && na == 1) := ⟨_, rfl⟩
  rw [← hta] at HTA
  rw [show isTrueG ⟨ka, na, sa⟩ = ta from hta.symm]
  clear hta
  cases ta
  · have HX : Hid (gbool (!false) = gbool true) := Lib.hid rfl
    go_enter Tryz.func28, Tryz.ntmps28
    go_wp2_with (first
      | (go_at_call 46; refine (HAR _).out.mono ?_; rintro e w' ⟨rfl, rfl⟩)
      | (go_at_call 47; refine (HLG _ (below_alloc_two w _ _)).out.mono ?_; rintro e w' ⟨rfl, rfl⟩)
      | (go_at_call 13; ((with_reducible refine (HTA _).out.mono ?_); rintro e wt ⟨rfl, hbt⟩; obtain ⟨hct, hft⟩ := bcell hbt; obtain ⟨hzt0, hzt1, hzt2, hzt3⟩ := sz4 (n := w.heap.size) (by first | assumption | (simp; done)) hbt))
      | (go_at_call 48; refine (rboolean_ag _ _).mono ?_; rintro e wb ⟨rfl, hbb⟩; obtain ⟨hcb, hfb⟩ := bcell hbb; obtain ⟨hzb0, hzb1, hzb2, hzb3⟩ := sz4 (n := w.heap.size) (by first | assumption | (simp; done)) hbb))
    obtain ⟨⟨d0, d1, d2⟩, _⟩ := box_three (box_kept (box_kept (heap4_0 w _ _ _ _) hbt) hbb)
    refine bodyPost_ret (v := .agg #[.int .i64 3, .int .i64 1, .string ⟨#[]⟩]) ?_ rfl ⟨?_, ?_⟩
    · simp [results, Tryz.results28, go_sem, b2i, d0, d1, d2]
    · first | rfl | (rw [HX.out]; rfl)
    · exact bel_end (below_keep (bel4 w _ _ _ _) hbt) hbb _ _ _
  · have HX : Hid (gbool (!true) = gbool false) := Lib.hid rfl
    go_enter Tryz.func28, Tryz.ntmps28
    go_wp2_with (first
      | (go_at_call 46; refine (HAR _).out.mono ?_; rintro e w' ⟨rfl, rfl⟩)
      | (go_at_call 47; refine (HLG _ (below_alloc_two w _ _)).out.mono ?_; rintro e w' ⟨rfl, rfl⟩)
      | (go_at_call 13; ((with_reducible refine (HTA _).out.mono ?_); rintro e wt ⟨rfl, hbt⟩; obtain ⟨hct, hft⟩ := bcell hbt; obtain ⟨hzt0, hzt1, hzt2, hzt3⟩ := sz4 (n := w.heap.size) (by first | assumption | (simp; done)) hbt))
      | (go_at_call 48; refine (rboolean_ag _ _).mono ?_; rintro e wb ⟨rfl, hbb⟩; obtain ⟨hcb, hfb⟩ := bcell hbb; obtain ⟨hzb0, hzb1, hzb2, hzb3⟩ := sz4 (n := w.heap.size) (by first | assumption | (simp; done)) hbb))
    obtain ⟨⟨d0, d1, d2⟩, _⟩ := box_three (box_kept (box_kept (heap4_0 w _ _ _ _) hbt) hbb)
    refine bodyPost_ret (v := .agg #[.int .i64 3, .int .i64 0, .string ⟨#[]⟩]) ?_ rfl ⟨?_, ?_⟩
    · simp [results, Tryz.results28, go_sem, b2i, d0, d1, d2]
    · first | rfl | (rw [HX.out]; rfl)
    · exact bel_end (below_keep (bel4 w _ _ _ _) hbt) hbb _ _ _

set_option maxHeartbeats 4000000 in
set_option maxRecDepth 100000 in
theorem reval_11 (b o n c k : Nat) (ck cn : Int) (cs : ByteArray) (w : World) (hkn : k < n) (_hn63 : n ≤ 9223372036854775807) (b3 o3 n3 c3 A : Nat) (vr : Value) (xb col ka na : Int) (sa : ByteArray)
    (c0 : w.cell? ⟨b, o + k * 7, none⟩ = some (.int .i64 11)) (c1 : w.cell? ⟨b, o + k * 7 + 1, none⟩ = some (.int .i64 (A : Int))) (c2 : w.cell? ⟨b, o + k * 7 + 2, none⟩ = some (.int .i64 xb)) (c3' : w.cell? ⟨b, o + k * 7 + 3, none⟩ = some (.int .i64 col))
    (c4 : w.cell? ⟨b, o + k * 7 + 4, none⟩ = some (.int .i64 ck)) (c5 : w.cell? ⟨b, o + k * 7 + 5, none⟩ = some (.int .i64 cn)) (c6 : w.cell? ⟨b, o + k * 7 + 6, none⟩ = some (.string cs))
    (a0 : w.cell? ⟨b3, o3 + A * 3, none⟩ = some (.int .i64 ka)) (a1 : w.cell? ⟨b3, o3 + A * 3 + 1, none⟩ = some (.int .i64 na)) (a2 : w.cell? ⟨b3, o3 + A * 3 + 2, none⟩ = some (.string sa)) (hA : A < n3) (_hn3 : n3 ≤ 9223372036854775807)
    (HAR : ∀ W, Hid (Calls Tryz.prog 46 #[.int .i64 11] W fun e w' => e = .returned (.int .i64 1) ∧ W = w'))
    (HLG : ∀ W, Below w.heap.size w W → Hid (Calls Tryz.prog 47 #[.slice (some ⟨b, o, none⟩) n c, .int .i64 (k : Int)] W fun e w' => e = .returned (.bool true) ∧ W = w')) :
    Calls Tryz.prog 28 #[.slice (some ⟨b, o, none⟩) n c, .int .i64 (k : Int), vr, .slice (some ⟨b3, o3, none⟩) n3 c3] w fun e w' => e = .returned (aggG (gbool (ka == 0))) ∧ Below w.heap.size w w' := by
  have lb : b < w.heap.size := World.block_lt_of_cell? w _ c0
  have lb3 : b3 < w.heap.size := World.block_lt_of_cell? w _ a0
  have lb3a : b3 < w.heap.size + 1 := by omega
  have lb3b : b3 < w.heap.size + 1 + 1 := by omega
  have lb3c : b3 < w.heap.size + 1 + 1 + 1 := by omega
  cases q0 : (ka == 0)
  · have HX : Hid (gbool false = gbool false) := Lib.hid rfl
    go_enter Tryz.func28, Tryz.ntmps28
    go_wp2_with (first
      | (go_at_call 46; refine (HAR _).out.mono ?_; rintro e w' ⟨rfl, rfl⟩)
      | (go_at_call 47; refine (HLG _ (below_alloc_two w _ _)).out.mono ?_; rintro e w' ⟨rfl, rfl⟩)
      | (go_at_call 48; refine (rboolean_ag _ _).mono ?_; rintro e wb ⟨rfl, hbb⟩; obtain ⟨hcb, hfb⟩ := bcell hbb; obtain ⟨hzb0, hzb1, hzb2, hzb3⟩ := sz4 (n := w.heap.size) (by first | assumption | (simp; done)) hbb))
    obtain ⟨⟨d0, d1, d2⟩, _⟩ := box_three (box_kept (heap4_0 w _ _ _ _) hbb)
    refine bodyPost_ret (v := .agg #[.int .i64 3, .int .i64 0, .string ⟨#[]⟩]) ?_ rfl ⟨?_, ?_⟩
    · simp [results, Tryz.results28, go_sem, b2i, d0, d1, d2]
    · first | rfl | (rw [HX.out]; rfl)
    · exact bel_end (bel4 w _ _ _ _) hbb _ _ _
  · have HX : Hid (gbool true = gbool true) := Lib.hid rfl
    go_enter Tryz.func28, Tryz.ntmps28
    go_wp2_with (first
      | (go_at_call 46; refine (HAR _).out.mono ?_; rintro e w' ⟨rfl, rfl⟩)
      | (go_at_call 47; refine (HLG _ (below_alloc_two w _ _)).out.mono ?_; rintro e w' ⟨rfl, rfl⟩)
      | (go_at_call 48; refine (rboolean_ag _ _).mono ?_; rintro e wb ⟨rfl, hbb⟩; obtain ⟨hcb, hfb⟩ := bcell hbb; obtain ⟨hzb0, hzb1, hzb2, hzb3⟩ := sz4 (n := w.heap.size) (by first | assumption | (simp; done)) hbb))
    obtain ⟨⟨d0, d1, d2⟩, _⟩ := box_three (box_kept (heap4_0 w _ _ _ _) hbb)
    refine bodyPost_ret (v := .agg #[.int .i64 3, .int .i64 1, .string ⟨#[]⟩]) ?_ rfl ⟨?_, ?_⟩
    · simp [results, Tryz.results28, go_sem, b2i, d0, d1, d2]
    · first | rfl | (rw [HX.out]; rfl)
    · exact bel_end (bel4 w _ _ _ _) hbb _ _ _

end Go.Proofs.YtfmbbfidjcgeiaaGreat

namespace Go.Proofs.YtfmbbfidjcgeiaaGreat
open Go.RowKit Go.Lib Go.Shelf

def pdays (lo hi : Int) : Bool := pvalid lo hi && decide (hi ≤ 1000000)
set_option maxHeartbeats 1000000 in
theorem prd_days (lo hi : Int) (w : World) :
    Calls Tryz.prog 57 #[.agg #[.int .i64 lo, .int .i64 hi]] w fun e w' => e = .returned (.bool (pdays lo hi)) ∧ Below w.heap.size w w' := by
  have HV : ∀ W, Hid (Calls Tryz.prog 42 #[.agg #[.int .i64 lo, .int .i64 hi]] W fun e w' => e = .returned (.bool (pvalid lo hi)) ∧ Below W.heap.size W w') := fun W => pvalid_any lo hi W
  have HR : Hid (pdays lo hi = (pvalid lo hi && decide (hi ≤ 1000000))) := Lib.hid rfl
  generalize pdays lo hi = r at HR ⊢
  go_enter Tryz.func57, Tryz.ntmps57
  go_wp2_with fail
  refine (HV _).out.mono ?_
  rintro e w2 ⟨rfl, hb⟩
  obtain ⟨x0, x1, x2, x3⟩ := box_two (box_kept (World.alloc_heap_new w (.cells #[.int .i64 lo, .int .i64 hi] 28)) hb)
  have HB := Lib.hid (below_alloc2' hb)
  clear HV hb
  cases hp : pvalid lo hi
  all_goals rw [hp] at HR
  all_goals clear hp
  all_goals go_wp2_with fail
  all_goals go_ret
  all_goals refine ⟨congrArg (fun b => Ending.returned (.bool b)) ?_, HB.out⟩
  all_goals (rw [HR.out]; simp)
theorem heap4_1 (w : World) (c1 c2 c3 c4 : Obj) : ((((w.alloc c1).alloc c2).alloc c3).alloc c4).heap[w.heap.size + 1]? = some c2 := by
  refine (Below.heap_alloc _ _ _ (by simp)).trans ((Below.heap_alloc _ _ _ (by simp)).trans ?_)
  simpa using World.alloc_heap_new (w.alloc c1) c2
theorem heap4_2 (w : World) (c1 c2 c3 c4 : Obj) : ((((w.alloc c1).alloc c2).alloc c3).alloc c4).heap[w.heap.size + 1 + 1]? = some c3 := by
  refine (Below.heap_alloc _ _ _ (by simp)).trans ?_
  simpa using World.alloc_heap_new ((w.alloc c1).alloc c2) c3
theorem heap4_3 (w : World) (c1 c2 c3 c4 : Obj) : ((((w.alloc c1).alloc c2).alloc c3).alloc c4).heap[w.heap.size + 1 + 1 + 1]? = some c4 := by
  simpa using World.alloc_heap_new (((w.alloc c1).alloc c2).alloc c3) c4
/-- The common part of two periods: whether there is one, its ends. -/
def isOk (a b c d : Int) : Bool := pvalid a b && pvalid c d && decide (max a c < min b d)
def isLo (a b c d : Int) : Int := if isOk a b c d = true then max a c else 0
def isHi (a b c d : Int) : Int := if isOk a b c d = true then min b d else 0
set_option maxHeartbeats 2000000 in
theorem isect_any (a b c d : Int) (w : World) :
    Calls Tryz.prog 38 #[.agg #[.int .i64 a, .int .i64 b], .agg #[.int .i64 c, .int .i64 d]] w fun e w' =>
      e = .returned (.tuple #[.agg #[.int .i64 (isLo a b c d), .int .i64 (isHi a b c d)], .bool (isOk a b c d)]) ∧ Below w.heap.size w w' := by
  have HV : ∀ x y W, Hid (Calls Tryz.prog 42 #[.agg #[.int .i64 x, .int .i64 y]] W fun e w' => e = .returned (.bool (pvalid x y)) ∧ Below W.heap.size W w') := fun x y W => pvalid_any x y W
  have HK : Hid (∀ r, isOk a b c d = r → (isLo a b c d = if r = true then max a c else 0) ∧ (isHi a b c d = if r = true then min b d else 0)) := by
    show ∀ r, _
    rintro r rfl
    exact ⟨rfl, rfl⟩
  have HR : Hid (isOk a b c d = (pvalid a b && pvalid c d && decide (max a c < min b d))) := Lib.hid rfl
  go_enter Tryz.func38, Tryz.ntmps38
  go_wp2_with fail
  obtain ⟨lo, hlo⟩ : ∃ lo, lo = max a c := ⟨_, rfl⟩
  obtain ⟨hi, hhi⟩ : ∃ hi, hi = min b d := ⟨_, rfl⟩
  rw [← hlo, ← hhi] at HR HK ⊢
  clear hlo hhi
  refine (HV _ _ _).out.mono ?_
  rintro e w2 ⟨rfl, hb⟩
  have h0 := box_kept (heap4_0 w (.cells #[.int .i64 a, .int .i64 b] 28) (.cells #[.int .i64 c, .int .i64 d] 28) (.cells #[.int .i64 0, .int .i64 0] 28) (.cells #[.int .i64 lo, .int .i64 hi] 28)) hb
  have h1 := box_kept (heap4_1 w (.cells #[.int .i64 a, .int .i64 b] 28) (.cells #[.int .i64 c, .int .i64 d] 28) (.cells #[.int .i64 0, .int .i64 0] 28) (.cells #[.int .i64 lo, .int .i64 hi] 28)) hb
  have h2 := box_kept (heap4_2 w (.cells #[.int .i64 a, .int .i64 b] 28) (.cells #[.int .i64 c, .int .i64 d] 28) (.cells #[.int .i64 0, .int .i64 0] 28) (.cells #[.int .i64 lo, .int .i64 hi] 28)) hb
  have h3 := box_kept (heap4_3 w (.cells #[.int .i64 a, .int .i64 b] 28) (.cells #[.int .i64 c, .int .i64 d] 28) (.cells #[.int .i64 0, .int .i64 0] 28) (.cells #[.int .i64 lo, .int .i64 hi] 28)) hb
  have hB := below_keep (bel4 w (.cells #[.int .i64 a, .int .i64 b] 28) (.cells #[.int .i64 c, .int .i64 d] 28) (.cells #[.int .i64 0, .int .i64 0] 28) (.cells #[.int .i64 lo, .int .i64 hi] 28)) hb
  have hz : w.heap.size + 1 + 1 + 1 < w2.heap.size := by have := hb.size; simp at this; omega
  clear hb
  cases hp : pvalid a b
  · rw [hp] at HR
    clear hp
    have HF : Hid (isOk a b c d = false) := by show _ = _; rw [HR.out]; rfl
    obtain ⟨x0, x1, x2, x3⟩ := box_two h2
    have HB := Lib.hid hB
    clear HR HV hB h0 h1 h2 h3
    go_wp2_with fail
    have hz2 : w.heap.size + 1 + 1 < w2.heap.size := by omega
    refine bodyPost_ret (v := .tuple #[.agg #[.int .i64 0, .int .i64 0], .bool false]) (by simp [results, Tryz.results38, go_sem, x0, x1]) rfl ⟨?_, (HB.out.setCell (by simp; omega) _).setCell (by simp; omega) _⟩
    obtain ⟨k1, k2⟩ := HK.out _ HF.out
    rw [k1, k2, HF.out]
    rfl
  · rw [hp] at HR
    clear hp
    obtain ⟨y0, y1, y2, y3⟩ := box_two h1
    have H2 := Lib.hid h2
    have H3 := Lib.hid h3
    have HB := Lib.hid hB
    clear hB h0 h1 h2 h3
    go_wp2_with fail
    refine (HV _ _ _).out.mono ?_
    rintro e w3 ⟨rfl, hb3⟩
    obtain ⟨x0, x1, x2, x3⟩ := box_two (box_kept H2.out hb3)
    obtain ⟨z0, z1, z2, z3⟩ := box_two (box_kept H3.out hb3)
    have HB3 := Lib.hid (below_keep HB.out hb3)
    have hz2 : w.heap.size + 1 + 1 < w3.heap.size := by have := hb3.size; omega
    have hz3 : w.heap.size + 1 + 1 + 1 < w3.heap.size := by have := hb3.size; omega
    clear HV hb3 y0 y1 y2 y3 HB
    cases hq : pvalid c d
    · rw [hq] at HR
      clear hq
      have HF : Hid (isOk a b c d = false) := by show _ = _; rw [HR.out]; rfl
      clear HR z0 z1 z2 z3
      go_wp2_with fail
      refine bodyPost_ret (v := .tuple #[.agg #[.int .i64 0, .int .i64 0], .bool false]) (by simp [results, Tryz.results38, go_sem, x0, x1]) rfl ⟨?_, (HB3.out.setCell (by simp; omega) _).setCell (by simp; omega) _⟩
      obtain ⟨k1, k2⟩ := HK.out _ HF.out
      rw [k1, k2, HF.out]
      rfl
    · rw [hq] at HR
      clear hq
      by_cases hlt : lo < hi
      · have HF : Hid (isOk a b c d = true) := by show _ = _; rw [HR.out]; simp [hlt]
        clear HR
        go_wp2_with fail
        refine bodyPost_ret (v := .tuple #[.agg #[.int .i64 lo, .int .i64 hi], .bool true]) (by simp [results, Tryz.results38, go_sem, x0, x1]) rfl ⟨?_, (HB3.out.setCell (by simp; omega) _).setCell (by simp; omega) _⟩
        obtain ⟨k1, k2⟩ := HK.out _ HF.out
        rw [k1, k2, HF.out]
        rfl
      · have HF : Hid (isOk a b c d = false) := by show _ = _; rw [HR.out]; simp [hlt]
        have hge : hi ≤ lo := by omega
        clear HR
        go_wp2_with fail
        refine bodyPost_ret (v := .tuple #[.agg #[.int .i64 0, .int .i64 0], .bool false]) (by simp [results, Tryz.results38, go_sem, x0, x1]) rfl ⟨?_, (HB3.out.setCell (by simp; omega) _).setCell (by simp; omega) _⟩
        obtain ⟨k1, k2⟩ := HK.out _ HF.out
        rw [k1, k2, HF.out]
        rfl
end Go.Proofs.YtfmbbfidjcgeiaaGreat

namespace Go.Proofs.YtfmbbfidjcgeiaaGreat
open Go.RowKit Go.Lib

/-- A list with some values laid in from place j on. -/
def setL : List Value → Nat → List Value → List Value
  | xs, _, [] => xs
  | xs, j, u :: us => setL (xs.set j u) (j + 1) us
theorem setL_length : ∀ (us xs : List Value) (j : Nat), (setL xs j us).length = xs.length
  | [], _, _ => rfl
  | u :: us, xs, j => by rw [setL, setL_length us]; simp
theorem setL_get : ∀ (us xs : List Value) (j m : Nat), (setL xs j us)[m]? = if j ≤ m ∧ m < j + us.length ∧ m < xs.length then us[m - j]? else xs[m]?
  | [], xs, j, m => by rw [if_neg (by simp; omega)]; rfl
  | u :: us, xs, j, m => by
    rw [setL, setL_get us]
    simp only [List.length_set, List.length_cons]
    by_cases h1 : j + 1 ≤ m ∧ m < j + 1 + us.length ∧ m < xs.length
    · rw [if_pos h1, if_pos (by omega), show m - j = m - (j + 1) + 1 by omega, List.getElem?_cons_succ]
    · rw [if_neg h1]
      by_cases h2 : m = j
      · subst h2
        by_cases h3 : m < xs.length
        · rw [if_pos (by omega), Nat.sub_self, List.getElem?_cons_zero]; simp [h3]
        · rw [if_neg (by omega), List.getElem?_eq_none (by simpa using h3), List.getElem?_eq_none (by omega)]
      · rw [if_neg (by omega), List.getElem?_set_ne (Ne.symm h2)]
theorem owns_setCells {e : TypeId} {base size g n cap : Nat} : ∀ (us : List Value) (w : World) (xs : List Value) (j : Nat), w.ownsRow base e size (.slice (some ⟨g, 0, none⟩) n cap) n xs →
    (w.setCells g j us).ownsRow base e size (.slice (some ⟨g, 0, none⟩) n cap) n (setL xs j us) ∧ w.grownBy (w.setCells g j us) (some g)
  | [], w, xs, j, h => ⟨h, ⟨rfl, rfl, rfl, Nat.le_refl _, fun _ _ _ => rfl⟩⟩
  | u :: us, w, xs, j, h => by
    obtain ⟨h1, h2⟩ := h.stored j u
    obtain ⟨h3, h4⟩ := owns_setCells us _ _ (j + 1) h1
    exact ⟨h3, ⟨h4.1.trans h2.1, h4.2.trans h2.2, h4.3.trans h2.3, Nat.le_trans h2.size h4.size, fun k hk hne => (h4.block k (Nat.lt_of_lt_of_le hk h2.size) hne).trans (h2.block k hk hne)⟩⟩
section
variable {P : Program} {α : Type}
theorem setL_take (us xs : List Value) (s i k : Nat) (hu : us.length = s) (hk : k * s + s ≤ xs.length) : ((setL xs (k * s) us).drop (i * s)).take s = if i = k then us else (xs.drop (i * s)).take s := by
  refine List.ext_getElem? fun m => ?_
  rw [List.getElem?_take, List.getElem?_drop, setL_get]
  by_cases hm : m < s
  · rw [if_pos hm]
    by_cases hik : i = k
    · subst hik
      rw [if_pos (by omega), if_pos rfl, Nat.add_sub_cancel_left]
    · rw [if_neg hik, List.getElem?_take, if_pos hm, List.getElem?_drop, if_neg]
      intro h
      rcases Nat.lt_or_gt_of_ne hik with h' | h'
      · have := Nat.mul_le_mul_right s (show i + 1 ≤ k from h'); rw [Nat.add_mul, Nat.one_mul] at this; omega
      · have := Nat.mul_le_mul_right s (show k + 1 ≤ i from h'); rw [Nat.add_mul, Nat.one_mul] at this; omega
  · rw [if_neg hm]
    split
    · rw [List.getElem?_eq_none (by omega)]
    · rw [List.getElem?_take, if_neg hm]
/-- One element is stored anew. -/
theorem Own.put {E : El P α} {w : World} {B g n c k : Nat} {l : List α} {x : α} {cs : List Value} (h : Own E w B (.slice (some ⟨g, 0, none⟩) n c) l) (hn : l.length = n) (hk : k < n) (hx : E.is w (fun m => some m = some g) x cs) :
    Own E (w.setCells g (k * E.size) cs) B (.slice (some ⟨g, 0, none⟩) n c) (l.set k x) ∧ w.grownBy (w.setCells g (k * E.size) cs) (some g) := by
  obtain ⟨xs, h1, h2⟩ := h
  rw [hn] at h1
  obtain ⟨h3, h4⟩ := owns_setCells cs w xs (k * E.size) h1
  have hK : Kept (fun m => some m = some g) w (w.setCells g (k * E.size) cs) := .of_grown h4
  have hxl : xs.length = n * E.size := h1.1
  have hb : k * E.size + E.size ≤ xs.length := by
    have := Nat.mul_le_mul_right E.size (show k + 1 ≤ n from hk); rw [Nat.add_mul, Nat.one_mul] at this; omega
  refine ⟨⟨_, by rw [List.length_set, hn]; exact h3, fun i y hy => ?_⟩, h4⟩
  rw [setL_take cs xs E.size i k (E.len hx) hb]
  by_cases hik : i = k
  · subst hik
    rw [if_pos rfl]
    rw [List.getElem?_set_self (by omega)] at hy
    cases hy
    exact E.kept hx hK
  · rw [if_neg hik]
    rw [List.getElem?_set_ne (Ne.symm hik)] at hy
    exact E.kept (h2 i y hy) hK
/-- An element of the row, and that its cells may be laid elsewhere in the row. -/
theorem Own.at {E : El P α} {w : World} {B g n c k : Nat} {l : List α} {x : α} (h : Own E w B (.slice (some ⟨g, 0, none⟩) n c) l) (hk : l[k]? = some x) :
    ∃ cs, E.is w (fun m => some m = some g) x cs ∧ ∀ j u, cs[j]? = some u → w.cell? ⟨g, k * E.size + j, none⟩ = some u := by
  obtain ⟨xs, h1, h2⟩ := h
  have hk1 := (List.getElem?_eq_some_iff.1 hk).1
  obtain ⟨h3, h4, a, c', e, h5, h6⟩ := own_reads h1
  obtain ⟨b, o, rfl, h7⟩ := h6 (by omega)
  cases e
  refine ⟨_, h2 k x hk, fun j u hu => ?_⟩
  rw [List.getElem?_take] at hu
  split at hu
  · rw [List.getElem?_drop] at hu
    have := h7 _ u hu
    simpa using this
  · cases hu
theorem Own.frozen {E : El P α} {w : World} {B g n c : Nat} {l : List α} (h : Own E w B (.slice (some ⟨g, 0, none⟩) n c) l) (hn : l.length = n) (j : Nat) : w.frozen? ⟨g, j, none⟩ = false := by
  obtain ⟨xs, h1, _⟩ := h
  rw [hn] at h1
  exact h1.frozenAt j
end

section
variable {P : Program} {α : Type}
theorem Kept.or {G D : Nat → Prop} {w w' : World} (h : Kept G w w') : Kept (fun k => G k ∨ D k) w w' := ⟨h.1, fun k h1 h2 => h.2 k h1 (fun h3 => h2 (.inl h3))⟩
/-- The same elements, their data outside of D. -/
def El.avoid (E : El P α) (D : Nat → Prop) : El P α where
  ty := E.ty
  size := E.size
  bytes := E.bytes
  pos := E.pos
  info := E.info
  is := fun w G x cs => E.is w (fun k => G k ∨ D k) x cs
  len := fun h => E.len h
  one := fun h => E.one h
  mono := fun h hm => E.mono h (fun k hk hd => hd.imp (hm k hk) id)
  kept := fun h hk => E.kept h ⟨hk.1, fun k h1 h2 => hk.2 k h1 (fun h3 => h2 (.inl h3))⟩
theorem Own.forget {E : El P α} {D : Nat → Prop} {w : World} {B : Nat} {v : Value} {l : List α} (h : Own (E.avoid D) w B v l) : Own E w B v l := by
  obtain ⟨xs, h1, h2⟩ := h
  exact ⟨xs, h1, fun i x hx => E.mono (h2 i x hx) (fun _ _ hk => .inl hk)⟩
theorem Own.else {E : El P α} {D : Nat → Prop} {w w' : World} {B : Nat} {v : Value} {l : List α} (h : Own (E.avoid D) w B v l) (hk : Kept D w w') (hD : ∀ k, v.ownBlock = some k → ¬ D k) : Own (E.avoid D) w' B v l := by
  obtain ⟨xs, h1, h2⟩ := h
  refine ⟨xs, ⟨h1.1, h1.2.imp id ?_⟩, fun i x hx => E.kept (h2 i x hx) ⟨hk.1, fun k h3 h4 => hk.2 k h3 (fun h5 => h4 (.inr h5))⟩⟩
  rintro ⟨g, cap, cur, rfl, hg, hh, r⟩
  exact ⟨g, cap, cur, rfl, hg, (hk.2 g (Array.getElem?_eq_some_iff.1 hh).1 (hD g rfl)).trans hh, r⟩
end

/-- A version of the program. -/
structure Ver where
  id : Int
  vals : List GVal
  lo : Int
  hi : Int
  rlo : Int
  rhi : Int
theorem ver_info : (Tryz.prog.info? 64).map (fun i => (i.zero, i.size, i.bytes)) = some (some (.agg #[.int .i64 0, .slice none 0 0, .int .i64 0, .int .i64 0, .int .i64 0, .int .i64 0]), 6, 64) := by kernel_rfl
/-- Versions. -/
def verE : El Tryz.prog Ver where
  ty := 64
  size := 6
  bytes := 64
  pos := by decide
  info := info_mk ver_info rfl
  is := fun w G t cs => ∃ v, cs = [.int .i64 t.id, v, .int .i64 t.lo, .int .i64 t.hi, .int .i64 t.rlo, .int .i64 t.rhi] ∧ Sl valE w G v t.vals
  len := by rintro w G t cs ⟨v, rfl, _⟩; rfl
  one := by
    rintro w G t cs ⟨v, rfl, h1⟩ x hx
    simp at hx
    rcases hx with rfl | rfl | rfl | rfl | rfl | rfl
    · rfl
    · exact h1.one
    · rfl
    · rfl
    · rfl
    · rfl
  mono := by rintro w G G' t cs ⟨v, rfl, h1⟩ hm; exact ⟨v, rfl, h1.mono hm⟩
  kept := by rintro w w' G t cs ⟨v, rfl, h1⟩ hk; exact ⟨v, rfl, h1.kept hk⟩
theorem vers_at {D : Nat → Prop} {w : World} {G : Nat → Prop} {a : Option Addr} {n c k : Nat} {l : List Ver} {x : Ver} (h : Sl (verE.avoid D) w G (.slice a n c) l) (hk : l[k]? = some x) :
    ∃ b o a1 n1, a = some ⟨b, o, none⟩ ∧ Sl valE w (fun k => G k ∨ D k) (.slice a1 x.vals.length n1) x.vals ∧
      w.cell? ⟨b, o + k * 6, none⟩ = some (.int .i64 x.id) ∧ w.cell? ⟨b, o + k * 6 + 1, none⟩ = some (.slice a1 x.vals.length n1) ∧ w.cell? ⟨b, o + k * 6 + 2, none⟩ = some (.int .i64 x.lo) ∧ w.cell? ⟨b, o + k * 6 + 3, none⟩ = some (.int .i64 x.hi) ∧ w.cell? ⟨b, o + k * 6 + 4, none⟩ = some (.int .i64 x.rlo) ∧ w.cell? ⟨b, o + k * 6 + 5, none⟩ = some (.int .i64 x.rhi) := by
  obtain ⟨b, o, cs, ha, ⟨v, rfl, hv⟩, hc⟩ := Sl.at h hk
  obtain ⟨a1, n1, rfl⟩ := hv.shape
  exact ⟨b, o, a1, n1, ha, hv, hc 0 _ rfl, hc 1 _ rfl, hc 2 _ rfl, hc 3 _ rfl, hc 4 _ rfl, hc 5 _ rfl⟩
/-- The cells of a version of an own row. -/
theorem ownver_at {D : Nat → Prop} {w : World} {B g n c k : Nat} {l : List Ver} {x : Ver} (h : Own (verE.avoid D) w B (.slice (some ⟨g, 0, none⟩) n c) l) (hk : l[k]? = some x) :
    ∃ a1 n1, Sl valE w (fun m => some m = some g ∨ D m) (.slice a1 x.vals.length n1) x.vals ∧
      w.cell? ⟨g, k * 6, none⟩ = some (.int .i64 x.id) ∧ w.cell? ⟨g, k * 6 + 1, none⟩ = some (.slice a1 x.vals.length n1) ∧ w.cell? ⟨g, k * 6 + 2, none⟩ = some (.int .i64 x.lo) ∧ w.cell? ⟨g, k * 6 + 3, none⟩ = some (.int .i64 x.hi) ∧ w.cell? ⟨g, k * 6 + 4, none⟩ = some (.int .i64 x.rlo) ∧ w.cell? ⟨g, k * 6 + 5, none⟩ = some (.int .i64 x.rhi) := by
  obtain ⟨cs, ⟨v, rfl, hv⟩, hc⟩ := h.at hk
  obtain ⟨a1, n1, rfl⟩ := hv.shape
  exact ⟨a1, n1, hv, hc 0 _ rfl, hc 1 _ rfl, hc 2 _ rfl, hc 3 _ rfl, hc 4 _ rfl, hc 5 _ rfl⟩
theorem setCells6 (w : World) (g o : Nat) (c0 c1 c2 c3 c4 c5 : Value) : ((((((w.setCell ⟨g, o, none⟩ c0).setCell ⟨g, o + 1, none⟩ c1).setCell ⟨g, o + 2, none⟩ c2).setCell ⟨g, o + 3, none⟩ c3).setCell ⟨g, o + 4, none⟩ c4).setCell ⟨g, o + 5, none⟩ c5) = w.setCells g o [c0, c1, c2, c3, c4, c5] := rfl
theorem ownver_put {D : Nat → Prop} {w : World} {B g n c k : Nat} {l : List Ver} {x : Ver} {v : Value} (h : Own (verE.avoid D) w B (.slice (some ⟨g, 0, none⟩) n c) l) (hn : l.length = n) (hk : k < n) (hx : Sl valE w (fun m => some m = some g ∨ D m) v x.vals) :
    Own (verE.avoid D) ((((((w.setCell ⟨g, k * 6, none⟩ (.int .i64 x.id)).setCell ⟨g, k * 6 + 1, none⟩ v).setCell ⟨g, k * 6 + 2, none⟩ (.int .i64 x.lo)).setCell ⟨g, k * 6 + 3, none⟩ (.int .i64 x.hi)).setCell ⟨g, k * 6 + 4, none⟩ (.int .i64 x.rlo)).setCell ⟨g, k * 6 + 5, none⟩ (.int .i64 x.rhi)) B (.slice (some ⟨g, 0, none⟩) n c) (l.set k x) ∧
    w.grownBy ((((((w.setCell ⟨g, k * 6, none⟩ (.int .i64 x.id)).setCell ⟨g, k * 6 + 1, none⟩ v).setCell ⟨g, k * 6 + 2, none⟩ (.int .i64 x.lo)).setCell ⟨g, k * 6 + 3, none⟩ (.int .i64 x.hi)).setCell ⟨g, k * 6 + 4, none⟩ (.int .i64 x.rlo)).setCell ⟨g, k * 6 + 5, none⟩ (.int .i64 x.rhi)) (some g) := by
  rw [setCells6]
  exact h.put hn hk (x := x) (cs := [.int .i64 x.id, v, .int .i64 x.lo, .int .i64 x.hi, .int .i64 x.rlo, .int .i64 x.rhi]) ⟨v, rfl, hx⟩
end Go.Proofs.YtfmbbfidjcgeiaaGreat

namespace Go.Proofs.YtfmbbfidjcgeiaaGreat
open Go

section
variable {P : Program} {md : Region.Mode} {ops : Array Oper} {Q : Exit → Act → World → Prop} {S : World → Prop}
theorem take_n {i : Nat} {d : Option Tmp} {fuel : Nat} {listed : Array Bool} {a : Act} {w : World} (hi : (ops[i]?).map (·.dst) = some d)
    (hw : (ops[i]?).map (fun o => Region.wanted o (yielded ops a.tmps)) = some false)
    (hs : Region.noSelect ops = true) (hf : Region.free md ops listed i = true) (hr : (Region.ready md ops listed).contains i = true)
    (hQ : ∀ c a w, Q (.panic c) (a.put d undef) w → Q (.panic c) a w) (hS : S w)
    (h : wpAnyH P md ops Q S fuel (listed.setIfInBounds i true) (a.put d undef) w) : wpAnyH P md ops Q S (fuel + 1) listed a w := by
  cases ho : ops[i]? with
  | none => rw [ho] at hi; cases hi
  | some o =>
    rw [ho] at hi hw
    simp only [Option.map_some, Option.some.injEq] at hi hw
    subst hi
    exact wpAnyH_take ho hs hf hr hQ (Or.inr ⟨hw, rfl⟩) hS h
theorem take_y {i : Nat} {d : Option Tmp} {v : Value} {fuel : Nat} {listed : Array Bool} {a : Act} {w : World} (hi : (ops[i]?).map (·.dst) = some d)
    (hw : (ops[i]?).map (fun o => Region.wanted o (yielded ops a.tmps)) = some true)
    (hs : Region.noSelect ops = true) (hf : Region.free md ops listed i = true) (hr : (Region.ready md ops listed).contains i = true)
    (hQ : ∀ c a w, Q (.panic c) (a.put d v) w → Q (.panic c) a w) (hS : S w)
    (hy : ∀ o, ops[i]? = some o → ∀ w, S w → (execOp a.eval o).run P w = .ok (.value v) w)
    (h : wpAnyH P md ops Q S fuel (listed.setIfInBounds i true) (a.put d v) w) : wpAnyH P md ops Q S (fuel + 1) listed a w := by
  cases ho : ops[i]? with
  | none => rw [ho] at hi; cases hi
  | some o =>
    rw [ho] at hi hw
    simp only [Option.map_some, Option.some.injEq] at hi hw
    subst hi
    exact wpAnyH_take ho hs hf hr hQ (Or.inl ⟨hw, hy o ho⟩) hS h
end
end Go.Proofs.YtfmbbfidjcgeiaaGreat

namespace Go.Proofs.YtfmbbfidjcgeiaaGreat
open Go.RowKit Go.Lib

/-- A version laid in behind those that are not greater. -/
def insRev (x : Ver) : List Ver → List Ver
  | [] => [x]
  | y :: ys => if x.id < y.id then y :: insRev x ys else x :: y :: ys
def insV (x : Ver) (s : List Ver) : List Ver := (insRev x s.reverse).reverse
theorem insV_nil (x : Ver) : insV x [] = [x] := rfl
theorem insV_snoc (x y : Ver) (s : List Ver) : insV x (s ++ [y]) = if x.id < y.id then insV x s ++ [y] else s ++ [y, x] := by
  unfold insV
  rw [List.reverse_append]
  show (if x.id < y.id then _ else _ : List Ver).reverse = _
  split <;> simp
theorem insV_length (x : Ver) (s : List Ver) : (insV x s).length = s.length + 1 := by
  have h : ∀ l, (insRev x l).length = l.length + 1 := by
    intro l
    induction l with
    | nil => rfl
    | cons y ys ih => unfold insRev; split <;> simp [ih]
  unfold insV
  rw [List.length_reverse, h, List.length_reverse]
/-- Sorted by numbers, equal numbers in their order. -/
def sortV (l : List Ver) : List Ver := l.foldl (fun s x => insV x s) []
theorem sortV_snoc (l : List Ver) (x : Ver) : sortV (l ++ [x]) = insV x (sortV l) := by unfold sortV; rw [List.foldl_append]; rfl
theorem sortV_length (l : List Ver) : (sortV l).length = l.length := by
  suffices h : ∀ s, (l.foldl (fun s x => insV x s) s).length = s.length + l.length by simpa [sortV] using h []
  induction l with
  | nil => intro s; rfl
  | cons x l ih => intro s; simp only [List.foldl_cons, ih, insV_length, List.length_cons]; omega
theorem below_tr3 {B : Nat} {w W w' : World} (hs : B ≤ w.heap.size) (h : Below B w W) (hB : Below W.heap.size W w') : Below B w w' := h.trans (hB.mono (Nat.le_trans hs h.size))

set_option maxHeartbeats 1000000 in
theorem cmpVer_any (x y : Ver) (vx vy : Value) (w : World) :
    Calls Tryz.prog 61 #[.agg #[.int .i64 x.id, vx, .int .i64 x.lo, .int .i64 x.hi, .int .i64 x.rlo, .int .i64 x.rhi], .agg #[.int .i64 y.id, vy, .int .i64 y.lo, .int .i64 y.hi, .int .i64 y.rlo, .int .i64 y.rhi]] w fun e w' =>
      e = .returned (.int .i64 (cmpI x.id y.id)) ∧ Below w.heap.size w w' := by
  have HC : ∀ W, Hid (Calls Tryz.prog 62 #[.int .i64 x.id, .int .i64 y.id] W fun e w' => e = .returned (.int .i64 (cmpI x.id y.id)) ∧ W = w') := fun W => cmpInt_any _ _ W
  go_enter Tryz.func61, Tryz.ntmps61
  go_wp2_with fail
  refine (HC _).out.mono ?_
  rintro e w2 ⟨rfl, rfl⟩
  go_wp2_with fail
  go_ret
  exact ⟨rfl, below_alloc_two w _ _⟩
set_option maxHeartbeats 4000000 in
set_option maxRecDepth 100000 in
theorem isort_any {D : Nat → Prop} (F : List Ver) (g n c B : Nat) (w : World) (hO : Own (verE.avoid D) w B (.slice (some ⟨g, 0, none⟩) n c) F) (hn : F.length = n) (hpos : 0 < n) (hs : n ≤ 1000) :
    Calls Tryz.prog 94 #[.slice (some ⟨g, 0, none⟩) n c, .int .i64 0, .int .i64 n, .func (.func 61) #[] #[]] w fun e w' =>
      e = .returned (.tuple #[]) ∧ Own (verE.avoid D) w' B (.slice (some ⟨g, 0, none⟩) n c) (sortV F) ∧ Below B w w' := by
  have hBs : B ≤ w.heap.size := by have := hO.lt g rfl; omega
  have hgB : B ≤ g := (hO.lt g rfl).1
  have HO := Lib.hid hO
  have HN := Lib.hid hn
  clear hO hn
  go_enter Tryz.func94, Tryz.ntmps94
  go_wp2_with fail
  go_loopw [8] (fun vi wr => ∃ i : Nat, vi = .int .i64 i ∧ 1 ≤ i ∧ i ≤ n ∧ Own (verE.avoid D) wr B (.slice (some ⟨g, 0, none⟩) n c) (sortV (F.take i) ++ F.drop i) ∧ Below B w wr) (fun i _ => n - (intOf i).toNat)
  case atStart =>
    refine ⟨1, by go_num, Nat.le_refl _, hpos, ?_, Below.refl _ _⟩
    obtain ⟨x, hx⟩ := lget_some F 0 (by rw [HN.out]; exact hpos)
    have h1 : sortV (F.take 1) ++ F.drop 1 = F := by
      rw [take_get hx]
      show [x] ++ F.drop 1 = F
      conv => rhs; rw [← List.drop_zero (l := F), drop_get hx]
      rfl
    rw [h1]
    exact HO.out
  case round =>
    obtain ⟨i, rfl, hi1, hin, hOi, hBi⟩ := hrel
    obtain ⟨wo, rfl⟩ : ∃ wo : World, wo = wr := ⟨_, rfl⟩
    by_cases hlt : i < n
    · obtain ⟨x, hx⟩ := lget_some F i (by rw [HN.out]; exact hlt)
      obtain ⟨T, hT⟩ : ∃ T, T = sortV (F.take (i + 1)) ++ F.drop (i + 1) := ⟨_, rfl⟩
      have HT0 : Hid (insV x (sortV (F.take i)) ++ F.drop (i + 1) = T) := by show _ = _; rw [hT, take_get hx, sortV_snoc]
      have HT := Lib.hid hT
      have HL : Hid ((sortV (F.take i)).length = i) := by show _ = _; rw [sortV_length, List.length_take, HN.out]; omega
      rw [drop_get hx] at hOi
      have HOi := Lib.hid hOi
      have HBi := Lib.hid hBi
      clear hOi hBi hx hT
      go_wp2_with fail
      go_loopw [9] (fun vj w4 => ∃ (j : Nat) (p q : List Ver), vj = .int .i64 j ∧ p.length = j ∧ p.length + q.length + 1 = n ∧ Own (verE.avoid D) w4 B (.slice (some ⟨g, 0, none⟩) n c) (p ++ x :: q) ∧ Hid (insV x p ++ q = T) ∧ Below B w w4) (fun i _ => (intOf i).toNat)
      case atStart => exact ⟨i, _, _, rfl, HL.out, by rw [HL.out, List.length_drop, HN.out]; omega, HOi.out, HT0, HBi.out⟩
      case round =>
        obtain ⟨j, p, q, rfl, hpj, hlen, hO4, HP, hB4⟩ := hrel
        obtain ⟨w4, rfl⟩ : ∃ w4 : World, w4 = wr := ⟨_, rfl⟩
        cases j with
        | zero =>
          have hp0 : p = [] := List.eq_nil_of_length_eq_zero hpj
          subst hp0
          have HF : Hid (x :: q = T) := HP
          have HO4 := Lib.hid hO4
          have HB4 := Lib.hid hB4
          clear hO4
          go_wp2_with fail
          refine wp_region_held_drew (S := (fun W => Below B w W)) (by kernel_rfl) ?_ (fun hHeld => ?_)
          · (first | (with_reducible assumption) | with_reducible exact Below.drew (by assumption))
          refine take_y (i := 0) (d := some 18) (v := ?_) rfl rfl (by kernel_rfl) (by kernel_rfl) (by kernel_rfl) (fun _ _ _ h => h) (by assumption) ?_ ?_
          rotate_left
          · intro oi ho
            simp only [List.getElem?_toArray, List.getElem?_cons_zero, Option.some.injEq] at ho
            subst ho
            intro w hSw
            (try dsimp only at hSw)
            go_simp
            (try with_reducible rfl)
          (try simp only [Act.put, List.setIfInBounds_toArray, List.set_cons_zero, List.set_cons_succ])
          refine take_y (i := 1) (d := some 19) (v := ?_) rfl rfl (by kernel_rfl) (by kernel_rfl) (by kernel_rfl) (fun _ _ _ h => h) (by assumption) ?_ ?_
          rotate_left
          · intro oi ho
            simp only [List.getElem?_toArray, List.getElem?_cons_succ, List.getElem?_cons_zero, Option.some.injEq] at ho
            subst ho
            intro w hSw
            (try dsimp only at hSw)
            go_simp
            (try with_reducible rfl)
          (try simp only [Act.put, List.setIfInBounds_toArray, List.set_cons_zero, List.set_cons_succ])
          refine take_y (i := 2) (d := some 20) (v := ?_) rfl rfl (by kernel_rfl) (by kernel_rfl) (by kernel_rfl) (fun _ _ _ h => h) (by assumption) ?_ ?_
          rotate_left
          · intro oi ho
            simp only [List.getElem?_toArray, List.getElem?_cons_succ, List.getElem?_cons_zero, Option.some.injEq] at ho
            subst ho
            intro w hSw
            (try dsimp only at hSw)
            go_simp
            (try with_reducible rfl)
          (try simp only [Act.put, List.setIfInBounds_toArray, List.set_cons_zero, List.set_cons_succ])
          refine take_y (i := 3) (d := some 21) (v := ?_) rfl rfl (by kernel_rfl) (by kernel_rfl) (by kernel_rfl) (fun _ _ _ h => h) (by assumption) ?_ ?_
          rotate_left
          · intro oi ho
            simp only [List.getElem?_toArray, List.getElem?_cons_succ, List.getElem?_cons_zero, Option.some.injEq] at ho
            subst ho
            intro w hSw
            (try dsimp only at hSw)
            go_simp
            (try with_reducible rfl)
          (try simp only [Act.put, List.setIfInBounds_toArray, List.set_cons_zero, List.set_cons_succ])
          refine take_n (i := 4) (d := some 22) rfl rfl (by kernel_rfl) (by kernel_rfl) (by kernel_rfl) (fun _ _ _ h => h) (by assumption) ?_
          (try simp only [Act.put, List.setIfInBounds_toArray, List.set_cons_zero, List.set_cons_succ])
          refine take_n (i := 5) (d := some 23) rfl rfl (by kernel_rfl) (by kernel_rfl) (by kernel_rfl) (fun _ _ _ h => h) (by assumption) ?_
          (try simp only [Act.put, List.setIfInBounds_toArray, List.set_cons_zero, List.set_cons_succ])
          refine take_n (i := 6) (d := some 24) rfl rfl (by kernel_rfl) (by kernel_rfl) (by kernel_rfl) (fun _ _ _ h => h) (by assumption) ?_
          (try simp only [Act.put, List.setIfInBounds_toArray, List.set_cons_zero, List.set_cons_succ])
          refine take_n (i := 7) (d := some 25) rfl rfl (by kernel_rfl) (by kernel_rfl) (by kernel_rfl) (fun _ _ _ h => h) (by assumption) ?_
          (try simp only [Act.put, List.setIfInBounds_toArray, List.set_cons_zero, List.set_cons_succ])
          refine take_n (i := 8) (d := some 26) rfl rfl (by kernel_rfl) (by kernel_rfl) (by kernel_rfl) (fun _ _ _ h => h) (by assumption) ?_
          (try simp only [Act.put, List.setIfInBounds_toArray, List.set_cons_zero, List.set_cons_succ])
          refine take_n (i := 9) (d := some 27) rfl rfl (by kernel_rfl) (by kernel_rfl) (by kernel_rfl) (fun _ _ _ h => h) (by assumption) ?_
          (try simp only [Act.put, List.setIfInBounds_toArray, List.set_cons_zero, List.set_cons_succ])
          refine take_n (i := 10) (d := some 28) rfl rfl (by kernel_rfl) (by kernel_rfl) (by kernel_rfl) (fun _ _ _ h => h) (by assumption) ?_
          (try simp only [Act.put, List.setIfInBounds_toArray, List.set_cons_zero, List.set_cons_succ])
          refine take_n (i := 11) (d := some 29) rfl rfl (by kernel_rfl) (by kernel_rfl) (by kernel_rfl) (fun _ _ _ h => h) (by assumption) ?_
          (try simp only [Act.put, List.setIfInBounds_toArray, List.set_cons_zero, List.set_cons_succ])
          refine take_n (i := 12) (d := some 30) rfl rfl (by kernel_rfl) (by kernel_rfl) (by kernel_rfl) (fun _ _ _ h => h) (by assumption) ?_
          (try simp only [Act.put, List.setIfInBounds_toArray, List.set_cons_zero, List.set_cons_succ])
          refine take_n (i := 13) (d := some 31) rfl rfl (by kernel_rfl) (by kernel_rfl) (by kernel_rfl) (fun _ _ _ h => h) (by assumption) ?_
          (try simp only [Act.put, List.setIfInBounds_toArray, List.set_cons_zero, List.set_cons_succ])
          refine take_n (i := 14) (d := some 32) rfl rfl (by kernel_rfl) (by kernel_rfl) (by kernel_rfl) (fun _ _ _ h => h) (by assumption) ?_
          (try simp only [Act.put, List.setIfInBounds_toArray, List.set_cons_zero, List.set_cons_succ])
          refine take_n (i := 15) (d := some 33) rfl rfl (by kernel_rfl) (by kernel_rfl) (by kernel_rfl) (fun _ _ _ h => h) (by assumption) ?_
          (try simp only [Act.put, List.setIfInBounds_toArray, List.set_cons_zero, List.set_cons_succ])
          refine take_y (i := 16) (d := some 34) (v := ?_) rfl rfl (by kernel_rfl) (by kernel_rfl) (by kernel_rfl) (fun _ _ _ h => h) (by assumption) ?_ ?_
          rotate_left
          · intro oi ho
            simp only [List.getElem?_toArray, List.getElem?_cons_succ, List.getElem?_cons_zero, Option.some.injEq] at ho
            subst ho
            intro w hSw
            (try dsimp only at hSw)
            go_simp
            (try with_reducible rfl)
          (try simp only [Act.put, List.setIfInBounds_toArray, List.set_cons_zero, List.set_cons_succ])
          refine wpAnyH_done (by kernel_rfl) ?_ _
          go_wp2_with fail
          go_roundw
          case rel => exact ⟨i + 1, by go_num, by omega, by omega, by rw [← HT.out, ← HF.out]; exact HO4.out.drew, HB4.out.drew⟩
          case measure => simp [intOf]; omega
        | succ jp =>
          obtain ⟨p', y, rfl⟩ : ∃ p' y, p = p' ++ [y] := by
            rcases List.eq_nil_or_concat p with h | ⟨p', y, h⟩
            · rw [h] at hpj; cases hpj
            · exact ⟨p', y, by simpa using h⟩
          have hpl : p'.length = jp := by simpa using hpj
          have hgx : (p' ++ [y] ++ x :: q)[jp + 1]? = some x := by rw [List.getElem?_append_right (by simp; omega)]; simp [hpl]
          have hgy : (p' ++ [y] ++ x :: q)[jp]? = some y := by rw [List.getElem?_append_left (by simp; omega), List.getElem?_append_right (by omega)]; simp [hpl]
          have hll : (p' ++ [y] ++ x :: q).length = n := by simp at hlen ⊢; omega
          obtain ⟨ax, cx, hSx, x0, x1, x2, x3, x4, x5⟩ := ownver_at hO4 hgx
          obtain ⟨ay, cy, hSy, y0, y1, y2, y3, y4, y5⟩ := ownver_at hO4 hgy
          have HC : ∀ W, Hid (Calls Tryz.prog 61 #[.agg #[.int .i64 x.id, .slice ax x.vals.length cx, .int .i64 x.lo, .int .i64 x.hi, .int .i64 x.rlo, .int .i64 x.rhi], .agg #[.int .i64 y.id, .slice ay y.vals.length cy, .int .i64 y.lo, .int .i64 y.hi, .int .i64 y.rlo, .int .i64 y.rhi]] W fun e w' => e = .returned (.int .i64 (cmpI x.id y.id)) ∧ Below W.heap.size W w') := fun W => cmpVer_any x y _ _ W
          have hjn : jp + 1 < n := by simp at hlen; omega
          have hz1 : (0 : Int) ≤ (jp : Int) + 1 := by omega
          have hz2 : (jp : Int) + 1 < (n : Int) := by omega
          have hz3 : (0 : Int) < (jp : Int) + 1 := by omega
          have hz4 : (jp : Int) < (n : Int) := by omega
          have hz5 : (jp : Int) + 1 - 1 = (jp : Int) := by omega
          have hz6 : ((jp : Int) + 1).toNat = jp + 1 := by omega
          have hz7 : IntKind.i64.wrap (jp : Int) = (jp : Int) := by rw [IntKind.wrap_i64]; omega
          have HO4 := Lib.hid hO4
          have HSx := Lib.hid hSx
          have HSy := Lib.hid hSy
          have HLL := Lib.hid hll
          have HPL := Lib.hid hpl
          have HLN := Lib.hid hlen
          clear hO4 hSx hSy hgx hgy hll hpl hpj hlen
          by_cases hxy : x.id < y.id
          · have hcm : cmpI x.id y.id = -1 := by unfold cmpI; rw [if_pos hxy]
            rw [hcm] at HC
            clear hcm
            go_wp2_with fail
            refine wp_region_held_drew (S := (fun W => Below B w W ∧ W.cell? ⟨g, (jp + 1) * 6, none⟩ = some (.int .i64 x.id) ∧ W.cell? ⟨g, (jp + 1) * 6 + 1, none⟩ = some (.slice ax x.vals.length cx) ∧ W.cell? ⟨g, (jp + 1) * 6 + 2, none⟩ = some (.int .i64 x.lo) ∧ W.cell? ⟨g, (jp + 1) * 6 + 3, none⟩ = some (.int .i64 x.hi) ∧ W.cell? ⟨g, (jp + 1) * 6 + 4, none⟩ = some (.int .i64 x.rlo) ∧ W.cell? ⟨g, (jp + 1) * 6 + 5, none⟩ = some (.int .i64 x.rhi) ∧ W.cell? ⟨g, jp * 6, none⟩ = some (.int .i64 y.id) ∧ W.cell? ⟨g, jp * 6 + 1, none⟩ = some (.slice ay y.vals.length cy) ∧ W.cell? ⟨g, jp * 6 + 2, none⟩ = some (.int .i64 y.lo) ∧ W.cell? ⟨g, jp * 6 + 3, none⟩ = some (.int .i64 y.hi) ∧ W.cell? ⟨g, jp * 6 + 4, none⟩ = some (.int .i64 y.rlo) ∧ W.cell? ⟨g, jp * 6 + 5, none⟩ = some (.int .i64 y.rhi))) (by kernel_rfl) ?_ (fun hHeld => ?_)
            · (go_split_ands; refine ⟨?_, ?_, ?_, ?_, ?_, ?_, ?_, ?_, ?_, ?_, ?_, ?_, ?_⟩ <;> first | (with_reducible assumption) | with_reducible exact Below.drew (by assumption) | with_reducible exact cell_drew (by assumption) | with_reducible exact below_tr3 hBs (by assumption) (by assumption) | with_reducible exact cell_keep (by assumption) (by assumption))
            refine take_y (i := 0) (d := some 18) (v := ?_) rfl rfl (by kernel_rfl) (by kernel_rfl) (by kernel_rfl) (fun _ _ _ h => h) (by assumption) ?_ ?_
            rotate_left
            · intro oi ho
              simp only [List.getElem?_toArray, List.getElem?_cons_zero, Option.some.injEq] at ho
              subst ho
              intro w hSw
              (try dsimp only at hSw)
              go_simp
              (try with_reducible rfl)
            (try simp only [Act.put, List.setIfInBounds_toArray, List.set_cons_zero, List.set_cons_succ])
            refine take_y (i := 1) (d := some 19) (v := ?_) rfl rfl (by kernel_rfl) (by kernel_rfl) (by kernel_rfl) (fun _ _ _ h => h) (by assumption) ?_ ?_
            rotate_left
            · intro oi ho
              simp only [List.getElem?_toArray, List.getElem?_cons_succ, List.getElem?_cons_zero, Option.some.injEq] at ho
              subst ho
              intro w hSw
              (try dsimp only at hSw)
              go_simp
              (try with_reducible rfl)
            (try simp only [Act.put, List.setIfInBounds_toArray, List.set_cons_zero, List.set_cons_succ])
            refine take_y (i := 2) (d := some 20) (v := ?_) rfl rfl (by kernel_rfl) (by kernel_rfl) (by kernel_rfl) (fun _ _ _ h => h) (by assumption) ?_ ?_
            rotate_left
            · intro oi ho
              simp only [List.getElem?_toArray, List.getElem?_cons_succ, List.getElem?_cons_zero, Option.some.injEq] at ho
              subst ho
              intro w hSw
              (try dsimp only at hSw)
              go_simp
              (try with_reducible rfl)
            (try simp only [Act.put, List.setIfInBounds_toArray, List.set_cons_zero, List.set_cons_succ])
            refine take_y (i := 3) (d := some 21) (v := ?_) rfl rfl (by kernel_rfl) (by kernel_rfl) (by kernel_rfl) (fun _ _ _ h => h) (by assumption) ?_ ?_
            rotate_left
            · intro oi ho
              simp only [List.getElem?_toArray, List.getElem?_cons_succ, List.getElem?_cons_zero, Option.some.injEq] at ho
              subst ho
              intro w hSw
              (try dsimp only at hSw)
              go_simp
              (try with_reducible rfl)
            (try simp only [Act.put, List.setIfInBounds_toArray, List.set_cons_zero, List.set_cons_succ])
            refine take_y (i := 4) (d := some 22) (v := ?_) rfl rfl (by kernel_rfl) (by kernel_rfl) (by kernel_rfl) (fun _ _ _ h => h) (by assumption) ?_ ?_
            rotate_left
            · intro oi ho
              simp only [List.getElem?_toArray, List.getElem?_cons_succ, List.getElem?_cons_zero, Option.some.injEq] at ho
              subst ho
              intro w hSw
              (try dsimp only at hSw)
              go_simp
              (try with_reducible rfl)
            (try simp only [Act.put, List.setIfInBounds_toArray, List.set_cons_zero, List.set_cons_succ])
            refine take_y (i := 5) (d := some 23) (v := ?_) rfl rfl (by kernel_rfl) (by kernel_rfl) (by kernel_rfl) (fun _ _ _ h => h) (by assumption) ?_ ?_
            rotate_left
            · intro oi ho
              simp only [List.getElem?_toArray, List.getElem?_cons_succ, List.getElem?_cons_zero, Option.some.injEq] at ho
              subst ho
              intro w hSw
              (try dsimp only at hSw)
              go_simp
              (try with_reducible rfl)
            (try simp only [Act.put, List.setIfInBounds_toArray, List.set_cons_zero, List.set_cons_succ])
            refine take_y (i := 6) (d := some 24) (v := ?_) rfl rfl (by kernel_rfl) (by kernel_rfl) (by kernel_rfl) (fun _ _ _ h => h) (by assumption) ?_ ?_
            rotate_left
            · intro oi ho
              simp only [List.getElem?_toArray, List.getElem?_cons_succ, List.getElem?_cons_zero, Option.some.injEq] at ho
              subst ho
              intro w hSw
              (try dsimp only at hSw)
              go_simp
              (try with_reducible rfl)
            (try simp only [Act.put, List.setIfInBounds_toArray, List.set_cons_zero, List.set_cons_succ])
            refine take_y (i := 7) (d := some 25) (v := ?_) rfl rfl (by kernel_rfl) (by kernel_rfl) (by kernel_rfl) (fun _ _ _ h => h) (by assumption) ?_ ?_
            rotate_left
            · intro oi ho
              simp only [List.getElem?_toArray, List.getElem?_cons_succ, List.getElem?_cons_zero, Option.some.injEq] at ho
              subst ho
              intro w hSw
              (try dsimp only at hSw)
              go_simp
              (try with_reducible rfl)
            (try simp only [Act.put, List.setIfInBounds_toArray, List.set_cons_zero, List.set_cons_succ])
            refine take_y (i := 8) (d := some 26) (v := ?_) rfl rfl (by kernel_rfl) (by kernel_rfl) (by kernel_rfl) (fun _ _ _ h => h) (by assumption) ?_ ?_
            rotate_left
            · intro oi ho
              simp only [List.getElem?_toArray, List.getElem?_cons_succ, List.getElem?_cons_zero, Option.some.injEq] at ho
              subst ho
              intro w hSw
              (try dsimp only at hSw)
              go_simp
              (try with_reducible rfl)
            (try simp only [Act.put, List.setIfInBounds_toArray, List.set_cons_zero, List.set_cons_succ])
            refine take_y (i := 9) (d := some 27) (v := ?_) rfl rfl (by kernel_rfl) (by kernel_rfl) (by kernel_rfl) (fun _ _ _ h => h) (by assumption) ?_ ?_
            rotate_left
            · intro oi ho
              simp only [List.getElem?_toArray, List.getElem?_cons_succ, List.getElem?_cons_zero, Option.some.injEq] at ho
              subst ho
              intro w hSw
              (try dsimp only at hSw)
              go_simp
              (try with_reducible rfl)
            (try simp only [Act.put, List.setIfInBounds_toArray, List.set_cons_zero, List.set_cons_succ])
            refine take_y (i := 10) (d := some 28) (v := ?_) rfl rfl (by kernel_rfl) (by kernel_rfl) (by kernel_rfl) (fun _ _ _ h => h) (by assumption) ?_ ?_
            rotate_left
            · intro oi ho
              simp only [List.getElem?_toArray, List.getElem?_cons_succ, List.getElem?_cons_zero, Option.some.injEq] at ho
              subst ho
              intro w hSw
              (try dsimp only at hSw)
              go_simp
              (try with_reducible rfl)
            (try simp only [Act.put, List.setIfInBounds_toArray, List.set_cons_zero, List.set_cons_succ])
            refine take_y (i := 11) (d := some 29) (v := ?_) rfl rfl (by kernel_rfl) (by kernel_rfl) (by kernel_rfl) (fun _ _ _ h => h) (by assumption) ?_ ?_
            rotate_left
            · intro oi ho
              simp only [List.getElem?_toArray, List.getElem?_cons_succ, List.getElem?_cons_zero, Option.some.injEq] at ho
              subst ho
              intro w hSw
              (try dsimp only at hSw)
              go_simp
              (try with_reducible rfl)
            (try simp only [Act.put, List.setIfInBounds_toArray, List.set_cons_zero, List.set_cons_succ])
            refine take_y (i := 12) (d := some 30) (v := ?_) rfl rfl (by kernel_rfl) (by kernel_rfl) (by kernel_rfl) (fun _ _ _ h => h) (by assumption) ?_ ?_
            rotate_left
            · intro oi ho
              simp only [List.getElem?_toArray, List.getElem?_cons_succ, List.getElem?_cons_zero, Option.some.injEq] at ho
              subst ho
              intro w hSw
              (try dsimp only at hSw)
              go_simp
              (try with_reducible rfl)
            (try simp only [Act.put, List.setIfInBounds_toArray, List.set_cons_zero, List.set_cons_succ])
            refine take_y (i := 13) (d := some 31) (v := ?_) rfl rfl (by kernel_rfl) (by kernel_rfl) (by kernel_rfl) (fun _ _ _ h => h) (by assumption) ?_ ?_
            rotate_left
            · intro oi ho
              simp only [List.getElem?_toArray, List.getElem?_cons_succ, List.getElem?_cons_zero, Option.some.injEq] at ho
              subst ho
              intro w hSw
              (try dsimp only at hSw)
              go_simp
              (try with_reducible rfl)
            (try simp only [Act.put, List.setIfInBounds_toArray, List.set_cons_zero, List.set_cons_succ])
            refine wpAnyH_ready (rs := [14]) (by kernel_rfl) (by simp) ?_
            refine AllReadyH.cons rfl (fun K hK => ?_) AllReadyH.nil
            go_simp
            (go_at_call 61; refine (HC _).out.mono ?_; rintro e wA ⟨rfl, hbA⟩)
            refine hK.out _ _ ?_ (fun hHeld => ?_)
            · (try dsimp only)
              (go_split_ands; refine ⟨?_, ?_, ?_, ?_, ?_, ?_, ?_, ?_, ?_, ?_, ?_, ?_, ?_⟩ <;> first | (with_reducible assumption) | with_reducible exact Below.drew (by assumption) | with_reducible exact cell_drew (by assumption) | with_reducible exact below_tr3 hBs (by assumption) (by assumption) | with_reducible exact cell_keep (by assumption) (by assumption))
            clear hK K
            (try simp only [Act.put, List.setIfInBounds_toArray, List.set_cons_zero, List.set_cons_succ])
            refine take_y (i := 15) (d := some 33) (v := ?_) rfl rfl (by kernel_rfl) (by kernel_rfl) (by kernel_rfl) (fun _ _ _ h => h) (by assumption) ?_ ?_
            rotate_left
            · intro oi ho
              simp only [List.getElem?_toArray, List.getElem?_cons_succ, List.getElem?_cons_zero, Option.some.injEq] at ho
              subst ho
              intro w hSw
              (try dsimp only at hSw)
              go_simp
              (try with_reducible rfl)
            (try simp only [Act.put, List.setIfInBounds_toArray, List.set_cons_zero, List.set_cons_succ])
            refine take_y (i := 16) (d := some 34) (v := ?_) rfl rfl (by kernel_rfl) (by kernel_rfl) (by kernel_rfl) (fun _ _ _ h => h) (by assumption) ?_ ?_
            rotate_left
            · intro oi ho
              simp only [List.getElem?_toArray, List.getElem?_cons_succ, List.getElem?_cons_zero, Option.some.injEq] at ho
              subst ho
              intro w hSw
              (try dsimp only at hSw)
              go_simp
              (try with_reducible rfl)
            (try simp only [Act.put, List.setIfInBounds_toArray, List.set_cons_zero, List.set_cons_succ])
            refine wpAnyH_done (by kernel_rfl) ?_ _
            have hbw : Below B w wA := below_tr3 hBs hB4.drew hbA
            have hO5 := HO4.out.drew.below hbA
            have hSx5 := (HSx.out.below (Below.refl _ _).drew).below hbA
            have hSy5 := (HSy.out.below (Below.refl _ _).drew).below hbA
            have fx0 := hO5.frozen HLL.out ((jp + 1) * 6)
            have fy0 := hO5.frozen HLL.out (jp * 6)
            have fx1 := hO5.frozen HLL.out ((jp + 1) * 6 + 1)
            have fy1 := hO5.frozen HLL.out (jp * 6 + 1)
            have fx2 := hO5.frozen HLL.out ((jp + 1) * 6 + 2)
            have fy2 := hO5.frozen HLL.out (jp * 6 + 2)
            have fx3 := hO5.frozen HLL.out ((jp + 1) * 6 + 3)
            have fy3 := hO5.frozen HLL.out (jp * 6 + 3)
            have fx4 := hO5.frozen HLL.out ((jp + 1) * 6 + 4)
            have fy4 := hO5.frozen HLL.out (jp * 6 + 4)
            have fx5 := hO5.frozen HLL.out ((jp + 1) * 6 + 5)
            have fy5 := hO5.frozen HLL.out (jp * 6 + 5)
            have HO5 := Lib.hid hO5
            have HBW := Lib.hid hbw
            have HSx5 := Lib.hid hSx5
            have HSy5 := Lib.hid hSy5
            clear hO5 hbw hSx5 hSy5 hbA hB4 HC HO4 HSx HSy x0 x1 x2 x3 x4 x5 y0 y1 y2 y3 y4 y5
            go_wp2_with fail
            go_region
            have o1 := ownver_put HO5.out HLL.out hjn HSy5.out
            have o2 := ownver_put o1.1 (by rw [List.length_set]; exact HLL.out) (k := jp) (Nat.lt_of_succ_lt hjn) (HSx5.out.kept (Kept.of_grown o1.2).or)
            have hls : ((p' ++ [y] ++ x :: q).set (jp + 1) y).set jp x = p' ++ x :: y :: q := by
              have h := HPL.out
              subst h
              rw [List.append_assoc, List.set_append_right _ _ (by omega), List.set_append_right _ _ (by omega)]
              simp
            have hb1 := HBW.out.grown o1.2 (Nat.le_trans hBs HBW.out.size) (fun k hk => by cases hk; exact hgB)
            have hb2 := hb1.grown o2.2 (Nat.le_trans hBs hb1.size) (fun k hk => by cases hk; exact hgB)
            rw [hls] at o2
            have HO2 := Lib.hid o2.1.drew
            have HB2 := Lib.hid hb2.drew
            have HP2 : Hid (insV x p' ++ y :: q = T) := by
              show _ = _
              rw [← HP.out, insV_snoc, if_pos hxy, List.append_assoc]
              rfl
            clear o1 o2 hb1 hb2 hls fx0 fx1 fx2 fx3 fx4 fx5 fy0 fy1 fy2 fy3 fy4 fy5
            go_wp2_with fail
            go_roundw
            case rel => exact ⟨jp, p', y :: q, by go_num, HPL.out, by have := HLN.out; simp at this ⊢; omega, HO2.out, HP2, HB2.out⟩
            case measure => simp [intOf]
          · obtain ⟨r, hr, hrn⟩ : ∃ r, cmpI x.id y.id = r ∧ ¬ r < 0 := ⟨_, rfl, by unfold cmpI; rw [if_neg hxy]; split <;> omega⟩
            rw [hr] at HC
            clear hr
            go_wp2_with fail
            refine wp_region_held_drew (S := (fun W => Below B w W ∧ W.cell? ⟨g, (jp + 1) * 6, none⟩ = some (.int .i64 x.id) ∧ W.cell? ⟨g, (jp + 1) * 6 + 1, none⟩ = some (.slice ax x.vals.length cx) ∧ W.cell? ⟨g, (jp + 1) * 6 + 2, none⟩ = some (.int .i64 x.lo) ∧ W.cell? ⟨g, (jp + 1) * 6 + 3, none⟩ = some (.int .i64 x.hi) ∧ W.cell? ⟨g, (jp + 1) * 6 + 4, none⟩ = some (.int .i64 x.rlo) ∧ W.cell? ⟨g, (jp + 1) * 6 + 5, none⟩ = some (.int .i64 x.rhi) ∧ W.cell? ⟨g, jp * 6, none⟩ = some (.int .i64 y.id) ∧ W.cell? ⟨g, jp * 6 + 1, none⟩ = some (.slice ay y.vals.length cy) ∧ W.cell? ⟨g, jp * 6 + 2, none⟩ = some (.int .i64 y.lo) ∧ W.cell? ⟨g, jp * 6 + 3, none⟩ = some (.int .i64 y.hi) ∧ W.cell? ⟨g, jp * 6 + 4, none⟩ = some (.int .i64 y.rlo) ∧ W.cell? ⟨g, jp * 6 + 5, none⟩ = some (.int .i64 y.rhi))) (by kernel_rfl) ?_ (fun hHeld => ?_)
            · (go_split_ands; refine ⟨?_, ?_, ?_, ?_, ?_, ?_, ?_, ?_, ?_, ?_, ?_, ?_, ?_⟩ <;> first | (with_reducible assumption) | with_reducible exact Below.drew (by assumption) | with_reducible exact cell_drew (by assumption) | with_reducible exact below_tr3 hBs (by assumption) (by assumption) | with_reducible exact cell_keep (by assumption) (by assumption))
            refine take_y (i := 0) (d := some 18) (v := ?_) rfl rfl (by kernel_rfl) (by kernel_rfl) (by kernel_rfl) (fun _ _ _ h => h) (by assumption) ?_ ?_
            rotate_left
            · intro oi ho
              simp only [List.getElem?_toArray, List.getElem?_cons_zero, Option.some.injEq] at ho
              subst ho
              intro w hSw
              (try dsimp only at hSw)
              go_simp
              (try with_reducible rfl)
            (try simp only [Act.put, List.setIfInBounds_toArray, List.set_cons_zero, List.set_cons_succ])
            refine take_y (i := 1) (d := some 19) (v := ?_) rfl rfl (by kernel_rfl) (by kernel_rfl) (by kernel_rfl) (fun _ _ _ h => h) (by assumption) ?_ ?_
            rotate_left
            · intro oi ho
              simp only [List.getElem?_toArray, List.getElem?_cons_succ, List.getElem?_cons_zero, Option.some.injEq] at ho
              subst ho
              intro w hSw
              (try dsimp only at hSw)
              go_simp
              (try with_reducible rfl)
            (try simp only [Act.put, List.setIfInBounds_toArray, List.set_cons_zero, List.set_cons_succ])
            refine take_y (i := 2) (d := some 20) (v := ?_) rfl rfl (by kernel_rfl) (by kernel_rfl) (by kernel_rfl) (fun _ _ _ h => h) (by assumption) ?_ ?_
            rotate_left
            · intro oi ho
              simp only [List.getElem?_toArray, List.getElem?_cons_succ, List.getElem?_cons_zero, Option.some.injEq] at ho
              subst ho
              intro w hSw
              (try dsimp only at hSw)
              go_simp
              (try with_reducible rfl)
            (try simp only [Act.put, List.setIfInBounds_toArray, List.set_cons_zero, List.set_cons_succ])
            refine take_y (i := 3) (d := some 21) (v := ?_) rfl rfl (by kernel_rfl) (by kernel_rfl) (by kernel_rfl) (fun _ _ _ h => h) (by assumption) ?_ ?_
            rotate_left
            · intro oi ho
              simp only [List.getElem?_toArray, List.getElem?_cons_succ, List.getElem?_cons_zero, Option.some.injEq] at ho
              subst ho
              intro w hSw
              (try dsimp only at hSw)
              go_simp
              (try with_reducible rfl)
            (try simp only [Act.put, List.setIfInBounds_toArray, List.set_cons_zero, List.set_cons_succ])
            refine take_y (i := 4) (d := some 22) (v := ?_) rfl rfl (by kernel_rfl) (by kernel_rfl) (by kernel_rfl) (fun _ _ _ h => h) (by assumption) ?_ ?_
            rotate_left
            · intro oi ho
              simp only [List.getElem?_toArray, List.getElem?_cons_succ, List.getElem?_cons_zero, Option.some.injEq] at ho
              subst ho
              intro w hSw
              (try dsimp only at hSw)
              go_simp
              (try with_reducible rfl)
            (try simp only [Act.put, List.setIfInBounds_toArray, List.set_cons_zero, List.set_cons_succ])
            refine take_y (i := 5) (d := some 23) (v := ?_) rfl rfl (by kernel_rfl) (by kernel_rfl) (by kernel_rfl) (fun _ _ _ h => h) (by assumption) ?_ ?_
            rotate_left
            · intro oi ho
              simp only [List.getElem?_toArray, List.getElem?_cons_succ, List.getElem?_cons_zero, Option.some.injEq] at ho
              subst ho
              intro w hSw
              (try dsimp only at hSw)
              go_simp
              (try with_reducible rfl)
            (try simp only [Act.put, List.setIfInBounds_toArray, List.set_cons_zero, List.set_cons_succ])
            refine take_y (i := 6) (d := some 24) (v := ?_) rfl rfl (by kernel_rfl) (by kernel_rfl) (by kernel_rfl) (fun _ _ _ h => h) (by assumption) ?_ ?_
            rotate_left
            · intro oi ho
              simp only [List.getElem?_toArray, List.getElem?_cons_succ, List.getElem?_cons_zero, Option.some.injEq] at ho
              subst ho
              intro w hSw
              (try dsimp only at hSw)
              go_simp
              (try with_reducible rfl)
            (try simp only [Act.put, List.setIfInBounds_toArray, List.set_cons_zero, List.set_cons_succ])
            refine take_y (i := 7) (d := some 25) (v := ?_) rfl rfl (by kernel_rfl) (by kernel_rfl) (by kernel_rfl) (fun _ _ _ h => h) (by assumption) ?_ ?_
            rotate_left
            · intro oi ho
              simp only [List.getElem?_toArray, List.getElem?_cons_succ, List.getElem?_cons_zero, Option.some.injEq] at ho
              subst ho
              intro w hSw
              (try dsimp only at hSw)
              go_simp
              (try with_reducible rfl)
            (try simp only [Act.put, List.setIfInBounds_toArray, List.set_cons_zero, List.set_cons_succ])
            refine take_y (i := 8) (d := some 26) (v := ?_) rfl rfl (by kernel_rfl) (by kernel_rfl) (by kernel_rfl) (fun _ _ _ h => h) (by assumption) ?_ ?_
            rotate_left
            · intro oi ho
              simp only [List.getElem?_toArray, List.getElem?_cons_succ, List.getElem?_cons_zero, Option.some.injEq] at ho
              subst ho
              intro w hSw
              (try dsimp only at hSw)
              go_simp
              (try with_reducible rfl)
            (try simp only [Act.put, List.setIfInBounds_toArray, List.set_cons_zero, List.set_cons_succ])
            refine take_y (i := 9) (d := some 27) (v := ?_) rfl rfl (by kernel_rfl) (by kernel_rfl) (by kernel_rfl) (fun _ _ _ h => h) (by assumption) ?_ ?_
            rotate_left
            · intro oi ho
              simp only [List.getElem?_toArray, List.getElem?_cons_succ, List.getElem?_cons_zero, Option.some.injEq] at ho
              subst ho
              intro w hSw
              (try dsimp only at hSw)
              go_simp
              (try with_reducible rfl)
            (try simp only [Act.put, List.setIfInBounds_toArray, List.set_cons_zero, List.set_cons_succ])
            refine take_y (i := 10) (d := some 28) (v := ?_) rfl rfl (by kernel_rfl) (by kernel_rfl) (by kernel_rfl) (fun _ _ _ h => h) (by assumption) ?_ ?_
            rotate_left
            · intro oi ho
              simp only [List.getElem?_toArray, List.getElem?_cons_succ, List.getElem?_cons_zero, Option.some.injEq] at ho
              subst ho
              intro w hSw
              (try dsimp only at hSw)
              go_simp
              (try with_reducible rfl)
            (try simp only [Act.put, List.setIfInBounds_toArray, List.set_cons_zero, List.set_cons_succ])
            refine take_y (i := 11) (d := some 29) (v := ?_) rfl rfl (by kernel_rfl) (by kernel_rfl) (by kernel_rfl) (fun _ _ _ h => h) (by assumption) ?_ ?_
            rotate_left
            · intro oi ho
              simp only [List.getElem?_toArray, List.getElem?_cons_succ, List.getElem?_cons_zero, Option.some.injEq] at ho
              subst ho
              intro w hSw
              (try dsimp only at hSw)
              go_simp
              (try with_reducible rfl)
            (try simp only [Act.put, List.setIfInBounds_toArray, List.set_cons_zero, List.set_cons_succ])
            refine take_y (i := 12) (d := some 30) (v := ?_) rfl rfl (by kernel_rfl) (by kernel_rfl) (by kernel_rfl) (fun _ _ _ h => h) (by assumption) ?_ ?_
            rotate_left
            · intro oi ho
              simp only [List.getElem?_toArray, List.getElem?_cons_succ, List.getElem?_cons_zero, Option.some.injEq] at ho
              subst ho
              intro w hSw
              (try dsimp only at hSw)
              go_simp
              (try with_reducible rfl)
            (try simp only [Act.put, List.setIfInBounds_toArray, List.set_cons_zero, List.set_cons_succ])
            refine take_y (i := 13) (d := some 31) (v := ?_) rfl rfl (by kernel_rfl) (by kernel_rfl) (by kernel_rfl) (fun _ _ _ h => h) (by assumption) ?_ ?_
            rotate_left
            · intro oi ho
              simp only [List.getElem?_toArray, List.getElem?_cons_succ, List.getElem?_cons_zero, Option.some.injEq] at ho
              subst ho
              intro w hSw
              (try dsimp only at hSw)
              go_simp
              (try with_reducible rfl)
            (try simp only [Act.put, List.setIfInBounds_toArray, List.set_cons_zero, List.set_cons_succ])
            refine wpAnyH_ready (rs := [14]) (by kernel_rfl) (by simp) ?_
            refine AllReadyH.cons rfl (fun K hK => ?_) AllReadyH.nil
            go_simp
            (go_at_call 61; refine (HC _).out.mono ?_; rintro e wA ⟨rfl, hbA⟩)
            refine hK.out _ _ ?_ (fun hHeld => ?_)
            · (try dsimp only)
              (go_split_ands; refine ⟨?_, ?_, ?_, ?_, ?_, ?_, ?_, ?_, ?_, ?_, ?_, ?_, ?_⟩ <;> first | (with_reducible assumption) | with_reducible exact Below.drew (by assumption) | with_reducible exact cell_drew (by assumption) | with_reducible exact below_tr3 hBs (by assumption) (by assumption) | with_reducible exact cell_keep (by assumption) (by assumption))
            clear hK K
            (try simp only [Act.put, List.setIfInBounds_toArray, List.set_cons_zero, List.set_cons_succ])
            refine take_y (i := 15) (d := some 33) (v := ?_) rfl rfl (by kernel_rfl) (by kernel_rfl) (by kernel_rfl) (fun _ _ _ h => h) (by assumption) ?_ ?_
            rotate_left
            · intro oi ho
              simp only [List.getElem?_toArray, List.getElem?_cons_succ, List.getElem?_cons_zero, Option.some.injEq] at ho
              subst ho
              intro w hSw
              (try dsimp only at hSw)
              go_simp
              (try with_reducible rfl)
            (try simp only [Act.put, List.setIfInBounds_toArray, List.set_cons_zero, List.set_cons_succ])
            refine take_y (i := 16) (d := some 34) (v := ?_) rfl rfl (by kernel_rfl) (by kernel_rfl) (by kernel_rfl) (fun _ _ _ h => h) (by assumption) ?_ ?_
            rotate_left
            · intro oi ho
              simp only [List.getElem?_toArray, List.getElem?_cons_succ, List.getElem?_cons_zero, Option.some.injEq] at ho
              subst ho
              intro w hSw
              (try dsimp only at hSw)
              go_simp
              (try with_reducible rfl)
            (try simp only [Act.put, List.setIfInBounds_toArray, List.set_cons_zero, List.set_cons_succ])
            refine wpAnyH_done (by kernel_rfl) ?_ _
            have hbw : Below B w wA := below_tr3 hBs hB4.drew hbA
            have HO5 := Lib.hid (HO4.out.drew.below hbA)
            have HBW := Lib.hid hbw
            have HFF : Hid (p' ++ [y] ++ x :: q = T) := by
              show _ = _
              rw [← HP.out, insV_snoc, if_neg (by omega)]
              simp
            clear hbw hbA hB4 HC HO4 HSx HSy x0 x1 x2 x3 x4 x5 y0 y1 y2 y3 y4 y5
            go_wp2_with fail
            go_roundw
            case rel => exact ⟨i + 1, by go_num, by omega, by omega, by rw [← HT.out, ← HFF.out]; exact HO5.out, HBW.out⟩
            case measure => simp [intOf]; omega
    · have hin' : i = n := by omega
      subst hin'
      have HF : Hid (sortV (F.take i) ++ F.drop i = sortV F) := by
        show _ = _
        rw [List.take_of_length_le (by rw [HN.out]; exact Nat.le_refl _), List.drop_of_length_le (by rw [HN.out]; exact Nat.le_refl _), List.append_nil]
      rw [HF.out] at hOi
      have HOi := Lib.hid hOi
      have HBi := Lib.hid hBi
      clear hOi hBi
      go_wp2_with fail
      go_end0
      exact ⟨rfl, HOi.out, HBi.out⟩
set_option maxHeartbeats 1000000 in
theorem isort_none (v fv : Value) (a b : Int) (w : World) (hab : b ≤ a + 1) (ha : 0 ≤ a ∧ a ≤ 1000) :
    Calls Tryz.prog 94 #[v, .int .i64 a, .int .i64 b, fv] w fun e w' => e = .returned (.tuple #[]) ∧ w = w' := by
  have hw : IntKind.i64.wrap (a + 1) = a + 1 := by rw [IntKind.wrap_i64]; omega
  go_enter Tryz.func94, Tryz.ntmps94
  go_wp2_with fail
  refine wp_loop_rounds 1 ?_
  rw [rounds_succ]
  go_wp2_with fail
  go_end0
  exact ⟨rfl, rfl⟩
set_option maxHeartbeats 2000000 in
theorem stableCmp_any {D : Nat → Prop} (F : List Ver) (a : Option Addr) (n c B : Nat) (w : World) (hO : Own (verE.avoid D) w B (.slice a n c) F) (hn : F.length = n) (hs : n ≤ 20) (hBs : B ≤ w.heap.size) :
    Calls Tryz.prog 78 #[.slice a n c, .int .i64 n, .func (.func 61) #[] #[]] w fun e w' =>
      e = .returned (.tuple #[]) ∧ Own (verE.avoid D) w' B (.slice a n c) (sortV F) ∧ Below B w w' := by
  have HI : ∀ W, Own (verE.avoid D) W B (.slice a n c) F → B ≤ W.heap.size → Hid (Calls Tryz.prog 94 #[.slice a n c, .int .i64 0, .int .i64 n, .func (.func 61) #[] #[]] W fun e w' =>
      e = .returned (.tuple #[]) ∧ Own (verE.avoid D) w' B (.slice a n c) (sortV F) ∧ Below B W w') := fun W hOW hBW => by
    by_cases h0 : n = 0
    · subst h0
      have hF : F = [] := List.eq_nil_of_length_eq_zero hn
      subst hF
      refine (isort_none _ _ _ _ W (by omega) (by omega)).mono ?_
      rintro e w' ⟨rfl, rfl⟩
      exact ⟨rfl, hOW, Below.refl _ _⟩
    · obtain ⟨x, hx⟩ := lget_some F 0 (by omega)
      obtain ⟨b, o, e⟩ : ∃ b o, a = some ⟨b, o, none⟩ := by
        obtain ⟨b, o, _, _, e, _⟩ := vers_at hOW.sl hx
        exact ⟨b, o, e⟩
      subst e
      have ho : o = 0 := by
        obtain ⟨xs, h1, _⟩ := hOW
        rcases h1.2 with ⟨h', _⟩ | ⟨g', cap', cur, h', _⟩
        · cases h'
        · cases h'; rfl
      subst ho
      exact isort_any F b n c B W hOW hn (by omega) (by omega)
  have HO := Lib.hid hO
  clear hO
  go_enter Tryz.func78, Tryz.ntmps78
  go_wp2_with fail
  by_cases h20 : n = 20
  · subst h20
    refine wp_loop_rounds 2 ?_
    rw [rounds_succ]
    go_wp2_with fail
    refine (HI _ HO.out hBs).out.mono ?_
    rintro e w2 ⟨rfl, hO2, hB2⟩
    have HO2 := Lib.hid hO2
    have HB2 := Lib.hid hB2
    clear HI hO2 hB2
    go_wp2_with fail
    rw [rounds_succ]
    go_wp2_with fail
    refine (isort_none _ _ _ _ w2 (by omega) (by omega)).mono ?_
    rintro e w3 ⟨rfl, rfl⟩
    go_wp2_with fail
    refine wp_loop_rounds 1 ?_
    rw [rounds_succ]
    go_wp2_with fail
    go_end0
    exact ⟨rfl, HO2.out, HB2.out⟩
  · have hlt : n < 20 := by omega
    refine wp_loop_rounds 1 ?_
    rw [rounds_succ]
    go_wp2_with fail
    refine (HI _ HO.out hBs).out.mono ?_
    rintro e w2 ⟨rfl, hO2, hB2⟩
    have HO2 := Lib.hid hO2
    have HB2 := Lib.hid hB2
    clear HI hO2 hB2
    go_wp2_with fail
    refine wp_loop_rounds 1 ?_
    rw [rounds_succ]
    go_wp2_with fail
    go_end0
    exact ⟨rfl, HO2.out, HB2.out⟩
set_option maxHeartbeats 2000000 in
theorem stable_any {D : Nat → Prop} (F : List Ver) (a : Option Addr) (c B : Nat) (w : World) (hO : Own (verE.avoid D) w B (.slice a F.length c) F) (hs : F.length ≤ 20) (hBs : B ≤ w.heap.size) :
    Calls Tryz.prog 60 #[.slice a F.length c, .func (.func 61) #[] #[]] w fun e w' =>
      e = .returned (.tuple #[]) ∧ Own (verE.avoid D) w' B (.slice a F.length c) (sortV F) ∧ Below B w w' := by
  have HO := Lib.hid hO
  obtain ⟨n, hn⟩ : ∃ n, n = F.length := ⟨_, rfl⟩
  have HN := Lib.hid hn
  rw [← hn] at HO hs ⊢
  clear hO hn
  go_enter Tryz.func60, Tryz.ntmps60
  go_wp2_with fail
  refine (stableCmp_any F a n c B w HO.out HN.out.symm hs hBs).mono ?_
  rintro e w2 ⟨rfl, hO2, hB2⟩
  go_wp2_with fail
  go_end0
  exact ⟨rfl, hO2, hB2⟩
end Go.Proofs.YtfmbbfidjcgeiaaGreat

namespace Go.Proofs.YtfmbbfidjcgeiaaGreat
open Go.RowKit Go.Lib Go.Shelf

set_option maxHeartbeats 4000000 in
set_option maxRecDepth 100000 in
theorem reval_1 (b o n c k : Nat) (ck cn : Int) (cs : ByteArray) (w : World) (hkn : k < n) (_hn63 : n ≤ 9223372036854775807) (vr vd : Value) (xa xb col : Int)
    (c0 : w.cell? ⟨b, o + k * 7, none⟩ = some (.int .i64 1)) (c1 : w.cell? ⟨b, o + k * 7 + 1, none⟩ = some (.int .i64 xa)) (c2 : w.cell? ⟨b, o + k * 7 + 2, none⟩ = some (.int .i64 xb)) (c3' : w.cell? ⟨b, o + k * 7 + 3, none⟩ = some (.int .i64 col))
    (c4 : w.cell? ⟨b, o + k * 7 + 4, none⟩ = some (.int .i64 ck)) (c5 : w.cell? ⟨b, o + k * 7 + 5, none⟩ = some (.int .i64 cn)) (c6 : w.cell? ⟨b, o + k * 7 + 6, none⟩ = some (.string cs))
    (HAR : ∀ W, Hid (Calls Tryz.prog 46 #[.int .i64 1] W fun e w' => e = .returned (.int .i64 0) ∧ W = w'))
    (HLG : ∀ W, Below w.heap.size w W → Hid (Calls Tryz.prog 47 #[.slice (some ⟨b, o, none⟩) n c, .int .i64 (k : Int)] W fun e w' => e = .returned (.bool true) ∧ W = w')) :
    Calls Tryz.prog 28 #[.slice (some ⟨b, o, none⟩) n c, .int .i64 (k : Int), vr, vd] w fun e w' => e = .returned (aggG ((⟨ck, cn, cs⟩ : GVal))) ∧ Below w.heap.size w w' := by
  have lb : b < w.heap.size := World.block_lt_of_cell? w _ c0
  go_enter Tryz.func28, Tryz.ntmps28
  go_wp2_with (first
    | (go_at_call 46; refine (HAR _).out.mono ?_; rintro e w' ⟨rfl, rfl⟩)
    | (go_at_call 47; refine (HLG _ (below_alloc_two w _ _)).out.mono ?_; rintro e w' ⟨rfl, rfl⟩))
  refine bodyPost_ret (v := .agg #[.int .i64 ck, .int .i64 cn, .string cs]) ?_ rfl ⟨rfl, ?_⟩
  · simp [results, Tryz.results28, go_sem]
  · first | exact bel4 w _ _ _ _ | exact below_alloc_two w _ _ | exact (((bel4 w _ _ _ _).setCell (Nat.le_refl _) _).setCell (Nat.le_refl _) _).setCell (Nat.le_refl _) _ | exact (((below_alloc_two w _ _).setCell (Nat.le_refl _) _).setCell (Nat.le_refl _) _).setCell (Nat.le_refl _) _

set_option maxHeartbeats 4000000 in
set_option maxRecDepth 100000 in
theorem reval_2 (b o n c k : Nat) (ck cn : Int) (cs : ByteArray) (w : World) (hkn : k < n) (_hn63 : n ≤ 9223372036854775807) (b4 o4 n4 c4' C : Nat) (vd : Value) (xa xb k4 m4 : Int) (s4 : ByteArray) (hC : C < n4) (_hn4 : n4 ≤ 9223372036854775807)
    (c0 : w.cell? ⟨b, o + k * 7, none⟩ = some (.int .i64 2)) (c1 : w.cell? ⟨b, o + k * 7 + 1, none⟩ = some (.int .i64 xa)) (c2 : w.cell? ⟨b, o + k * 7 + 2, none⟩ = some (.int .i64 xb)) (c3' : w.cell? ⟨b, o + k * 7 + 3, none⟩ = some (.int .i64 (C : Int)))
    (c4 : w.cell? ⟨b, o + k * 7 + 4, none⟩ = some (.int .i64 ck)) (c5 : w.cell? ⟨b, o + k * 7 + 5, none⟩ = some (.int .i64 cn)) (c6 : w.cell? ⟨b, o + k * 7 + 6, none⟩ = some (.string cs))
    (r0 : w.cell? ⟨b4, o4 + C * 3, none⟩ = some (.int .i64 k4)) (r1 : w.cell? ⟨b4, o4 + C * 3 + 1, none⟩ = some (.int .i64 m4)) (r2 : w.cell? ⟨b4, o4 + C * 3 + 2, none⟩ = some (.string s4))
    (HAR : ∀ W, Hid (Calls Tryz.prog 46 #[.int .i64 2] W fun e w' => e = .returned (.int .i64 0) ∧ W = w'))
    (HLG : ∀ W, Below w.heap.size w W → Hid (Calls Tryz.prog 47 #[.slice (some ⟨b, o, none⟩) n c, .int .i64 (k : Int)] W fun e w' => e = .returned (.bool true) ∧ W = w')) :
    Calls Tryz.prog 28 #[.slice (some ⟨b, o, none⟩) n c, .int .i64 (k : Int), (.slice (some ⟨b4, o4, none⟩) n4 c4'), vd] w fun e w' => e = .returned (aggG ((⟨k4, m4, s4⟩ : GVal))) ∧ Below w.heap.size w w' := by
  have lb : b < w.heap.size := World.block_lt_of_cell? w _ c0
  have lb3 : b4 < w.heap.size := World.block_lt_of_cell? w _ r0
  have lb3a : b4 < w.heap.size + 1 := by omega
  have lb3b : b4 < w.heap.size + 1 + 1 := by omega
  have lb3c : b4 < w.heap.size + 1 + 1 + 1 := by omega
  go_enter Tryz.func28, Tryz.ntmps28
  go_wp2_with (first
    | (go_at_call 46; refine (HAR _).out.mono ?_; rintro e w' ⟨rfl, rfl⟩)
    | (go_at_call 47; refine (HLG _ (below_alloc_two w _ _)).out.mono ?_; rintro e w' ⟨rfl, rfl⟩))
  refine bodyPost_ret (v := .agg #[.int .i64 k4, .int .i64 m4, .string s4]) ?_ rfl ⟨rfl, ?_⟩
  · simp [results, Tryz.results28, go_sem]
  · first | exact bel4 w _ _ _ _ | exact below_alloc_two w _ _ | exact (((bel4 w _ _ _ _).setCell (Nat.le_refl _) _).setCell (Nat.le_refl _) _).setCell (Nat.le_refl _) _ | exact (((below_alloc_two w _ _).setCell (Nat.le_refl _) _).setCell (Nat.le_refl _) _).setCell (Nat.le_refl _) _

set_option maxHeartbeats 4000000 in
set_option maxRecDepth 100000 in
theorem reval_2n (b o n c k : Nat) (ck cn : Int) (cs : ByteArray) (w : World) (hkn : k < n) (_hn63 : n ≤ 9223372036854775807) (a4 : Option Addr) (n4 c4' : Nat) (vd : Value) (xa xb col : Int) (hC : col < 0 ∨ (n4 : Int) ≤ col)
    (c0 : w.cell? ⟨b, o + k * 7, none⟩ = some (.int .i64 2)) (c1 : w.cell? ⟨b, o + k * 7 + 1, none⟩ = some (.int .i64 xa)) (c2 : w.cell? ⟨b, o + k * 7 + 2, none⟩ = some (.int .i64 xb)) (c3' : w.cell? ⟨b, o + k * 7 + 3, none⟩ = some (.int .i64 col))
    (c4 : w.cell? ⟨b, o + k * 7 + 4, none⟩ = some (.int .i64 ck)) (c5 : w.cell? ⟨b, o + k * 7 + 5, none⟩ = some (.int .i64 cn)) (c6 : w.cell? ⟨b, o + k * 7 + 6, none⟩ = some (.string cs))
    (HAR : ∀ W, Hid (Calls Tryz.prog 46 #[.int .i64 2] W fun e w' => e = .returned (.int .i64 0) ∧ W = w'))
    (HLG : ∀ W, Below w.heap.size w W → Hid (Calls Tryz.prog 47 #[.slice (some ⟨b, o, none⟩) n c, .int .i64 (k : Int)] W fun e w' => e = .returned (.bool true) ∧ W = w')) :
    Calls Tryz.prog 28 #[.slice (some ⟨b, o, none⟩) n c, .int .i64 (k : Int), (.slice a4 n4 c4'), vd] w fun e w' => e = .returned (aggG (gnull)) ∧ Below w.heap.size w w' := by
  have lb : b < w.heap.size := World.block_lt_of_cell? w _ c0
  by_cases h0 : col < 0
  · clear hC
    go_enter Tryz.func28, Tryz.ntmps28
    go_wp2_with (first
      | (go_at_call 46; refine (HAR _).out.mono ?_; rintro e w' ⟨rfl, rfl⟩)
      | (go_at_call 47; refine (HLG _ (below_alloc_two w _ _)).out.mono ?_; rintro e w' ⟨rfl, rfl⟩))
    refine bodyPost_ret (v := .agg #[.int .i64 0, .int .i64 0, .string ⟨#[]⟩]) ?_ rfl ⟨rfl, ?_⟩
    · simp [results, Tryz.results28, go_sem]
    · first | exact bel4 w _ _ _ _ | exact below_alloc_two w _ _ | exact (((bel4 w _ _ _ _).setCell (Nat.le_refl _) _).setCell (Nat.le_refl _) _).setCell (Nat.le_refl _) _ | exact (((below_alloc_two w _ _).setCell (Nat.le_refl _) _).setCell (Nat.le_refl _) _).setCell (Nat.le_refl _) _
  · have h1 : (n4 : Int) ≤ col := by omega
    clear hC
    go_enter Tryz.func28, Tryz.ntmps28
    go_wp2_with (first
      | (go_at_call 46; refine (HAR _).out.mono ?_; rintro e w' ⟨rfl, rfl⟩)
      | (go_at_call 47; refine (HLG _ (below_alloc_two w _ _)).out.mono ?_; rintro e w' ⟨rfl, rfl⟩))
    refine bodyPost_ret (v := .agg #[.int .i64 0, .int .i64 0, .string ⟨#[]⟩]) ?_ rfl ⟨rfl, ?_⟩
    · simp [results, Tryz.results28, go_sem]
    · first | exact bel4 w _ _ _ _ | exact below_alloc_two w _ _ | exact (((bel4 w _ _ _ _).setCell (Nat.le_refl _) _).setCell (Nat.le_refl _) _).setCell (Nat.le_refl _) _ | exact (((below_alloc_two w _ _).setCell (Nat.le_refl _) _).setCell (Nat.le_refl _) _).setCell (Nat.le_refl _) _

set_option maxHeartbeats 4000000 in
set_option maxRecDepth 100000 in
theorem reval_illegal (b o n c k : Nat) (ck cn : Int) (cs : ByteArray) (w : World) (hkn : k < n) (_hn63 : n ≤ 9223372036854775807) (vr vd : Value) (op xa xb col ar : Int) (har : 0 ≤ ar)
    (c0 : w.cell? ⟨b, o + k * 7, none⟩ = some (.int .i64 op)) (c1 : w.cell? ⟨b, o + k * 7 + 1, none⟩ = some (.int .i64 xa)) (c2 : w.cell? ⟨b, o + k * 7 + 2, none⟩ = some (.int .i64 xb)) (c3' : w.cell? ⟨b, o + k * 7 + 3, none⟩ = some (.int .i64 col))
    (c4 : w.cell? ⟨b, o + k * 7 + 4, none⟩ = some (.int .i64 ck)) (c5 : w.cell? ⟨b, o + k * 7 + 5, none⟩ = some (.int .i64 cn)) (c6 : w.cell? ⟨b, o + k * 7 + 6, none⟩ = some (.string cs))
    (HAR : ∀ W, Hid (Calls Tryz.prog 46 #[.int .i64 op] W fun e w' => e = .returned (.int .i64 ar) ∧ W = w'))
    (HLG : ∀ W, Below w.heap.size w W → Hid (Calls Tryz.prog 47 #[.slice (some ⟨b, o, none⟩) n c, .int .i64 (k : Int)] W fun e w' => e = .returned (.bool false) ∧ W = w')) :
    Calls Tryz.prog 28 #[.slice (some ⟨b, o, none⟩) n c, .int .i64 (k : Int), vr, vd] w fun e w' => e = .returned (aggG (gnull)) ∧ Below w.heap.size w w' := by
  have lb : b < w.heap.size := World.block_lt_of_cell? w _ c0
  go_enter Tryz.func28, Tryz.ntmps28
  go_wp2_with (first
    | (go_at_call 46; refine (HAR _).out.mono ?_; rintro e w' ⟨rfl, rfl⟩)
    | (go_at_call 47; refine (HLG _ (below_alloc_two w _ _)).out.mono ?_; rintro e w' ⟨rfl, rfl⟩))
  refine bodyPost_ret (v := .agg #[.int .i64 0, .int .i64 0, .string ⟨#[]⟩]) ?_ rfl ⟨rfl, ?_⟩
  · simp [results, Tryz.results28, go_sem]
  · first | exact bel4 w _ _ _ _ | exact below_alloc_two w _ _ | exact (((bel4 w _ _ _ _).setCell (Nat.le_refl _) _).setCell (Nat.le_refl _) _).setCell (Nat.le_refl _) _ | exact (((below_alloc_two w _ _).setCell (Nat.le_refl _) _).setCell (Nat.le_refl _) _).setCell (Nat.le_refl _) _

set_option maxHeartbeats 4000000 in
set_option maxRecDepth 100000 in
theorem reval_unknown (b o n c k : Nat) (ck cn : Int) (cs : ByteArray) (w : World) (hkn : k < n) (_hn63 : n ≤ 9223372036854775807) (vr vd : Value) (op xa xb col ar : Int) (har : ar < 0)
    (c0 : w.cell? ⟨b, o + k * 7, none⟩ = some (.int .i64 op)) (c1 : w.cell? ⟨b, o + k * 7 + 1, none⟩ = some (.int .i64 xa)) (c2 : w.cell? ⟨b, o + k * 7 + 2, none⟩ = some (.int .i64 xb)) (c3' : w.cell? ⟨b, o + k * 7 + 3, none⟩ = some (.int .i64 col))
    (c4 : w.cell? ⟨b, o + k * 7 + 4, none⟩ = some (.int .i64 ck)) (c5 : w.cell? ⟨b, o + k * 7 + 5, none⟩ = some (.int .i64 cn)) (c6 : w.cell? ⟨b, o + k * 7 + 6, none⟩ = some (.string cs))
    (HAR : ∀ W, Hid (Calls Tryz.prog 46 #[.int .i64 op] W fun e w' => e = .returned (.int .i64 ar) ∧ W = w')) :
    Calls Tryz.prog 28 #[.slice (some ⟨b, o, none⟩) n c, .int .i64 (k : Int), vr, vd] w fun e w' => e = .returned (aggG (gnull)) ∧ Below w.heap.size w w' := by
  have lb : b < w.heap.size := World.block_lt_of_cell? w _ c0
  go_enter Tryz.func28, Tryz.ntmps28
  go_wp2_with (first
    | (go_at_call 46; refine (HAR _).out.mono ?_; rintro e w' ⟨rfl, rfl⟩))
  refine bodyPost_ret (v := .agg #[.int .i64 0, .int .i64 0, .string ⟨#[]⟩]) ?_ rfl ⟨rfl, ?_⟩
  · simp [results, Tryz.results28, go_sem]
  · first | exact bel4 w _ _ _ _ | exact below_alloc_two w _ _ | exact (((bel4 w _ _ _ _).setCell (Nat.le_refl _) _).setCell (Nat.le_refl _) _).setCell (Nat.le_refl _) _ | exact (((below_alloc_two w _ _).setCell (Nat.le_refl _) _).setCell (Nat.le_refl _) _).setCell (Nat.le_refl _) _

end Go.Proofs.YtfmbbfidjcgeiaaGreat

namespace Go.Proofs.YtfmbbfidjcgeiaaGreat
open Go.RowKit Go.Lib Go.Shelf

theorem getD_some {α : Type} {l : List α} {k : Nat} {x d : α} (h : l[k]? = some x) : l.getD k d = x := by simp [List.getD, h]
theorem legal2 {op xa xb col : Int} {c : GVal} {k : Nat} (ha : arity op = 2) (h : legalX ⟨op, xa, xb, col, c⟩ k = true) : ∃ A B : Nat, xa = (A : Int) ∧ xb = (B : Int) ∧ A < k ∧ B < k := by
  simp [legalX, ha] at h
  obtain ⟨A, rfl⟩ := Int.eq_ofNat_of_zero_le h.1.1
  obtain ⟨B, rfl⟩ := Int.eq_ofNat_of_zero_le h.2.1
  exact ⟨A, B, rfl, rfl, by omega, by omega⟩
theorem legal1 {op xa xb col : Int} {c : GVal} {k : Nat} (ha : arity op = 1) (h : legalX ⟨op, xa, xb, col, c⟩ k = true) : ∃ A : Nat, xa = (A : Int) ∧ A < k := by
  simp [legalX, ha] at h
  obtain ⟨A, rfl⟩ := Int.eq_ofNat_of_zero_le h.1
  exact ⟨A, rfl, by omega⟩
theorem xev_legal {op xa xb col : Int} {c : GVal} {k : Nat} {row done : List GVal} (ha : 0 ≤ arity op) (h : legalX ⟨op, xa, xb, col, c⟩ k = true) : xev ⟨op, xa, xb, col, c⟩ k row done = xapp op col c row (done.getD xa.toNat gnull) (done.getD xb.toNat gnull) := by
  rw [xev, if_neg]
  simp [h]; omega

set_option maxHeartbeats 2000000 in
theorem reval_any (v vr vd : Value) (l : List GExp) (k : Nat) (x : GExp) (row done : List GVal) (w : World) (hv : Sl expE w free v l) (hk : l[k]? = some x) (hr : Sl valE w free vr row) (hd : Sl valE w free vd done) (hdl : k ≤ done.length) (hn : ∀ g ∈ done, In64 g.n) :
    Calls Tryz.prog 28 #[v, .int .i64 (k : Int), vr, vd] w fun e w' => e = .returned (aggG (xev x k row done)) ∧ Below w.heap.size w w' := by
  obtain ⟨op, xa, xb, col, c⟩ := x
  obtain ⟨a1, c1, rfl⟩ := hv.shape
  obtain ⟨a2, c2, rfl⟩ := hr.shape
  obtain ⟨a3, c3, rfl⟩ := hd.shape
  have hkl := (List.getElem?_eq_some_iff.1 hk).1
  have h63 := hv.1
  have h63r := hr.1
  have h63d := hd.1
  obtain ⟨b, o, rfl, e0, e1, e2, e3, e4, e5, e6⟩ := exp_at hv hk
  have HAR : ∀ W, Hid (Calls Tryz.prog 46 #[.int .i64 op] W fun e w' => e = .returned (.int .i64 (arity op)) ∧ W = w') := fun W => rarity_any op W
  have HLG : ∀ W, Below w.heap.size w W → Hid (Calls Tryz.prog 47 #[.slice (some ⟨b, o, none⟩) l.length c1, .int .i64 (k : Int)] W fun e w' => e = .returned (.bool (legalX ⟨op, xa, xb, col, c⟩ k)) ∧ W = w') := fun W hb => rlegal_any _ l k _ W (hv.below hb) hk
  by_cases har : arity op < 0
  · rw [show xev ⟨op, xa, xb, col, c⟩ k row done = gnull by rw [xev, if_pos (.inl har)]]
    exact reval_unknown b o l.length c1 k c.kind c.n c.s w hkl h63 _ _ op xa xb col (arity op) har e0 e1 e2 e3 e4 e5 e6 HAR
  · cases hleg : legalX ⟨op, xa, xb, col, c⟩ k
    · rw [show xev ⟨op, xa, xb, col, c⟩ k row done = gnull by rw [xev, if_pos (.inr hleg)]]
      rw [hleg] at HLG
      exact reval_illegal b o l.length c1 k c.kind c.n c.s w hkl h63 _ _ op xa xb col (arity op) (by omega) e0 e1 e2 e3 e4 e5 e6 HAR HLG
    · rw [xev_legal (by omega) hleg]
      rw [hleg] at HLG
      have hget : ∀ A : Nat, A < k → ∃ g, done[A]? = some g ∧ In64 g.n := fun A hA => by
        obtain ⟨g, hg⟩ := lget_some done A (by omega)
        exact ⟨g, hg, hn g (List.mem_of_getElem? hg)⟩
      have hop : 1 ≤ op ∧ op ≤ 11 := by have := arity_cases op; omega
      have two : ∀ (hop : 3 ≤ op ∧ op ≤ 9), ∃ (A B : Nat) (b3 o3 : Nat) (ga gb : GVal), xa = (A : Int) ∧ xb = (B : Int) ∧ A < done.length ∧ B < done.length ∧ a3 = some ⟨b3, o3, none⟩ ∧ done.getD xa.toNat gnull = ga ∧ done.getD xb.toNat gnull = gb ∧ In64 ga.n ∧ In64 gb.n ∧
          (w.cell? ⟨b3, o3 + A * 3, none⟩ = some (.int .i64 ga.kind) ∧ w.cell? ⟨b3, o3 + A * 3 + 1, none⟩ = some (.int .i64 ga.n) ∧ w.cell? ⟨b3, o3 + A * 3 + 2, none⟩ = some (.string ga.s)) ∧
          (w.cell? ⟨b3, o3 + B * 3, none⟩ = some (.int .i64 gb.kind) ∧ w.cell? ⟨b3, o3 + B * 3 + 1, none⟩ = some (.int .i64 gb.n) ∧ w.cell? ⟨b3, o3 + B * 3 + 2, none⟩ = some (.string gb.s)) := by
        intro hop
        obtain ⟨A, B, rfl, rfl, hA, hB⟩ := legal2 (by have := arity_cases op; omega) hleg
        obtain ⟨ga, hga, na⟩ := hget A hA
        obtain ⟨gb, hgb, nb⟩ := hget B hB
        obtain ⟨b3, o3, rfl, p⟩ := val_at hd hga
        obtain ⟨b3', o3', e', q⟩ := val_at hd hgb
        cases e'
        exact ⟨A, B, b3, o3, ga, gb, rfl, rfl, by omega, by omega, rfl, by simpa using getD_some hga, by simpa using getD_some hgb, na, nb, p, q⟩
      have one : ∀ (hop : op = 10 ∨ op = 11), ∃ (A : Nat) (b3 o3 : Nat) (ga : GVal), xa = (A : Int) ∧ A < done.length ∧ a3 = some ⟨b3, o3, none⟩ ∧ done.getD xa.toNat gnull = ga ∧
          (w.cell? ⟨b3, o3 + A * 3, none⟩ = some (.int .i64 ga.kind) ∧ w.cell? ⟨b3, o3 + A * 3 + 1, none⟩ = some (.int .i64 ga.n) ∧ w.cell? ⟨b3, o3 + A * 3 + 2, none⟩ = some (.string ga.s)) := by
        intro hop
        obtain ⟨A, rfl, hA⟩ := legal1 (by have := arity_cases op; omega) hleg
        obtain ⟨ga, hga, na⟩ := hget A hA
        obtain ⟨b3, o3, rfl, p⟩ := val_at hd hga
        exact ⟨A, b3, o3, ga, rfl, by omega, rfl, by simpa using getD_some hga, p⟩
      by_cases h2 : 3 ≤ op ∧ op ≤ 9
      · obtain ⟨A, B, b3, o3, ga, gb, rfl, rfl, hA, hB, rfl, hga, hgb, na, nb, ⟨p0, p1, p2⟩, q0, q1, q2⟩ := two h2
        rw [hga, hgb]
        rcases (by omega : op = 3 ∨ op = 4 ∨ op = 5 ∨ op = 6 ∨ op = 7 ∨ op = 8 ∨ op = 9) with rfl | rfl | rfl | rfl | rfl | rfl | rfl
        · exact reval_3 b o l.length c1 k c.kind c.n c.s w hkl h63 b3 o3 done.length c3 A B _ col ga.kind ga.n gb.kind gb.n ga.s gb.s e0 e1 e2 e3 e4 e5 e6 p0 p1 p2 hA h63d q0 q1 q2 hB na nb HAR HLG
        · exact reval_4 b o l.length c1 k c.kind c.n c.s w hkl h63 b3 o3 done.length c3 A B _ col ga.kind ga.n gb.kind gb.n ga.s gb.s e0 e1 e2 e3 e4 e5 e6 p0 p1 p2 hA h63d q0 q1 q2 hB na nb HAR HLG
        · exact reval_5 b o l.length c1 k c.kind c.n c.s w hkl h63 b3 o3 done.length c3 A B _ col ga.kind ga.n gb.kind gb.n ga.s gb.s e0 e1 e2 e3 e4 e5 e6 p0 p1 p2 hA h63d q0 q1 q2 hB na nb HAR HLG
        · exact reval_6 b o l.length c1 k c.kind c.n c.s w hkl h63 b3 o3 done.length c3 A B _ col ga.kind ga.n gb.kind gb.n ga.s gb.s e0 e1 e2 e3 e4 e5 e6 p0 p1 p2 hA h63d q0 q1 q2 hB HAR HLG
        · exact reval_7 b o l.length c1 k c.kind c.n c.s w hkl h63 b3 o3 done.length c3 A B _ col ga.kind ga.n gb.kind gb.n ga.s gb.s e0 e1 e2 e3 e4 e5 e6 p0 p1 p2 hA h63d q0 q1 q2 hB HAR HLG
        · exact reval_8 b o l.length c1 k c.kind c.n c.s w hkl h63 b3 o3 done.length c3 A B _ col ga.kind ga.n gb.kind gb.n ga.s gb.s e0 e1 e2 e3 e4 e5 e6 p0 p1 p2 hA h63d q0 q1 q2 hB HAR HLG
        · exact reval_9 b o l.length c1 k c.kind c.n c.s w hkl h63 b3 o3 done.length c3 A B _ col ga.kind ga.n gb.kind gb.n ga.s gb.s e0 e1 e2 e3 e4 e5 e6 p0 p1 p2 hA h63d q0 q1 q2 hB HAR HLG
      · by_cases h1 : op = 10 ∨ op = 11
        · obtain ⟨A, b3, o3, ga, rfl, hA, rfl, hga, p0, p1, p2⟩ := one h1
          rw [hga]
          rcases h1 with rfl | rfl
          · exact reval_10 b o l.length c1 k c.kind c.n c.s w hkl h63 b3 o3 done.length c3 A _ xb col ga.kind ga.n ga.s e0 e1 e2 e3 e4 e5 e6 p0 p1 p2 hA h63d HAR HLG
          · exact reval_11 b o l.length c1 k c.kind c.n c.s w hkl h63 b3 o3 done.length c3 A _ xb col ga.kind ga.n ga.s e0 e1 e2 e3 e4 e5 e6 p0 p1 p2 hA h63d HAR HLG
        · rcases (by omega : op = 1 ∨ op = 2) with rfl | rfl
          · exact reval_1 b o l.length c1 k c.kind c.n c.s w hkl h63 _ _ xa xb col e0 e1 e2 e3 e4 e5 e6 HAR HLG
          · by_cases hc : 0 ≤ col ∧ col < row.length
            · obtain ⟨C, rfl⟩ := Int.eq_ofNat_of_zero_le hc.1
              obtain ⟨g, hg⟩ := lget_some row C (by omega)
              obtain ⟨b4, o4, rfl, r0, r1, r2⟩ := val_at hr hg
              rw [show ∀ a b, xapp 2 (C : Int) c row a b = g from fun a b => by
                unfold xapp
                rw [if_neg (by decide), if_pos rfl, if_pos hc]
                simpa using getD_some hg]
              exact reval_2 b o l.length c1 k c.kind c.n c.s w hkl h63 b4 o4 row.length c2 C _ xa xb g.kind g.n g.s (by omega) h63r e0 e1 e2 e3 e4 e5 e6 r0 r1 r2 HAR HLG
            · rw [show ∀ a b, xapp 2 col c row a b = gnull from fun a b => by
                unfold xapp
                rw [if_neg (by decide), if_pos rfl, if_neg hc]]
              exact reval_2n b o l.length c1 k c.kind c.n c.s w hkl h63 a2 row.length c2 _ xa xb col (by omega) e0 e1 e2 e3 e4 e5 e6 HAR HLG
end Go.Proofs.YtfmbbfidjcgeiaaGreat

namespace Go.Proofs.YtfmbbfidjcgeiaaGreat
open Go.RowKit Go.Lib Go.Shelf

def gx0 : GExp := ⟨0, 0, 0, 0, gnull⟩
/-- The values of the first k expressions. -/
def vals (l : List GExp) (row : List GVal) : Nat → List GVal
  | 0 => []
  | k + 1 => vals l row k ++ [xev (l.getD k gx0) k row (vals l row k)]
theorem vals_length (l : List GExp) (row : List GVal) (k : Nat) : (vals l row k).length = k := by
  induction k with
  | zero => rfl
  | succ k ih => simp [vals, ih]
theorem getD_left {α : Type} (d p : List α) (z : α) {i : Nat} (h : i < d.length) : (d ++ p).getD i z = d.getD i z := by
  simp [List.getD, List.getElem?_append_left h]
theorem xapp_one {op : Int} (h : arity op < 2) (ha : 0 ≤ arity op) (col : Int) (c : GVal) (row : List GVal) (a b b' : GVal) : xapp op col c row a b = xapp op col c row a b' := by
  have : op = 1 ∨ op = 2 ∨ op = 10 ∨ op = 11 := by have := arity_cases op; omega
  rcases this with rfl | rfl | rfl | rfl <;> simp [xapp]
theorem xapp_none {op : Int} (h : arity op < 1) (ha : 0 ≤ arity op) (col : Int) (c : GVal) (row : List GVal) (a a' b b' : GVal) : xapp op col c row a b = xapp op col c row a' b' := by
  have : op = 1 ∨ op = 2 := by have := arity_cases op; omega
  rcases this with rfl | rfl <;> simp [xapp]
/-- What lies behind the values that are done says nothing. -/
theorem xev_pad (x : GExp) (row d p : List GVal) : xev x d.length row (d ++ p) = xev x d.length row d := by
  unfold xev
  by_cases h : arity x.op < 0 ∨ legalX x d.length = false
  · rw [if_pos h, if_pos h]
  · rw [if_neg h, if_neg h]
    have hl : legalX x d.length = true := by
      cases hh : legalX x d.length
      · exact absurd (.inr hh) h
      · rfl
    have h0 : 0 ≤ arity x.op := by
      by_cases h0 : arity x.op < 0
      · exact absurd (.inl h0) h
      · omega
    simp [legalX] at hl
    by_cases h1 : arity x.op < 1
    · exact xapp_none h1 h0 _ _ _ _ _ _ _
    · have ha := hl.1.resolve_left h1
      rw [getD_left d p gnull (i := x.a.toNat) (by omega)]
      by_cases h2 : arity x.op < 2
      · exact xapp_one h2 h0 _ _ _ _ _ _
      · have hb := hl.2.resolve_left h2
        rw [getD_left d p gnull (i := x.b.toNat) (by omega)]
theorem in64_gbool (b : Bool) : In64 (gbool b).n := by cases b <;> simp [gbool, In64]
theorem in64_gnull : In64 gnull.n := by simp [gnull, In64]
theorem in64_arith (op : Int) (a b : GVal) : In64 (arithG op a b).n := by
  unfold arithG
  split
  · split
    · rename_i h; exact h
    · exact in64_gnull
  · exact in64_gnull
theorem in64_xapp (op col : Int) (c : GVal) (row : List GVal) (a b : GVal) (hc : In64 c.n) (hr : ∀ g ∈ row, In64 g.n) : In64 (xapp op col c row a b).n := by
  unfold xapp
  split
  · exact hc
  split
  · split
    · rename_i h
      obtain ⟨g, hg⟩ := lget_some row col.toNat (by omega)
      rw [getD_some hg]
      exact hr g (List.mem_of_getElem? hg)
    · exact in64_gnull
  repeat (split; exact in64_gbool _)
  exact in64_arith _ _ _
theorem in64_xev (x : GExp) (k : Nat) (row done : List GVal) (hc : In64 x.c.n) (hr : ∀ g ∈ row, In64 g.n) : In64 (xev x k row done).n := by
  unfold xev
  split
  · exact in64_gnull
  · exact in64_xapp _ _ _ _ _ _ hc hr
theorem in64_vals (l : List GExp) (row : List GVal) (hc : ∀ x ∈ l, In64 x.c.n) (hr : ∀ g ∈ row, In64 g.n) (k : Nat) : ∀ g ∈ vals l row k, In64 g.n := by
  induction k with
  | zero => intro g hg; simp [vals] at hg
  | succ k ih =>
    intro g hg
    rcases List.mem_append.1 (by simpa only [vals] using hg) with h | h
    · exact ih g h
    · rw [List.mem_singleton.1 h]
      refine in64_xev _ _ _ _ ?_ hr
      cases hk : l[k]? with
      | none => simp [List.getD, hk, gx0]; exact in64_gnull
      | some x => rw [getD_some hk]; exact hc x (List.mem_of_getElem? hk)
/-- Eval: null where the root is none of the list's. -/
def evalG (l : List GExp) (root : Int) (row : List GVal) : GVal := if root < 0 ∨ (l.length : Int) ≤ root then gnull else (vals l row (root.toNat + 1)).getD root.toNat gnull
/-- The slice while it is filled: what is done, then the type's zeros. -/
theorem fill_set {α : Type} (d : List α) (z y : α) (n : Nat) : (d ++ List.replicate (n + 1) z).set d.length y = (d ++ [y]) ++ List.replicate n z := by
  rw [List.set_append_right _ _ (Nat.le_refl _)]
  simp [List.replicate_succ]
end Go.Proofs.YtfmbbfidjcgeiaaGreat

namespace Go.Proofs.YtfmbbfidjcgeiaaGreat
open Go.RowKit Go.Lib Go.Shelf

theorem flat_set {l : List GVal} {k : Nat} (hk : k < l.length) (y : GVal) :
    (((l.flatMap valOf).set (k * 3) (.int .i64 y.kind)).set (k * 3 + 1) (.int .i64 y.n)).set (k * 3 + 2) (.string y.s) = (l.set k y).flatMap valOf := by
  induction l generalizing k with
  | nil => simp at hk
  | cons x l ih =>
    cases k with
    | zero => simp [valOf]
    | succ k =>
      have e0 : (k + 1) * 3 = k * 3 + 1 + 1 + 1 := by omega
      have h := ih (k := k) (by simpa using hk)
      rw [e0]
      simp only [List.flatMap_cons, List.set_cons_succ, ← h]
      simp [valOf]
theorem made_vals (n : Nat) : (madeCells #[.int .i64 0, .int .i64 0, .string ⟨#[]⟩] (n * 3)).toList = (List.replicate n gnull).flatMap valOf := by
  refine List.ext_getElem? fun j => ?_
  rcases Nat.lt_or_ge j (n * 3) with hj | hj
  · have hi : j / 3 < n := by omega
    have hx : (List.replicate n gnull)[j / 3]? = some gnull := by simp [hi]
    obtain ⟨r, hr, e⟩ : ∃ r, r < 3 ∧ j = j / 3 * 3 + r := ⟨j % 3, by omega, by omega⟩
    have hm : j % 3 = r := by omega
    have hl : (madeCells #[.int .i64 0, .int .i64 0, .string ⟨#[]⟩] (n * 3)).toList[j]? = some (#[.int .i64 0, .int .i64 0, Value.string ⟨#[]⟩][r]!) := by
      simp [madeCells, hj, hm]
    rw [hl, e]
    rcases (by omega : r = 0 ∨ r = 1 ∨ r = 2) with rfl | rfl | rfl
    · exact (flatMap_at valOf 3 (fun _ => rfl) _ _ _ 0 _ hx rfl).symm
    · exact (flatMap_at valOf 3 (fun _ => rfl) _ _ _ 1 _ hx rfl).symm
    · exact (flatMap_at valOf 3 (fun _ => rfl) _ _ _ 2 _ hx rfl).symm
  · have h2 := flatMap_length valOf 3 (fun _ => rfl) (List.replicate n gnull)
    rw [List.getElem?_eq_none (by simpa [size_madeCells] using hj), List.getElem?_eq_none (by rw [h2]; simpa using hj)]
theorem own_made {w : World} {B g n : Nat} (h : w.ownsRow B 36 3 (.slice (some ⟨g, 0, none⟩) n n) n (madeCells #[.int .i64 0, .int .i64 0, .string ⟨#[]⟩] (n * 3)).toList) : Own valE w B (.slice (some ⟨g, 0, none⟩) n n) (List.replicate n gnull) := by
  rw [made_vals] at h
  exact Own.of_flat (by simpa using h)
theorem own_set3 {w : World} {B g n c k : Nat} {l : List GVal} (h : Own valE w B (.slice (some ⟨g, 0, none⟩) n c) l) (hn : l.length = n) (hk : k < n) (y : GVal) :
    Own valE (((w.setCell ⟨g, k * 3, none⟩ (.int .i64 y.kind)).setCell ⟨g, k * 3 + 1, none⟩ (.int .i64 y.n)).setCell ⟨g, k * 3 + 2, none⟩ (.string y.s)) B (.slice (some ⟨g, 0, none⟩) n c) (l.set k y) := by
  have h1 := Own.flat_cells h
  rw [hn] at h1
  have h2 := (((h1.stored (k * 3) (.int .i64 y.kind)).1.stored (k * 3 + 1) (.int .i64 y.n)).1.stored (k * 3 + 2) (.string y.s)).1
  rw [flat_set (by omega) y] at h2
  exact Own.of_flat (by simpa [hn] using h2)
theorem own_frozen {w : World} {B g n c : Nat} {l : List GVal} (h : Own valE w B (.slice (some ⟨g, 0, none⟩) n c) l) (hn : l.length = n) (j : Nat) : w.frozen? ⟨g, j, none⟩ = false := by
  have h1 := Own.flat_cells h
  rw [hn] at h1
  exact h1.frozenAt j
theorem own_at3 {w : World} {B g n c k : Nat} {l : List GVal} {x : GVal} (h : Own valE w B (.slice (some ⟨g, 0, none⟩) n c) l) (hk : l[k]? = some x) :
    w.cell? ⟨g, k * 3, none⟩ = some (.int .i64 x.kind) ∧ w.cell? ⟨g, k * 3 + 1, none⟩ = some (.int .i64 x.n) ∧ w.cell? ⟨g, k * 3 + 2, none⟩ = some (.string x.s) := by
  obtain ⟨a, c', e⟩ := h.shape
  cases e
  obtain ⟨b, o, e, p0, p1, p2⟩ := val_at h.sl hk
  cases e
  simp only [Nat.zero_add] at p0 p1 p2
  exact ⟨p0, p1, p2⟩
end Go.Proofs.YtfmbbfidjcgeiaaGreat

namespace Go.Proofs.YtfmbbfidjcgeiaaGreat
open Go.RowKit Go.Lib Go.Shelf

theorem val_parts : ∃ i, Tryz.prog.info? 36 = some i ∧ i.zero = some (.agg #[.int .i64 0, .int .i64 0, .string ⟨#[]⟩]) ∧ i.size = 3 ∧ i.bytes = 32 := by
  obtain ⟨i, hi, h⟩ := Option.map_eq_some_iff.1 val_info
  simp only [Prod.mk.injEq] at h
  exact ⟨i, hi, h.1, h.2.1, h.2.2⟩
set_option maxHeartbeats 2000000 in
theorem reEval_none (v vr : Value) (l : List GExp) (root : Int) (_row : List GVal) (w : World) (hv : Sl expE w free v l) (hroot : root < 0 ∨ (l.length : Int) ≤ root) :
    Calls Tryz.prog 14 #[v, .int .i64 root, vr] w fun e w' => e = .returned (aggG gnull) ∧ Below w.heap.size w w' := by
  obtain ⟨a1, c1, rfl⟩ := hv.shape
  obtain ⟨n, hn⟩ : ∃ n, n = l.length := ⟨_, rfl⟩
  rw [← hn] at hroot ⊢
  clear hv hn
  go_enter Tryz.func14, Tryz.ntmps14
  by_cases h0 : root < 0
  · go_wp2_with fail
    exact bodyPost_ret (v := aggG gnull) (by simp [aggG, gnull, results, Tryz.results14, go_sem]) rfl ⟨rfl, (Below.refl _ _).alloc (Nat.le_refl _) _⟩
  · have h1 : (n : Int) ≤ root := by omega
    go_wp2_with fail
    exact bodyPost_ret (v := aggG gnull) (by simp [aggG, gnull, results, Tryz.results14, go_sem]) rfl ⟨rfl, (Below.refl _ _).alloc (Nat.le_refl _) _⟩
set_option maxRecDepth 100000 in
set_option maxHeartbeats 2000000 in
theorem reEval_some (v vr : Value) (l : List GExp) (R : Nat) (row : List GVal) (w : World) (hv : Sl expE w free v l) (hr : Sl valE w free vr row) (hR : R < l.length) (hsz : 32 * (R + 1) ≤ 281474976710656) (hc : ∀ x ∈ l, In64 x.c.n) (hrow : ∀ g ∈ row, In64 g.n) :
    Calls Tryz.prog 14 #[v, .int .i64 (R : Int), vr] w fun e w' => e = .returned (aggG ((vals l row (R + 1)).getD R gnull)) ∧ Below w.heap.size w w' := by
  obtain ⟨a1, c1, rfl⟩ := hv.shape
  obtain ⟨a2, c2, rfl⟩ := hr.shape
  have HE : ∀ (W : World) (k : Nat) (vd : Value), k < R + 1 → Below w.heap.size w W → Sl valE W free vd (vals l row k ++ List.replicate (R + 1 - k) gnull) →
      Hid (Calls Tryz.prog 28 #[.slice a1 l.length c1, .int .i64 (k : Int), .slice a2 row.length c2, vd] W fun e w' => e = .returned (aggG (xev (l.getD k gx0) k row (vals l row k))) ∧ Below W.heap.size W w') := fun W k vd hk hB hd => by
    obtain ⟨x, hx⟩ := lget_some l k (by omega)
    have h := reval_any _ _ vd l k x row (vals l row k ++ List.replicate (R + 1 - k) gnull) W (hv.below hB) hx (hr.below hB) hd (by rw [List.length_append, vals_length]; omega) (fun g hg => by
      rcases List.mem_append.1 hg with h | h
      · exact in64_vals l row hc hrow k g h
      · rw [(List.mem_replicate.1 h).2]; exact in64_gnull)
    have hp := xev_pad x row (vals l row k) (List.replicate (R + 1 - k) gnull)
    rw [vals_length] at hp
    rw [hp] at h
    rw [getD_some hx]
    exact h
  have h63 := hv.1
  obtain ⟨n, hn⟩ : ∃ n, n = l.length := ⟨_, rfl⟩
  obtain ⟨m, hm⟩ : ∃ m, m = row.length := ⟨_, rfl⟩
  rw [← hn] at hR h63 ⊢
  rw [← hn, ← hm] at HE
  rw [← hm]
  clear hv hr hc hrow hn hm
  obtain ⟨i0, hi, hj0, hj1, hj2⟩ := val_parts
  go_enter Tryz.func14, Tryz.ntmps14
  go_wp2_with (at_make; refine wpList_make_full _ rfl _ _ 51 rfl (w.heap.size + 1) 36 i0 _ 3 Tryz.underlying51 hi hj0 hj1 _ _ _ _ (R + 1) rfl rfl (by go_num) (by go_num) (by rw [hj2]; omega) (by unfold maxLen; omega) (by simp) ?_; intro w1 hown1 hg1)
  have hO1 : Own valE w1 (w.heap.size + 1) (.slice (some ⟨w.heap.size + 1, 0, none⟩) (R + 1) (R + 1)) (List.replicate (R + 1) gnull) := own_made (by have h := hown1; rw [show (w.alloc (.cells #[.int .i64 0, .int .i64 0, .string ⟨#[]⟩] 36)).heap.size = w.heap.size + 1 by simp] at h; exact h)
  have hB1 : Below w.heap.size w w1 := ((Below.refl _ _).alloc (Nat.le_refl _) _).grown hg1 (by simp) (fun k hk => by cases hk)
  have hx1 : w1.heap[w.heap.size]? = some (.cells #[.int .i64 0, .int .i64 0, .string ⟨#[]⟩] 36 (0, 0)) := (hg1.block w.heap.size (by simp) (by simp)).trans (World.alloc_heap_new w _)
  clear hown1 hg1
  go_loopw [8] (fun i wr => ∃ k : Nat, k ≤ R + 1 ∧ i = .int .i64 k ∧ Own valE wr (w.heap.size + 1) (.slice (some ⟨w.heap.size + 1, 0, none⟩) (R + 1) (R + 1)) (vals l row k ++ List.replicate (R + 1 - k) gnull) ∧ wr.heap[w.heap.size]? = some (.cells #[.int .i64 0, .int .i64 0, .string ⟨#[]⟩] 36 (0, 0)) ∧ Below w.heap.size w wr) (fun i _ => R + 1 - (intOf i).toNat)
  case atStart => exact ⟨0, Nat.zero_le _, rfl, hO1, hx1, hB1⟩
  case round =>
    obtain ⟨k, hk, rfl, hO, hx, hB⟩ := hrel
    obtain ⟨wo, rfl⟩ : ∃ wo : World, wo = wr := ⟨_, rfl⟩
    by_cases hlt : k < R + 1
    · have HC := HE wo k _ hlt hB hO.sl
      clear HE hO1 hB1 hx1
      go_wp2_with fail
      refine HC.out.mono ?_
      rintro e w2 ⟨rfl, hb2⟩
      have hO2 := hO.below hb2
      have hx2 := box_kept hx hb2
      have hB2 : Below w.heap.size w w2 := hB.trans (hb2.mono hB.size)
      obtain ⟨y, hy⟩ : ∃ y, y = xev (l.getD k gx0) k row (vals l row k) := ⟨_, rfl⟩
      have HV : Hid ((vals l row k ++ List.replicate (R + 1 - k) gnull).set k y = vals l row (k + 1) ++ List.replicate (R + 1 - (k + 1)) gnull) := by
        show _ = _
        have h := fill_set (vals l row k) gnull y (R + 1 - (k + 1))
        rw [vals_length, show R + 1 - (k + 1) + 1 = R + 1 - k by omega] at h
        rw [h, hy]; rfl
      have hlen : (vals l row k ++ List.replicate (R + 1 - k) gnull).length = R + 1 := by simp [vals_length]; omega
      have hS := own_set3 hO2 hlen hlt y
      rw [HV.out] at hS
      obtain ⟨z, hz⟩ := lget_some (vals l row k ++ List.replicate (R + 1 - k) gnull) k (by omega)
      obtain ⟨p0, p1, p2⟩ := own_at3 hO2 hz
      have f0 := own_frozen hO2 hlen (k * 3)
      have f1 := own_frozen hO2 hlen (k * 3 + 1)
      have f2 := own_frozen hO2 hlen (k * 3 + 2)
      have HS := Lib.hid hS
      have HX := Lib.hid hx2
      have HB := Lib.hid hB2
      have hsz2 := hb2.size
      have hszo := hB.size
      have hsz3 := (hO2.lt _ rfl).2
      rw [← hy]
      clear hO hx hB HC hb2 hO2 hx2 hB2 hlen hS hz hy HV
      unfold aggG
      go_wp2_with fail
      go_roundw
      case rel =>
        refine ⟨k + 1, by omega, by go_num, HS.out, ?_, ((HB.out.setCell (Nat.le_succ _) _).setCell (Nat.le_succ _) _).setCell (Nat.le_succ _) _⟩
        rw [heap_setCell_other _ _ _ _ (Nat.ne_of_lt (Nat.lt_succ_self _)), heap_setCell_other _ _ _ _ (Nat.ne_of_lt (Nat.lt_succ_self _)), heap_setCell_other _ _ _ _ (Nat.ne_of_lt (Nat.lt_succ_self _))]
        exact HX.out
      case measure => simp [intOf]; omega
    · have hkR : k = R + 1 := by omega
      subst hkR
      obtain ⟨z, hz⟩ := lget_some (vals l row (R + 1) ++ List.replicate (R + 1 - (R + 1)) gnull) R (by simp [vals_length])
      obtain ⟨p0, p1, p2⟩ := own_at3 hO hz
      have HG : Hid ((vals l row (R + 1)).getD R gnull = z) := by
        show _ = _
        rw [← getD_left (vals l row (R + 1)) (List.replicate (R + 1 - (R + 1)) gnull) gnull (by rw [vals_length]; omega), getD_some hz]
      obtain ⟨⟨x0, x1, x2⟩, f0, f1, f2⟩ := box_three hx
      have hsz3 := hB.size
      have HB := Lib.hid hB
      have hsz4 := (hO.lt _ rfl).2
      clear HE hO1 hB1 hx1 hO hx hB hz
      go_wp2_with fail
      have hwz : w.heap.size < wo.heap.size := by omega
      exact bodyPost_ret (v := aggG z) (by simp [aggG, results, Tryz.results14, go_sem, x0, x1, x2]) rfl ⟨by have h := HG.out; simp only [List.getD_eq_getElem?_getD] at h; rw [h], ((HB.out.setCell (Nat.le_refl _) _).setCell (Nat.le_refl _) _).setCell (Nat.le_refl _) _⟩
theorem reEval_any (v vr : Value) (l : List GExp) (root : Int) (row : List GVal) (w : World) (hv : Sl expE w free v l) (hr : Sl valE w free vr row) (hsz : 32 * l.length ≤ 281474976710656) (hc : ∀ x ∈ l, In64 x.c.n) (hrow : ∀ g ∈ row, In64 g.n) :
    Calls Tryz.prog 14 #[v, .int .i64 root, vr] w fun e w' => e = .returned (aggG (evalG l root row)) ∧ Below w.heap.size w w' := by
  unfold evalG
  by_cases h : root < 0 ∨ (l.length : Int) ≤ root
  · rw [if_pos h]; exact reEval_none v vr l root row w hv h
  · rw [if_neg h]
    obtain ⟨R, rfl⟩ := Int.eq_ofNat_of_zero_le (show 0 ≤ root by omega)
    exact reEval_some v vr l R row w hv hr (by omega) (by omega) hc hrow
end Go.Proofs.YtfmbbfidjcgeiaaGreat

namespace Go.Proofs.YtfmbbfidjcgeiaaGreat
open Go.RowKit Go.Lib Go.Shelf

def aggX (x : GExp) : Value := .agg #[.int .i64 x.op, .int .i64 x.a, .int .i64 x.b, .int .i64 x.col, .int .i64 x.c.kind, .int .i64 x.c.n, .string x.c.s]
set_option maxHeartbeats 4000000 in
set_option maxRecDepth 100000 in
theorem apply_1 (va vr : Value) (xa xb col : Int) (c : GVal) (w : World) :
    Calls Tryz.prog 41 #[aggX ⟨1, xa, xb, col, c⟩, va, vr] w fun e w' => e = .returned (aggG c) ∧ Below w.heap.size w w' := by
  obtain ⟨ck, cn, cs⟩ := c
  unfold aggX
  dsimp only
  go_enter Tryz.func41, Tryz.ntmps41
  go_wp2_with fail
  exact bodyPost_ret (v := aggG ⟨ck, cn, cs⟩) (by simp [aggG, results, Tryz.results41, go_sem]) rfl ⟨rfl, by first | exact below_alloc_two w _ _ | exact (below_alloc_two w _ _).setCell (by simp) _⟩
set_option maxHeartbeats 4000000 in
set_option maxRecDepth 100000 in
theorem apply_2n (va : Value) (a2 : Option Addr) (n2 c2 : Nat) (xa xb col : Int) (c : GVal) (w : World) (hcol : ¬ (0 ≤ col ∧ col < n2)) :
    Calls Tryz.prog 41 #[aggX ⟨2, xa, xb, col, c⟩, va, .slice a2 n2 c2] w fun e w' => e = .returned (aggG gnull) ∧ Below w.heap.size w w' := by
  obtain ⟨ck, cn, cs⟩ := c
  unfold aggX
  dsimp only
  go_enter Tryz.func41, Tryz.ntmps41
  by_cases h0 : col < 0
  · go_wp2_with fail
    exact bodyPost_ret (v := aggG gnull) (by simp [aggG, gnull, results, Tryz.results41, go_sem]) rfl ⟨rfl, by first | exact below_alloc_two w _ _ | exact (below_alloc_two w _ _).setCell (by simp) _⟩
  · have h1 : (n2 : Int) ≤ col := by omega
    go_wp2_with fail
    exact bodyPost_ret (v := aggG gnull) (by simp [aggG, gnull, results, Tryz.results41, go_sem]) rfl ⟨rfl, by first | exact below_alloc_two w _ _ | exact (below_alloc_two w _ _).setCell (by simp) _⟩
set_option maxHeartbeats 4000000 in
set_option maxRecDepth 100000 in
theorem apply_2 (va : Value) (b o n2 c2 C : Nat) (xa xb : Int) (c : GVal) (k1 m1 : Int) (s1 : ByteArray) (w : World) (hcol : C < n2) (_h63 : n2 ≤ 9223372036854775807)
    (p0 : w.cell? ⟨b, o + C * 3, none⟩ = some (.int .i64 k1)) (p1 : w.cell? ⟨b, o + C * 3 + 1, none⟩ = some (.int .i64 m1)) (p2 : w.cell? ⟨b, o + C * 3 + 2, none⟩ = some (.string s1)) :
    Calls Tryz.prog 41 #[aggX ⟨2, xa, xb, (C : Int), c⟩, va, .slice (some ⟨b, o, none⟩) n2 c2] w fun e w' => e = .returned (aggG ⟨k1, m1, s1⟩) ∧ Below w.heap.size w w' := by
  have lb : b < w.heap.size := World.block_lt_of_cell? w _ p0
  have lb1 : b < w.heap.size + 1 := by omega
  have lb2 : b < w.heap.size + 1 + 1 := by omega
  obtain ⟨ck, cn, cs⟩ := c
  unfold aggX
  dsimp only
  go_enter Tryz.func41, Tryz.ntmps41
  go_wp2_with fail
  exact bodyPost_ret (v := aggG ⟨k1, m1, s1⟩) (by simp [aggG, results, Tryz.results41, go_sem]) rfl ⟨rfl, by first | exact below_alloc_two w _ _ | exact (below_alloc_two w _ _).setCell (by simp) _⟩
theorem isTrue_ag (k n : Int) (s : ByteArray) (w : World) : Calls Tryz.prog 67 #[.agg #[.int .i64 k, .int .i64 n, .string s]] w fun e w' => e = .returned (.bool (isTrueG ⟨k, n, s⟩)) ∧ Below w.heap.size w w' := isTrue_any ⟨k, n, s⟩ w

theorem aggG_bool (b : Bool) : aggG (gbool b) = .agg #[.int .i64 3, .int .i64 (b2i b), .string ⟨#[]⟩] := rfl
theorem boolean_ag (b : Bool) (w : World) : Calls Tryz.prog 65 #[.bool b] w fun e w' => e = .returned (.agg #[.int .i64 3, .int .i64 (b2i b), .string ⟨#[]⟩]) ∧ Below w.heap.size w w' := boolean_any b w
theorem heap2_1 (w : World) (c1 c2 : Obj) : ((w.alloc c1).alloc c2).heap[w.heap.size + 1]? = some c2 := by simpa using World.alloc_heap_new (w.alloc c1) c2
set_option maxHeartbeats 4000000 in
set_option maxRecDepth 100000 in
theorem apply_10 (b o n1 c1 : Nat) (vr : Value) (xa xb col : Int) (c : GVal) (k1 m1 : Int) (s1 : ByteArray) (w : World) (hn : 0 < n1) (_h63 : n1 ≤ 9223372036854775807)
    (p0 : w.cell? ⟨b, o, none⟩ = some (.int .i64 k1)) (p1 : w.cell? ⟨b, o + 1, none⟩ = some (.int .i64 m1)) (p2 : w.cell? ⟨b, o + 2, none⟩ = some (.string s1)) :
    Calls Tryz.prog 41 #[aggX ⟨10, xa, xb, col, c⟩, .slice (some ⟨b, o, none⟩) n1 c1, vr] w fun e w' => e = .returned (aggG (gbool (!isTrueG ⟨k1, m1, s1⟩))) ∧ Below w.heap.size w w' := by
  have lb : b < w.heap.size := World.block_lt_of_cell? w _ p0
  have lb1 : b < w.heap.size + 1 := by omega
  have lb2 : b < w.heap.size + 1 + 1 := by omega
  obtain ⟨ck, cn, cs⟩ := c
  obtain ⟨r, hr⟩ : ∃ r, r = isTrueG ⟨k1, m1, s1⟩ := ⟨_, rfl⟩
  rw [← hr]
  have HR := Lib.hid hr
  clear hr
  unfold aggX
  dsimp only
  go_enter Tryz.func41, Tryz.ntmps41
  go_wp2_with fail
  refine (isTrue_ag k1 m1 s1 _).mono ?_
  rintro e w1 ⟨rfl, hb1⟩
  rw [← HR.out]
  have hB1 : Below w.heap.size w w1 := below_keep (below_alloc_two w _ _) hb1
  have bx := box_kept (heap2_1 w _ _) hb1
  have hz : w.heap.size + 1 < w1.heap.size := by have := hb1.size; simp at this; omega
  clear hb1
  go_wp2_with fail
  refine (boolean_ag (!r) _).mono ?_
  rintro e w2 ⟨rfl, hb2⟩
  obtain ⟨⟨d0, d1, d2⟩, f0, f1, f2⟩ := box_three (box_kept bx hb2)
  have hB2 : Below w.heap.size w w2 := below_keep hB1 hb2
  have hz2 : w.heap.size + 1 < w2.heap.size := by have := hb2.size; omega
  clear hb2 hB1 bx
  go_wp2_with fail
  rw [aggG_bool]
  exact bodyPost_ret (v := .agg #[.int .i64 3, .int .i64 (b2i (!r)), .string ⟨#[]⟩]) (by simp [results, Tryz.results41, go_sem, d0, d1, d2]) rfl ⟨rfl, ((hB2.setCell (Nat.le_succ _) _).setCell (Nat.le_succ _) _).setCell (Nat.le_succ _) _⟩
end Go.Proofs.YtfmbbfidjcgeiaaGreat

namespace Go.Proofs.YtfmbbfidjcgeiaaGreat
open Go.RowKit Go.Lib Go.Shelf

set_option maxHeartbeats 4000000 in
set_option maxRecDepth 100000 in
theorem apply_8 (b o n1 c1 : Nat) (vr : Value) (xa xb col : Int) (c : GVal) (k1 m1 k2 m2 : Int) (s1 s2 : ByteArray) (w : World) (hn : 1 < n1) (h63 : n1 ≤ 9223372036854775807)
    (p0 : w.cell? ⟨b, o, none⟩ = some (.int .i64 k1)) (p1 : w.cell? ⟨b, o + 1, none⟩ = some (.int .i64 m1)) (p2 : w.cell? ⟨b, o + 2, none⟩ = some (.string s1))
    (q0 : w.cell? ⟨b, o + 3, none⟩ = some (.int .i64 k2)) (q1 : w.cell? ⟨b, o + 3 + 1, none⟩ = some (.int .i64 m2)) (q2 : w.cell? ⟨b, o + 3 + 2, none⟩ = some (.string s2)) :
    Calls Tryz.prog 41 #[aggX ⟨8, xa, xb, col, c⟩, .slice (some ⟨b, o, none⟩) n1 c1, vr] w fun e w' => e = .returned (aggG (gbool (isTrueG ⟨k1, m1, s1⟩ && isTrueG ⟨k2, m2, s2⟩))) ∧ Below w.heap.size w w' := by
  have lb : b < w.heap.size := World.block_lt_of_cell? w _ p0
  have lb1 : b < w.heap.size + 1 := by omega
  have lb2 : b < w.heap.size + 1 + 1 := by omega
  have hn0 : 0 < n1 := by omega
  obtain ⟨ck, cn, cs⟩ := c
  obtain ⟨r, hr⟩ : ∃ r, r = isTrueG ⟨k1, m1, s1⟩ := ⟨_, rfl⟩
  obtain ⟨t, ht⟩ : ∃ t, t = isTrueG ⟨k2, m2, s2⟩ := ⟨_, rfl⟩
  rw [← hr, ← ht]
  have HR := Lib.hid hr
  have HT := Lib.hid ht
  clear hr ht
  unfold aggX
  dsimp only
  go_enter Tryz.func41, Tryz.ntmps41
  go_wp2_with fail
  refine (isTrue_ag k1 m1 s1 _).mono ?_
  rintro e w1 ⟨rfl, hb1⟩
  rw [← HR.out]
  have hB1 : Below w.heap.size w w1 := below_keep (below_alloc_two w _ _) hb1
  have bx := box_kept (heap2_1 w _ _) hb1
  have hz : w.heap.size + 1 < w1.heap.size := by have := hb1.size; simp at this; omega
  replace q0 := cell_keep hB1 q0
  replace q1 := cell_keep hB1 q1
  replace q2 := cell_keep hB1 q2
  clear hb1
  cases r
  · go_wp2_with fail
    refine (boolean_ag false _).mono ?_
    rintro e w3 ⟨rfl, hb3⟩
    obtain ⟨⟨d0, d1, d2⟩, f0, f1, f2⟩ := box_three (box_kept bx hb3)
    have hB3 := below_keep hB1 hb3
    have hz3 : w.heap.size + 1 < w3.heap.size := by have := hb3.size; omega
    clear hb3 hB1 bx
    go_wp2_with fail
    exact bodyPost_ret (v := .agg #[.int .i64 3, .int .i64 (b2i false), .string ⟨#[]⟩]) (by simp [results, Tryz.results41, go_sem, d0, d1, d2]) rfl ⟨by simp only [Bool.false_and]; rfl, ((hB3.setCell (Nat.le_succ _) _).setCell (Nat.le_succ _) _).setCell (Nat.le_succ _) _⟩
  · go_wp2_with fail
    refine (isTrue_ag k2 m2 s2 _).mono ?_
    rintro e w2 ⟨rfl, hb2⟩
    rw [← HT.out]
    replace bx := box_kept bx hb2
    replace hB1 := below_keep hB1 hb2
    replace hz : w.heap.size + 1 < w2.heap.size := by have := hb2.size; omega
    clear hb2
    go_wp2_with fail
    refine (boolean_ag t _).mono ?_
    rintro e w3 ⟨rfl, hb3⟩
    obtain ⟨⟨d0, d1, d2⟩, f0, f1, f2⟩ := box_three (box_kept bx hb3)
    have hB3 := below_keep hB1 hb3
    have hz3 : w.heap.size + 1 < w3.heap.size := by have := hb3.size; omega
    clear hb3 hB1 bx
    go_wp2_with fail
    exact bodyPost_ret (v := .agg #[.int .i64 3, .int .i64 (b2i t), .string ⟨#[]⟩]) (by simp [results, Tryz.results41, go_sem, d0, d1, d2]) rfl ⟨by simp only [Bool.true_and]; rfl, ((hB3.setCell (Nat.le_succ _) _).setCell (Nat.le_succ _) _).setCell (Nat.le_succ _) _⟩
set_option maxHeartbeats 4000000 in
set_option maxRecDepth 100000 in
theorem apply_9 (b o n1 c1 : Nat) (vr : Value) (xa xb col : Int) (c : GVal) (k1 m1 k2 m2 : Int) (s1 s2 : ByteArray) (w : World) (hn : 1 < n1) (h63 : n1 ≤ 9223372036854775807)
    (p0 : w.cell? ⟨b, o, none⟩ = some (.int .i64 k1)) (p1 : w.cell? ⟨b, o + 1, none⟩ = some (.int .i64 m1)) (p2 : w.cell? ⟨b, o + 2, none⟩ = some (.string s1))
    (q0 : w.cell? ⟨b, o + 3, none⟩ = some (.int .i64 k2)) (q1 : w.cell? ⟨b, o + 3 + 1, none⟩ = some (.int .i64 m2)) (q2 : w.cell? ⟨b, o + 3 + 2, none⟩ = some (.string s2)) :
    Calls Tryz.prog 41 #[aggX ⟨9, xa, xb, col, c⟩, .slice (some ⟨b, o, none⟩) n1 c1, vr] w fun e w' => e = .returned (aggG (gbool (isTrueG ⟨k1, m1, s1⟩ || isTrueG ⟨k2, m2, s2⟩))) ∧ Below w.heap.size w w' := by
  have lb : b < w.heap.size := World.block_lt_of_cell? w _ p0
  have lb1 : b < w.heap.size + 1 := by omega
  have lb2 : b < w.heap.size + 1 + 1 := by omega
  have hn0 : 0 < n1 := by omega
  obtain ⟨ck, cn, cs⟩ := c
  obtain ⟨r, hr⟩ : ∃ r, r = isTrueG ⟨k1, m1, s1⟩ := ⟨_, rfl⟩
  obtain ⟨t, ht⟩ : ∃ t, t = isTrueG ⟨k2, m2, s2⟩ := ⟨_, rfl⟩
  rw [← hr, ← ht]
  have HR := Lib.hid hr
  have HT := Lib.hid ht
  clear hr ht
  unfold aggX
  dsimp only
  go_enter Tryz.func41, Tryz.ntmps41
  go_wp2_with fail
  refine (isTrue_ag k1 m1 s1 _).mono ?_
  rintro e w1 ⟨rfl, hb1⟩
  rw [← HR.out]
  have hB1 : Below w.heap.size w w1 := below_keep (below_alloc_two w _ _) hb1
  have bx := box_kept (heap2_1 w _ _) hb1
  have hz : w.heap.size + 1 < w1.heap.size := by have := hb1.size; simp at this; omega
  replace q0 := cell_keep hB1 q0
  replace q1 := cell_keep hB1 q1
  replace q2 := cell_keep hB1 q2
  clear hb1
  cases r
  · go_wp2_with fail
    refine (isTrue_ag k2 m2 s2 _).mono ?_
    rintro e w2 ⟨rfl, hb2⟩
    rw [← HT.out]
    replace bx := box_kept bx hb2
    replace hB1 := below_keep hB1 hb2
    replace hz : w.heap.size + 1 < w2.heap.size := by have := hb2.size; omega
    clear hb2
    go_wp2_with fail
    refine (boolean_ag t _).mono ?_
    rintro e w3 ⟨rfl, hb3⟩
    obtain ⟨⟨d0, d1, d2⟩, f0, f1, f2⟩ := box_three (box_kept bx hb3)
    have hB3 := below_keep hB1 hb3
    have hz3 : w.heap.size + 1 < w3.heap.size := by have := hb3.size; omega
    clear hb3 hB1 bx
    go_wp2_with fail
    exact bodyPost_ret (v := .agg #[.int .i64 3, .int .i64 (b2i t), .string ⟨#[]⟩]) (by simp [results, Tryz.results41, go_sem, d0, d1, d2]) rfl ⟨by simp only [Bool.false_or]; rfl, ((hB3.setCell (Nat.le_succ _) _).setCell (Nat.le_succ _) _).setCell (Nat.le_succ _) _⟩
  · go_wp2_with fail
    refine (boolean_ag true _).mono ?_
    rintro e w3 ⟨rfl, hb3⟩
    obtain ⟨⟨d0, d1, d2⟩, f0, f1, f2⟩ := box_three (box_kept bx hb3)
    have hB3 := below_keep hB1 hb3
    have hz3 : w.heap.size + 1 < w3.heap.size := by have := hb3.size; omega
    clear hb3 hB1 bx
    go_wp2_with fail
    exact bodyPost_ret (v := .agg #[.int .i64 3, .int .i64 (b2i true), .string ⟨#[]⟩]) (by simp [results, Tryz.results41, go_sem, d0, d1, d2]) rfl ⟨by simp only [Bool.true_or]; rfl, ((hB3.setCell (Nat.le_succ _) _).setCell (Nat.le_succ _) _).setCell (Nat.le_succ _) _⟩
set_option maxHeartbeats 4000000 in
set_option maxRecDepth 100000 in
theorem apply_11 (b o n1 c1 : Nat) (vr : Value) (xa xb col : Int) (c : GVal) (k1 : Int) (w : World) (hn : 0 < n1) (_h63 : n1 ≤ 9223372036854775807)
    (p0 : w.cell? ⟨b, o, none⟩ = some (.int .i64 k1)) :
    Calls Tryz.prog 41 #[aggX ⟨11, xa, xb, col, c⟩, .slice (some ⟨b, o, none⟩) n1 c1, vr] w fun e w' => e = .returned (aggG (gbool (k1 == 0))) ∧ Below w.heap.size w w' := by
  have lb : b < w.heap.size := World.block_lt_of_cell? w _ p0
  have lb1 : b < w.heap.size + 1 := by omega
  have lb2 : b < w.heap.size + 1 + 1 := by omega
  obtain ⟨ck, cn, cs⟩ := c
  unfold aggX
  dsimp only
  go_enter Tryz.func41, Tryz.ntmps41
  go_wp2_with fail
  refine (boolean_ag (k1 == 0) _).mono ?_
  rintro e w3 ⟨rfl, hb3⟩
  have hB3 := below_keep (below_alloc_two w _ _) hb3
  obtain ⟨⟨d0, d1, d2⟩, f0, f1, f2⟩ := box_three (box_kept (heap2_1 w _ _) hb3)
  have hz3 : w.heap.size + 1 < w3.heap.size := by have := hb3.size; simp at this; omega
  clear hb3
  go_wp2_with fail
  exact bodyPost_ret (v := .agg #[.int .i64 3, .int .i64 (b2i (k1 == 0)), .string ⟨#[]⟩]) (by simp [results, Tryz.results41, go_sem, d0, d1, d2]) rfl ⟨rfl, ((hB3.setCell (Nat.le_succ _) _).setCell (Nat.le_succ _) _).setCell (Nat.le_succ _) _⟩
end Go.Proofs.YtfmbbfidjcgeiaaGreat
