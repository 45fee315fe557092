/- A part of the proofs of the laws of chapter 19: ExpG. No condition beside sizes. -/
import Derived.Test.YtminnkihcohflaaMgB
namespace Go.Proofs.Ytminnkihcohflaa
open Go.RowKit Go.Lib Go.Shelf

def b2i (b : Bool) : Int := if b = true then 1 else 0
theorem rboolean_ag (b : Bool) (w : World) : Calls Try.prog 176 #[.bool b] w fun e w' => e = .returned (.agg #[.int .i64 3, .int .i64 (b2i b), .string ⟨#[]⟩]) ∧ Below w.heap.size w w' := rboolean_any b w
theorem rtrue_kns (k n : Int) (s : ByteArray) (w : World) : Calls Try.prog 117 #[.agg #[.int .i64 k, .int .i64 n, .string s]] w fun e w' => e = .returned (.bool (k == 3 && n == 1)) ∧ Below w.heap.size w w' := rtrue_any ⟨k, n, s⟩ w
/-- What an operator gives. -/
def xapp (op col : Int) (c : GVal) (row : List GVal) (a b : GVal) : GVal :=
  if op = 1 then c
  else if op = 2 then (if 0 ≤ col ∧ col < row.length then row.getD col.toNat gnull else gnull)
  else if op = 6 then gbool (a.kind != 0 && b.kind != 0 && cmpG a b == 0)
  else if op = 7 then gbool (a.kind != 0 && a.kind == b.kind && decide (cmpG a b < 0))
  else if op = 8 then gbool (isTrueG a && isTrueG b)
  else if op = 9 then gbool (isTrueG a || isTrueG b)
  else if op = 10 then gbool (!isTrueG a)
  else if op = 11 then gbool (a.kind == 0)
  else arithG op a b
def xev (x : GExp) (k : Nat) (row done : List GVal) : GVal :=
  if arity x.op < 0 ∨ legalX x k = false then gnull
  else xapp x.op x.col x.c row (done.getD x.a.toNat gnull) (done.getD x.b.toNat gnull)
theorem sz4 {n : Nat} {W W' : World} (h : n + 1 + 1 + 1 < W.heap.size) (hb : Below W.heap.size W W') : n < W'.heap.size ∧ n + 1 < W'.heap.size ∧ n + 1 + 1 < W'.heap.size ∧ n + 1 + 1 + 1 < W'.heap.size := by
  have := hb.size
  omega

theorem bel4 (w : World) (c1 c2 c3 c4 : Obj) : Below w.heap.size w ((((w.alloc c1).alloc c2).alloc c3).alloc c4) := below_alloc_keep (below_alloc_keep (below_alloc_two w c1 c2))
theorem heap4_0 (w : World) (c1 c2 c3 c4 : Obj) : ((((w.alloc c1).alloc c2).alloc c3).alloc c4).heap[w.heap.size]? = some c1 :=
  (Below.heap_alloc _ _ _ (by simp; omega)).trans ((Below.heap_alloc _ _ _ (by simp; omega)).trans (heap_alloc_old' w c1 c2))
theorem bel_end {w W wb : World} (h : Below w.heap.size w W) (hb : Below W.heap.size W wb) (x y z : Value) : Below w.heap.size w (((wb.setCell ⟨w.heap.size, 0, none⟩ x).setCell ⟨w.heap.size, 1, none⟩ y).setCell ⟨w.heap.size, 2, none⟩ z) :=
  (((below_keep h hb).setCell (Nat.le_refl _) _).setCell (Nat.le_refl _) _).setCell (Nat.le_refl _) _
/-! -/

/-! -/

/-! -/

set_option maxHeartbeats 4000000 in
set_option maxRecDepth 100000 in
theorem reval_6 (b o n c k : Nat) (ck cn : Int) (cs : ByteArray) (w : World) (hkn : k < n) (_hn63 : n ≤ 9223372036854775807) (b3 o3 n3 c3 A B : Nat) (vr : Value) (col ka na kb nb : Int) (sa sb : ByteArray)
    (c0 : w.cell? ⟨b, o + k * 7, none⟩ = some (.int .i64 6)) (c1 : w.cell? ⟨b, o + k * 7 + 1, none⟩ = some (.int .i64 (A : Int))) (c2 : w.cell? ⟨b, o + k * 7 + 2, none⟩ = some (.int .i64 (B : Int))) (c3' : w.cell? ⟨b, o + k * 7 + 3, none⟩ = some (.int .i64 col))
    (c4 : w.cell? ⟨b, o + k * 7 + 4, none⟩ = some (.int .i64 ck)) (c5 : w.cell? ⟨b, o + k * 7 + 5, none⟩ = some (.int .i64 cn)) (c6 : w.cell? ⟨b, o + k * 7 + 6, none⟩ = some (.string cs))
    (a0 : w.cell? ⟨b3, o3 + A * 3, none⟩ = some (.int .i64 ka)) (a1 : w.cell? ⟨b3, o3 + A * 3 + 1, none⟩ = some (.int .i64 na)) (a2 : w.cell? ⟨b3, o3 + A * 3 + 2, none⟩ = some (.string sa)) (hA : A < n3) (_hn3 : n3 ≤ 9223372036854775807)
    (b0 : w.cell? ⟨b3, o3 + B * 3, none⟩ = some (.int .i64 kb)) (b1 : w.cell? ⟨b3, o3 + B * 3 + 1, none⟩ = some (.int .i64 nb)) (b2 : w.cell? ⟨b3, o3 + B * 3 + 2, none⟩ = some (.string sb)) (hB : B < n3)
    (HAR : ∀ W, Hid (Calls Try.prog 174 #[.int .i64 6] W fun e w' => e = .returned (.int .i64 2) ∧ W = w'))
    (HLG : ∀ W, Below w.heap.size w W → Hid (Calls Try.prog 175 #[.slice (some ⟨b, o, none⟩) n c, .int .i64 (k : Int)] W fun e w' => e = .returned (.bool true) ∧ W = w')) :
    Calls Try.prog 147 #[.slice (some ⟨b, o, none⟩) n c, .int .i64 (k : Int), vr, .slice (some ⟨b3, o3, none⟩) n3 c3] w fun e w' => e = .returned (aggG (gbool (ka != 0 && kb != 0 && cmpG ⟨ka, na, sa⟩ ⟨kb, nb, sb⟩ == 0))) ∧ Below w.heap.size w w' := by
  have lb : b < w.heap.size := World.block_lt_of_cell? w _ c0
  have lb3 : b3 < w.heap.size := World.block_lt_of_cell? w _ a0
  have lb3a : b3 < w.heap.size + 1 := by omega
  have lb3b : b3 < w.heap.size + 1 + 1 := by omega
  have lb3c : b3 < w.heap.size + 1 + 1 + 1 := by omega
  have HCM := fun W => Lib.hid (cmpG_any ⟨ka, na, sa⟩ ⟨kb, nb, sb⟩ W)
  obtain ⟨r, hr⟩ : ∃ r, r = cmpG ⟨ka, na, sa⟩ ⟨kb, nb, sb⟩ := ⟨_, rfl⟩
  rw [← hr] at HCM ⊢
  dsimp only at HCM
  clear hr
  by_cases h0 : ka = 0
  · have q0 : (ka != 0) = false := by simpa using h0
    have HX : Hid ((gbool (ka != 0 && kb != 0 && r == 0)) = gbool false) := by show _ = _; rw [q0]; rfl
    clear h0
    go_enter Try.func147, Try.ntmps147
    go_wp2_with (first
      | (go_at_call 174; refine (HAR _).out.mono ?_; rintro e w' ⟨rfl, rfl⟩)
      | (go_at_call 175; refine (HLG _ (below_alloc_two w _ _)).out.mono ?_; rintro e w' ⟨rfl, rfl⟩)
      | (go_at_call 176; refine (rboolean_ag _ _).mono ?_; rintro e wb ⟨rfl, hbb⟩; obtain ⟨hcb, hfb⟩ := bcell hbb; obtain ⟨hzb0, hzb1, hzb2, hzb3⟩ := sz4 (n := w.heap.size) (by first | assumption | (simp; done)) hbb))
    obtain ⟨⟨d0, d1, d2⟩, _⟩ := box_three (box_kept (heap4_0 w _ _ _ _) hbb)
    refine bodyPost_ret (v := .agg #[.int .i64 3, .int .i64 0, .string ⟨#[]⟩]) ?_ rfl ⟨?_, ?_⟩
    · simp [results, Try.results147, go_sem, b2i, d0, d1, d2]
    · first | rfl | (rw [HX.out]; rfl)
    · exact bel_end (bel4 w _ _ _ _) hbb _ _ _
  · have q0 : (ka != 0) = true := by simpa using h0
    by_cases h1 : kb = 0
    · have q1 : (kb != 0) = false := by simpa using h1
      have HX : Hid ((gbool (ka != 0 && kb != 0 && r == 0)) = gbool false) := by show _ = _; rw [q0, q1]; rfl
      clear h0 h1
      go_enter Try.func147, Try.ntmps147
      go_wp2_with (first
        | (go_at_call 174; refine (HAR _).out.mono ?_; rintro e w' ⟨rfl, rfl⟩)
        | (go_at_call 175; refine (HLG _ (below_alloc_two w _ _)).out.mono ?_; rintro e w' ⟨rfl, rfl⟩)
        | (go_at_call 176; refine (rboolean_ag _ _).mono ?_; rintro e wb ⟨rfl, hbb⟩; obtain ⟨hcb, hfb⟩ := bcell hbb; obtain ⟨hzb0, hzb1, hzb2, hzb3⟩ := sz4 (n := w.heap.size) (by first | assumption | (simp; done)) hbb))
      obtain ⟨⟨d0, d1, d2⟩, _⟩ := box_three (box_kept (heap4_0 w _ _ _ _) hbb)
      refine bodyPost_ret (v := .agg #[.int .i64 3, .int .i64 0, .string ⟨#[]⟩]) ?_ rfl ⟨?_, ?_⟩
      · simp [results, Try.results147, go_sem, b2i, d0, d1, d2]
      · first | rfl | (rw [HX.out]; rfl)
      · exact bel_end (bel4 w _ _ _ _) hbb _ _ _
    · have q1 : (kb != 0) = true := by simpa using h1
      by_cases h2 : r = 0
      · have q2 : (r == 0) = true := by simpa using h2
        have HX : Hid ((gbool (ka != 0 && kb != 0 && r == 0)) = gbool true) := by show _ = _; rw [q0, q1, q2]; rfl
        clear h0 h1 h2
        go_enter Try.func147, Try.ntmps147
        go_wp2_with (first
          | (go_at_call 174; refine (HAR _).out.mono ?_; rintro e w' ⟨rfl, rfl⟩)
          | (go_at_call 175; refine (HLG _ (below_alloc_two w _ _)).out.mono ?_; rintro e w' ⟨rfl, rfl⟩)
          | (go_at_call 99; refine (HCM _).out.mono ?_; rintro e wc ⟨rfl, hbc⟩; obtain ⟨hcc, hfc⟩ := bcell hbc; obtain ⟨hzc0, hzc1, hzc2, hzc3⟩ := sz4 (n := w.heap.size) (by first | assumption | (simp; done)) hbc)
          | (go_at_call 176; refine (rboolean_ag _ _).mono ?_; rintro e wb ⟨rfl, hbb⟩; obtain ⟨hcb, hfb⟩ := bcell hbb; obtain ⟨hzb0, hzb1, hzb2, hzb3⟩ := sz4 (n := w.heap.size) (by first | assumption | (simp; done)) hbb))
        obtain ⟨⟨d0, d1, d2⟩, _⟩ := box_three (box_kept (box_kept (heap4_0 w _ _ _ _) hbc) hbb)
        refine bodyPost_ret (v := .agg #[.int .i64 3, .int .i64 1, .string ⟨#[]⟩]) ?_ rfl ⟨?_, ?_⟩
        · simp [results, Try.results147, go_sem, b2i, d0, d1, d2]
        · first | rfl | (rw [HX.out]; rfl)
        · exact bel_end (below_keep (bel4 w _ _ _ _) hbc) hbb _ _ _
      · have q2 : (r == 0) = false := by simpa using h2
        have HX : Hid ((gbool (ka != 0 && kb != 0 && r == 0)) = gbool false) := by show _ = _; rw [q0, q1, q2]; rfl
        clear h0 h1 h2
        go_enter Try.func147, Try.ntmps147
        go_wp2_with (first
          | (go_at_call 174; refine (HAR _).out.mono ?_; rintro e w' ⟨rfl, rfl⟩)
          | (go_at_call 175; refine (HLG _ (below_alloc_two w _ _)).out.mono ?_; rintro e w' ⟨rfl, rfl⟩)
          | (go_at_call 99; refine (HCM _).out.mono ?_; rintro e wc ⟨rfl, hbc⟩; obtain ⟨hcc, hfc⟩ := bcell hbc; obtain ⟨hzc0, hzc1, hzc2, hzc3⟩ := sz4 (n := w.heap.size) (by first | assumption | (simp; done)) hbc)
          | (go_at_call 176; refine (rboolean_ag _ _).mono ?_; rintro e wb ⟨rfl, hbb⟩; obtain ⟨hcb, hfb⟩ := bcell hbb; obtain ⟨hzb0, hzb1, hzb2, hzb3⟩ := sz4 (n := w.heap.size) (by first | assumption | (simp; done)) hbb))
        obtain ⟨⟨d0, d1, d2⟩, _⟩ := box_three (box_kept (box_kept (heap4_0 w _ _ _ _) hbc) hbb)
        refine bodyPost_ret (v := .agg #[.int .i64 3, .int .i64 0, .string ⟨#[]⟩]) ?_ rfl ⟨?_, ?_⟩
        · simp [results, Try.results147, go_sem, b2i, d0, d1, d2]
        · first | rfl | (rw [HX.out]; rfl)
        · exact bel_end (below_keep (bel4 w _ _ _ _) hbc) hbb _ _ _

set_option maxHeartbeats 4000000 in
set_option maxRecDepth 100000 in
theorem reval_7 (b o n c k : Nat) (ck cn : Int) (cs : ByteArray) (w : World) (hkn : k < n) (_hn63 : n ≤ 9223372036854775807) (b3 o3 n3 c3 A B : Nat) (vr : Value) (col ka na kb nb : Int) (sa sb : ByteArray)
    (c0 : w.cell? ⟨b, o + k * 7, none⟩ = some (.int .i64 7)) (c1 : w.cell? ⟨b, o + k * 7 + 1, none⟩ = some (.int .i64 (A : Int))) (c2 : w.cell? ⟨b, o + k * 7 + 2, none⟩ = some (.int .i64 (B : Int))) (c3' : w.cell? ⟨b, o + k * 7 + 3, none⟩ = some (.int .i64 col))
    (c4 : w.cell? ⟨b, o + k * 7 + 4, none⟩ = some (.int .i64 ck)) (c5 : w.cell? ⟨b, o + k * 7 + 5, none⟩ = some (.int .i64 cn)) (c6 : w.cell? ⟨b, o + k * 7 + 6, none⟩ = some (.string cs))
    (a0 : w.cell? ⟨b3, o3 + A * 3, none⟩ = some (.int .i64 ka)) (a1 : w.cell? ⟨b3, o3 + A * 3 + 1, none⟩ = some (.int .i64 na)) (a2 : w.cell? ⟨b3, o3 + A * 3 + 2, none⟩ = some (.string sa)) (hA : A < n3) (_hn3 : n3 ≤ 9223372036854775807)
    (b0 : w.cell? ⟨b3, o3 + B * 3, none⟩ = some (.int .i64 kb)) (b1 : w.cell? ⟨b3, o3 + B * 3 + 1, none⟩ = some (.int .i64 nb)) (b2 : w.cell? ⟨b3, o3 + B * 3 + 2, none⟩ = some (.string sb)) (hB : B < n3)
    (HAR : ∀ W, Hid (Calls Try.prog 174 #[.int .i64 7] W fun e w' => e = .returned (.int .i64 2) ∧ W = w'))
    (HLG : ∀ W, Below w.heap.size w W → Hid (Calls Try.prog 175 #[.slice (some ⟨b, o, none⟩) n c, .int .i64 (k : Int)] W fun e w' => e = .returned (.bool true) ∧ W = w')) :
    Calls Try.prog 147 #[.slice (some ⟨b, o, none⟩) n c, .int .i64 (k : Int), vr, .slice (some ⟨b3, o3, none⟩) n3 c3] w fun e w' => e = .returned (aggG (gbool (ka != 0 && ka == kb && decide (cmpG ⟨ka, na, sa⟩ ⟨kb, nb, sb⟩ < 0)))) ∧ Below w.heap.size w w' := by
  have lb : b < w.heap.size := World.block_lt_of_cell? w _ c0
  have lb3 : b3 < w.heap.size := World.block_lt_of_cell? w _ a0
  have lb3a : b3 < w.heap.size + 1 := by omega
  have lb3b : b3 < w.heap.size + 1 + 1 := by omega
  have lb3c : b3 < w.heap.size + 1 + 1 + 1 := by omega
  have HCM := fun W => Lib.hid (cmpG_any ⟨ka, na, sa⟩ ⟨kb, nb, sb⟩ W)
  obtain ⟨r, hr⟩ : ∃ r, r = cmpG ⟨ka, na, sa⟩ ⟨kb, nb, sb⟩ := ⟨_, rfl⟩
  rw [← hr] at HCM ⊢
  dsimp only at HCM
  clear hr
  by_cases h0 : ka = 0
  · have q0 : (ka != 0) = false := by simpa using h0
    have HX : Hid ((gbool (ka != 0 && ka == kb && decide (r < 0))) = gbool false) := by show _ = _; rw [q0]; rfl
    clear h0
    go_enter Try.func147, Try.ntmps147
    go_wp2_with (first
      | (go_at_call 174; refine (HAR _).out.mono ?_; rintro e w' ⟨rfl, rfl⟩)
      | (go_at_call 175; refine (HLG _ (below_alloc_two w _ _)).out.mono ?_; rintro e w' ⟨rfl, rfl⟩)
      | (go_at_call 176; refine (rboolean_ag _ _).mono ?_; rintro e wb ⟨rfl, hbb⟩; obtain ⟨hcb, hfb⟩ := bcell hbb; obtain ⟨hzb0, hzb1, hzb2, hzb3⟩ := sz4 (n := w.heap.size) (by first | assumption | (simp; done)) hbb))
    obtain ⟨⟨d0, d1, d2⟩, _⟩ := box_three (box_kept (heap4_0 w _ _ _ _) hbb)
    refine bodyPost_ret (v := .agg #[.int .i64 3, .int .i64 0, .string ⟨#[]⟩]) ?_ rfl ⟨?_, ?_⟩
    · simp [results, Try.results147, go_sem, b2i, d0, d1, d2]
    · first | rfl | (rw [HX.out]; rfl)
    · exact bel_end (bel4 w _ _ _ _) hbb _ _ _
  · have q0 : (ka != 0) = true := by simpa using h0
    by_cases h1 : ka = kb
    · have q1 : (ka == kb) = true := by simpa using h1
      clear h1
      by_cases h2 : r < 0
      · have q2 : decide (r < 0) = true := by simpa using h2
        have HX : Hid ((gbool (ka != 0 && ka == kb && decide (r < 0))) = gbool true) := by show _ = _; rw [q0, q1, q2]; rfl
        clear h0
        go_enter Try.func147, Try.ntmps147
        go_wp2_with (first
          | (go_at_call 174; refine (HAR _).out.mono ?_; rintro e w' ⟨rfl, rfl⟩)
          | (go_at_call 175; refine (HLG _ (below_alloc_two w _ _)).out.mono ?_; rintro e w' ⟨rfl, rfl⟩)
          | (go_at_call 99; refine (HCM _).out.mono ?_; rintro e wc ⟨rfl, hbc⟩; obtain ⟨hcc, hfc⟩ := bcell hbc; obtain ⟨hzc0, hzc1, hzc2, hzc3⟩ := sz4 (n := w.heap.size) (by first | assumption | (simp; done)) hbc)
          | (go_at_call 176; refine (rboolean_ag _ _).mono ?_; rintro e wb ⟨rfl, hbb⟩; obtain ⟨hcb, hfb⟩ := bcell hbb; obtain ⟨hzb0, hzb1, hzb2, hzb3⟩ := sz4 (n := w.heap.size) (by first | assumption | (simp; done)) hbb))
        obtain ⟨⟨d0, d1, d2⟩, _⟩ := box_three (box_kept (box_kept (heap4_0 w _ _ _ _) hbc) hbb)
        refine bodyPost_ret (v := .agg #[.int .i64 3, .int .i64 1, .string ⟨#[]⟩]) ?_ rfl ⟨?_, ?_⟩
        · simp [results, Try.results147, go_sem, b2i, d0, d1, d2]
        · first | rfl | (rw [HX.out]; rfl)
        · exact bel_end (below_keep (bel4 w _ _ _ _) hbc) hbb _ _ _
      · have q2 : decide (r < 0) = false := by simpa using h2
        have HX : Hid ((gbool (ka != 0 && ka == kb && decide (r < 0))) = gbool false) := by show _ = _; rw [q0, q1, q2]; rfl
        clear h0
        go_enter Try.func147, Try.ntmps147
        go_wp2_with (first
          | (go_at_call 174; refine (HAR _).out.mono ?_; rintro e w' ⟨rfl, rfl⟩)
          | (go_at_call 175; refine (HLG _ (below_alloc_two w _ _)).out.mono ?_; rintro e w' ⟨rfl, rfl⟩)
          | (go_at_call 99; refine (HCM _).out.mono ?_; rintro e wc ⟨rfl, hbc⟩; obtain ⟨hcc, hfc⟩ := bcell hbc; obtain ⟨hzc0, hzc1, hzc2, hzc3⟩ := sz4 (n := w.heap.size) (by first | assumption | (simp; done)) hbc)
          | (go_at_call 176; refine (rboolean_ag _ _).mono ?_; rintro e wb ⟨rfl, hbb⟩; obtain ⟨hcb, hfb⟩ := bcell hbb; obtain ⟨hzb0, hzb1, hzb2, hzb3⟩ := sz4 (n := w.heap.size) (by first | assumption | (simp; done)) hbb))
        obtain ⟨⟨d0, d1, d2⟩, _⟩ := box_three (box_kept (box_kept (heap4_0 w _ _ _ _) hbc) hbb)
        refine bodyPost_ret (v := .agg #[.int .i64 3, .int .i64 0, .string ⟨#[]⟩]) ?_ rfl ⟨?_, ?_⟩
        · simp [results, Try.results147, go_sem, b2i, d0, d1, d2]
        · first | rfl | (rw [HX.out]; rfl)
        · exact bel_end (below_keep (bel4 w _ _ _ _) hbc) hbb _ _ _
    · have q1 : (ka == kb) = false := by simpa using h1
      have HX : Hid ((gbool (ka != 0 && ka == kb && decide (r < 0))) = gbool false) := by show _ = _; rw [q0, q1]; rfl
      clear h0 h1
      go_enter Try.func147, Try.ntmps147
      go_wp2_with (first
        | (go_at_call 174; refine (HAR _).out.mono ?_; rintro e w' ⟨rfl, rfl⟩)
        | (go_at_call 175; refine (HLG _ (below_alloc_two w _ _)).out.mono ?_; rintro e w' ⟨rfl, rfl⟩)
        | (go_at_call 176; refine (rboolean_ag _ _).mono ?_; rintro e wb ⟨rfl, hbb⟩; obtain ⟨hcb, hfb⟩ := bcell hbb; obtain ⟨hzb0, hzb1, hzb2, hzb3⟩ := sz4 (n := w.heap.size) (by first | assumption | (simp; done)) hbb))
      obtain ⟨⟨d0, d1, d2⟩, _⟩ := box_three (box_kept (heap4_0 w _ _ _ _) hbb)
      refine bodyPost_ret (v := .agg #[.int .i64 3, .int .i64 0, .string ⟨#[]⟩]) ?_ rfl ⟨?_, ?_⟩
      · simp [results, Try.results147, go_sem, b2i, d0, d1, d2]
      · first | rfl | (rw [HX.out]; rfl)
      · exact bel_end (bel4 w _ _ _ _) hbb _ _ _

set_option maxHeartbeats 4000000 in
set_option maxRecDepth 100000 in
theorem reval_8 (b o n c k : Nat) (ck cn : Int) (cs : ByteArray) (w : World) (hkn : k < n) (_hn63 : n ≤ 9223372036854775807) (b3 o3 n3 c3 A B : Nat) (vr : Value) (col ka na kb nb : Int) (sa sb : ByteArray)
    (c0 : w.cell? ⟨b, o + k * 7, none⟩ = some (.int .i64 8)) (c1 : w.cell? ⟨b, o + k * 7 + 1, none⟩ = some (.int .i64 (A : Int))) (c2 : w.cell? ⟨b, o + k * 7 + 2, none⟩ = some (.int .i64 (B : Int))) (c3' : w.cell? ⟨b, o + k * 7 + 3, none⟩ = some (.int .i64 col))
    (c4 : w.cell? ⟨b, o + k * 7 + 4, none⟩ = some (.int .i64 ck)) (c5 : w.cell? ⟨b, o + k * 7 + 5, none⟩ = some (.int .i64 cn)) (c6 : w.cell? ⟨b, o + k * 7 + 6, none⟩ = some (.string cs))
    (a0 : w.cell? ⟨b3, o3 + A * 3, none⟩ = some (.int .i64 ka)) (a1 : w.cell? ⟨b3, o3 + A * 3 + 1, none⟩ = some (.int .i64 na)) (a2 : w.cell? ⟨b3, o3 + A * 3 + 2, none⟩ = some (.string sa)) (hA : A < n3) (_hn3 : n3 ≤ 9223372036854775807)
    (b0 : w.cell? ⟨b3, o3 + B * 3, none⟩ = some (.int .i64 kb)) (b1 : w.cell? ⟨b3, o3 + B * 3 + 1, none⟩ = some (.int .i64 nb)) (b2 : w.cell? ⟨b3, o3 + B * 3 + 2, none⟩ = some (.string sb)) (hB : B < n3)
    (HAR : ∀ W, Hid (Calls Try.prog 174 #[.int .i64 8] W fun e w' => e = .returned (.int .i64 2) ∧ W = w'))
    (HLG : ∀ W, Below w.heap.size w W → Hid (Calls Try.prog 175 #[.slice (some ⟨b, o, none⟩) n c, .int .i64 (k : Int)] W fun e w' => e = .returned (.bool true) ∧ W = w')) :
    Calls Try.prog 147 #[.slice (some ⟨b, o, none⟩) n c, .int .i64 (k : Int), vr, .slice (some ⟨b3, o3, none⟩) n3 c3] w fun e w' => e = .returned (aggG (gbool (isTrueG ⟨ka, na, sa⟩ && isTrueG ⟨kb, nb, sb⟩))) ∧ Below w.heap.size w w' := by
  have lb : b < w.heap.size := World.block_lt_of_cell? w _ c0
  have lb3 : b3 < w.heap.size := World.block_lt_of_cell? w _ a0
  have lb3a : b3 < w.heap.size + 1 := by omega
  have lb3b : b3 < w.heap.size + 1 + 1 := by omega
  have lb3c : b3 < w.heap.size + 1 + 1 + 1 := by omega
  have HTA := fun W => Lib.hid (rtrue_kns ka na sa W)
  obtain ⟨ta, hta⟩ : ∃ t, t = (ka == 3 && na == 1) := ⟨_, rfl⟩
  rw [← hta] at HTA
  have HTB := fun W => Lib.hid (rtrue_kns kb nb sb W)
  obtain ⟨tb, htb⟩ : ∃ t, t = (kb == 3 && nb == 1) := ⟨_, rfl⟩
  rw [← htb] at HTB
  rw [show isTrueG ⟨ka, na, sa⟩ = ta from hta.symm, show isTrueG ⟨kb, nb, sb⟩ = tb from htb.symm]
  clear hta htb
  cases ta
  · have HX : Hid (gbool (false && tb) = gbool false) := Lib.hid rfl
    go_enter Try.func147, Try.ntmps147
    go_wp2_with (first
      | (go_at_call 174; refine (HAR _).out.mono ?_; rintro e w' ⟨rfl, rfl⟩)
      | (go_at_call 175; refine (HLG _ (below_alloc_two w _ _)).out.mono ?_; rintro e w' ⟨rfl, rfl⟩)
      | (go_at_call 117; ((with_reducible refine (HTA _).out.mono ?_); rintro e wt ⟨rfl, hbt⟩; obtain ⟨hct, hft⟩ := bcell hbt; obtain ⟨hzt0, hzt1, hzt2, hzt3⟩ := sz4 (n := w.heap.size) (by first | assumption | (simp; done)) hbt))
      | (go_at_call 176; refine (rboolean_ag _ _).mono ?_; rintro e wb ⟨rfl, hbb⟩; obtain ⟨hcb, hfb⟩ := bcell hbb; obtain ⟨hzb0, hzb1, hzb2, hzb3⟩ := sz4 (n := w.heap.size) (by first | assumption | (simp; done)) hbb))
    obtain ⟨⟨d0, d1, d2⟩, _⟩ := box_three (box_kept (box_kept (heap4_0 w _ _ _ _) hbt) hbb)
    refine bodyPost_ret (v := .agg #[.int .i64 3, .int .i64 0, .string ⟨#[]⟩]) ?_ rfl ⟨?_, ?_⟩
    · simp [results, Try.results147, go_sem, b2i, d0, d1, d2]
    · first | rfl | (rw [HX.out]; rfl)
    · exact bel_end (below_keep (bel4 w _ _ _ _) hbt) hbb _ _ _
  · cases tb
    · have HX : Hid (gbool (true && false) = gbool false) := Lib.hid rfl
      go_enter Try.func147, Try.ntmps147
      go_wp2_with (first
        | (go_at_call 174; refine (HAR _).out.mono ?_; rintro e w' ⟨rfl, rfl⟩)
        | (go_at_call 175; refine (HLG _ (below_alloc_two w _ _)).out.mono ?_; rintro e w' ⟨rfl, rfl⟩)
        | (go_at_call 117; ((with_reducible refine (HTA _).out.mono ?_); rintro e wt ⟨rfl, hbt⟩; obtain ⟨hct, hft⟩ := bcell hbt; obtain ⟨hzt0, hzt1, hzt2, hzt3⟩ := sz4 (n := w.heap.size) (by first | assumption | (simp; done)) hbt))
        | (go_at_call 117; ((with_reducible refine (HTB _).out.mono ?_); rintro e wu ⟨rfl, hbu⟩; obtain ⟨hcu, hfu⟩ := bcell hbu; obtain ⟨hzu0, hzu1, hzu2, hzu3⟩ := sz4 (n := w.heap.size) (by first | assumption | (simp; done)) hbu))
        | (go_at_call 176; refine (rboolean_ag _ _).mono ?_; rintro e wb ⟨rfl, hbb⟩; obtain ⟨hcb, hfb⟩ := bcell hbb; obtain ⟨hzb0, hzb1, hzb2, hzb3⟩ := sz4 (n := w.heap.size) (by first | assumption | (simp; done)) hbb))
      obtain ⟨⟨d0, d1, d2⟩, _⟩ := box_three (box_kept (box_kept (box_kept (heap4_0 w _ _ _ _) hbt) hbu) hbb)
      refine bodyPost_ret (v := .agg #[.int .i64 3, .int .i64 0, .string ⟨#[]⟩]) ?_ rfl ⟨?_, ?_⟩
      · simp [results, Try.results147, go_sem, b2i, d0, d1, d2]
      · first | rfl | (rw [HX.out]; rfl)
      · exact bel_end (below_keep (below_keep (bel4 w _ _ _ _) hbt) hbu) hbb _ _ _
    · have HX : Hid (gbool (true && true) = gbool true) := Lib.hid rfl
      go_enter Try.func147, Try.ntmps147
      go_wp2_with (first
        | (go_at_call 174; refine (HAR _).out.mono ?_; rintro e w' ⟨rfl, rfl⟩)
        | (go_at_call 175; refine (HLG _ (below_alloc_two w _ _)).out.mono ?_; rintro e w' ⟨rfl, rfl⟩)
        | (go_at_call 117; ((with_reducible refine (HTA _).out.mono ?_); rintro e wt ⟨rfl, hbt⟩; obtain ⟨hct, hft⟩ := bcell hbt; obtain ⟨hzt0, hzt1, hzt2, hzt3⟩ := sz4 (n := w.heap.size) (by first | assumption | (simp; done)) hbt))
        | (go_at_call 117; ((with_reducible refine (HTB _).out.mono ?_); rintro e wu ⟨rfl, hbu⟩; obtain ⟨hcu, hfu⟩ := bcell hbu; obtain ⟨hzu0, hzu1, hzu2, hzu3⟩ := sz4 (n := w.heap.size) (by first | assumption | (simp; done)) hbu))
        | (go_at_call 176; refine (rboolean_ag _ _).mono ?_; rintro e wb ⟨rfl, hbb⟩; obtain ⟨hcb, hfb⟩ := bcell hbb; obtain ⟨hzb0, hzb1, hzb2, hzb3⟩ := sz4 (n := w.heap.size) (by first | assumption | (simp; done)) hbb))
      obtain ⟨⟨d0, d1, d2⟩, _⟩ := box_three (box_kept (box_kept (box_kept (heap4_0 w _ _ _ _) hbt) hbu) hbb)
      refine bodyPost_ret (v := .agg #[.int .i64 3, .int .i64 1, .string ⟨#[]⟩]) ?_ rfl ⟨?_, ?_⟩
      · simp [results, Try.results147, go_sem, b2i, d0, d1, d2]
      · first | rfl | (rw [HX.out]; rfl)
      · exact bel_end (below_keep (below_keep (bel4 w _ _ _ _) hbt) hbu) hbb _ _ _

set_option maxHeartbeats 4000000 in
set_option maxRecDepth 100000 in
theorem reval_9 (b o n c k : Nat) (ck cn : Int) (cs : ByteArray) (w : World) (hkn : k < n) (_hn63 : n ≤ 9223372036854775807) (b3 o3 n3 c3 A B : Nat) (vr : Value) (col ka na kb nb : Int) (sa sb : ByteArray)
    (c0 : w.cell? ⟨b, o + k * 7, none⟩ = some (.int .i64 9)) (c1 : w.cell? ⟨b, o + k * 7 + 1, none⟩ = some (.int .i64 (A : Int))) (c2 : w.cell? ⟨b, o + k * 7 + 2, none⟩ = some (.int .i64 (B : Int))) (c3' : w.cell? ⟨b, o + k * 7 + 3, none⟩ = some (.int .i64 col))
    (c4 : w.cell? ⟨b, o + k * 7 + 4, none⟩ = some (.int .i64 ck)) (c5 : w.cell? ⟨b, o + k * 7 + 5, none⟩ = some (.int .i64 cn)) (c6 : w.cell? ⟨b, o + k * 7 + 6, none⟩ = some (.string cs))
    (a0 : w.cell? ⟨b3, o3 + A * 3, none⟩ = some (.int .i64 ka)) (a1 : w.cell? ⟨b3, o3 + A * 3 + 1, none⟩ = some (.int .i64 na)) (a2 : w.cell? ⟨b3, o3 + A * 3 + 2, none⟩ = some (.string sa)) (hA : A < n3) (_hn3 : n3 ≤ 9223372036854775807)
    (b0 : w.cell? ⟨b3, o3 + B * 3, none⟩ = some (.int .i64 kb)) (b1 : w.cell? ⟨b3, o3 + B * 3 + 1, none⟩ = some (.int .i64 nb)) (b2 : w.cell? ⟨b3, o3 + B * 3 + 2, none⟩ = some (.string sb)) (hB : B < n3)
    (HAR : ∀ W, Hid (Calls Try.prog 174 #[.int .i64 9] W fun e w' => e = .returned (.int .i64 2) ∧ W = w'))
    (HLG : ∀ W, Below w.heap.size w W → Hid (Calls Try.prog 175 #[.slice (some ⟨b, o, none⟩) n c, .int .i64 (k : Int)] W fun e w' => e = .returned (.bool true) ∧ W = w')) :
    Calls Try.prog 147 #[.slice (some ⟨b, o, none⟩) n c, .int .i64 (k : Int), vr, .slice (some ⟨b3, o3, none⟩) n3 c3] w fun e w' => e = .returned (aggG (gbool (isTrueG ⟨ka, na, sa⟩ || isTrueG ⟨kb, nb, sb⟩))) ∧ Below w.heap.size w w' := by
  have lb : b < w.heap.size := World.block_lt_of_cell? w _ c0
  have lb3 : b3 < w.heap.size := World.block_lt_of_cell? w _ a0
  have lb3a : b3 < w.heap.size + 1 := by omega
  have lb3b : b3 < w.heap.size + 1 + 1 := by omega
  have lb3c : b3 < w.heap.size + 1 + 1 + 1 := by omega
  have HTA := fun W => Lib.hid (rtrue_kns ka na sa W)
  obtain ⟨ta, hta⟩ : ∃ t, t = (ka == 3 && na == 1) := ⟨_, rfl⟩
  rw [← hta] at HTA
  have HTB := fun W => Lib.hid (rtrue_kns kb nb sb W)
  obtain ⟨tb, htb⟩ : ∃ t, t = (kb == 3 && nb == 1) := ⟨_, rfl⟩
  rw [← htb] at HTB
  rw [show isTrueG ⟨ka, na, sa⟩ = ta from hta.symm, show isTrueG ⟨kb, nb, sb⟩ = tb from htb.symm]
  clear hta htb
  cases ta
  · 
    cases tb
    · have HX : Hid (gbool (false || false) = gbool false) := Lib.hid rfl
      go_enter Try.func147, Try.ntmps147
      go_wp2_with (first
        | (go_at_call 174; refine (HAR _).out.mono ?_; rintro e w' ⟨rfl, rfl⟩)
        | (go_at_call 175; refine (HLG _ (below_alloc_two w _ _)).out.mono ?_; rintro e w' ⟨rfl, rfl⟩)
        | (go_at_call 117; ((with_reducible refine (HTA _).out.mono ?_); rintro e wt ⟨rfl, hbt⟩; obtain ⟨hct, hft⟩ := bcell hbt; obtain ⟨hzt0, hzt1, hzt2, hzt3⟩ := sz4 (n := w.heap.size) (by first | assumption | (simp; done)) hbt))
        | (go_at_call 117; ((with_reducible refine (HTB _).out.mono ?_); rintro e wu ⟨rfl, hbu⟩; obtain ⟨hcu, hfu⟩ := bcell hbu; obtain ⟨hzu0, hzu1, hzu2, hzu3⟩ := sz4 (n := w.heap.size) (by first | assumption | (simp; done)) hbu))
        | (go_at_call 176; refine (rboolean_ag _ _).mono ?_; rintro e wb ⟨rfl, hbb⟩; obtain ⟨hcb, hfb⟩ := bcell hbb; obtain ⟨hzb0, hzb1, hzb2, hzb3⟩ := sz4 (n := w.heap.size) (by first | assumption | (simp; done)) hbb))
      obtain ⟨⟨d0, d1, d2⟩, _⟩ := box_three (box_kept (box_kept (box_kept (heap4_0 w _ _ _ _) hbt) hbu) hbb)
      refine bodyPost_ret (v := .agg #[.int .i64 3, .int .i64 0, .string ⟨#[]⟩]) ?_ rfl ⟨?_, ?_⟩
      · simp [results, Try.results147, go_sem, b2i, d0, d1, d2]
      · first | rfl | (rw [HX.out]; rfl)
      · exact bel_end (below_keep (below_keep (bel4 w _ _ _ _) hbt) hbu) hbb _ _ _
    · have HX : Hid (gbool (false || true) = gbool true) := Lib.hid rfl
      go_enter Try.func147, Try.ntmps147
      go_wp2_with (first
        | (go_at_call 174; refine (HAR _).out.mono ?_; rintro e w' ⟨rfl, rfl⟩)
        | (go_at_call 175; refine (HLG _ (below_alloc_two w _ _)).out.mono ?_; rintro e w' ⟨rfl, rfl⟩)
        | (go_at_call 117; ((with_reducible refine (HTA _).out.mono ?_); rintro e wt ⟨rfl, hbt⟩; obtain ⟨hct, hft⟩ := bcell hbt; obtain ⟨hzt0, hzt1, hzt2, hzt3⟩ := sz4 (n := w.heap.size) (by first | assumption | (simp; done)) hbt))
        | (go_at_call 117; ((with_reducible refine (HTB _).out.mono ?_); rintro e wu ⟨rfl, hbu⟩; obtain ⟨hcu, hfu⟩ := bcell hbu; obtain ⟨hzu0, hzu1, hzu2, hzu3⟩ := sz4 (n := w.heap.size) (by first | assumption | (simp; done)) hbu))
        | (go_at_call 176; refine (rboolean_ag _ _).mono ?_; rintro e wb ⟨rfl, hbb⟩; obtain ⟨hcb, hfb⟩ := bcell hbb; obtain ⟨hzb0, hzb1, hzb2, hzb3⟩ := sz4 (n := w.heap.size) (by first | assumption | (simp; done)) hbb))
      obtain ⟨⟨d0, d1, d2⟩, _⟩ := box_three (box_kept (box_kept (box_kept (heap4_0 w _ _ _ _) hbt) hbu) hbb)
      refine bodyPost_ret (v := .agg #[.int .i64 3, .int .i64 1, .string ⟨#[]⟩]) ?_ rfl ⟨?_, ?_⟩
      · simp [results, Try.results147, go_sem, b2i, d0, d1, d2]
      · first | rfl | (rw [HX.out]; rfl)
      · exact bel_end (below_keep (below_keep (bel4 w _ _ _ _) hbt) hbu) hbb _ _ _
  · have HX : Hid (gbool (true || tb) = gbool true) := Lib.hid rfl
    go_enter Try.func147, Try.ntmps147
    go_wp2_with (first
      | (go_at_call 174; refine (HAR _).out.mono ?_; rintro e w' ⟨rfl, rfl⟩)
      | (go_at_call 175; refine (HLG _ (below_alloc_two w _ _)).out.mono ?_; rintro e w' ⟨rfl, rfl⟩)
      | (go_at_call 117; ((with_reducible refine (HTA _).out.mono ?_); rintro e wt ⟨rfl, hbt⟩; obtain ⟨hct, hft⟩ := bcell hbt; obtain ⟨hzt0, hzt1, hzt2, hzt3⟩ := sz4 (n := w.heap.size) (by first | assumption | (simp; done)) hbt))
      | (go_at_call 176; refine (rboolean_ag _ _).mono ?_; rintro e wb ⟨rfl, hbb⟩; obtain ⟨hcb, hfb⟩ := bcell hbb; obtain ⟨hzb0, hzb1, hzb2, hzb3⟩ := sz4 (n := w.heap.size) (by first | assumption | (simp; done)) hbb))
    obtain ⟨⟨d0, d1, d2⟩, _⟩ := box_three (box_kept (box_kept (heap4_0 w _ _ _ _) hbt) hbb)
    refine bodyPost_ret (v := .agg #[.int .i64 3, .int .i64 1, .string ⟨#[]⟩]) ?_ rfl ⟨?_, ?_⟩
    · simp [results, Try.results147, go_sem, b2i, d0, d1, d2]
    · first | rfl | (rw [HX.out]; rfl)
    · exact bel_end (below_keep (bel4 w _ _ _ _) hbt) hbb _ _ _

set_option maxHeartbeats 4000000 in
set_option maxRecDepth 100000 in
theorem reval_3 (b o n c k : Nat) (ck cn : Int) (cs : ByteArray) (w : World) (hkn : k < n) (_hn63 : n ≤ 9223372036854775807) (b3 o3 n3 c3 A B : Nat) (vr : Value) (col ka na kb nb : Int) (sa sb : ByteArray)
    (c0 : w.cell? ⟨b, o + k * 7, none⟩ = some (.int .i64 3)) (c1 : w.cell? ⟨b, o + k * 7 + 1, none⟩ = some (.int .i64 (A : Int))) (c2 : w.cell? ⟨b, o + k * 7 + 2, none⟩ = some (.int .i64 (B : Int))) (c3' : w.cell? ⟨b, o + k * 7 + 3, none⟩ = some (.int .i64 col))
    (c4 : w.cell? ⟨b, o + k * 7 + 4, none⟩ = some (.int .i64 ck)) (c5 : w.cell? ⟨b, o + k * 7 + 5, none⟩ = some (.int .i64 cn)) (c6 : w.cell? ⟨b, o + k * 7 + 6, none⟩ = some (.string cs))
    (a0 : w.cell? ⟨b3, o3 + A * 3, none⟩ = some (.int .i64 ka)) (a1 : w.cell? ⟨b3, o3 + A * 3 + 1, none⟩ = some (.int .i64 na)) (a2 : w.cell? ⟨b3, o3 + A * 3 + 2, none⟩ = some (.string sa)) (hA : A < n3) (_hn3 : n3 ≤ 9223372036854775807)
    (b0 : w.cell? ⟨b3, o3 + B * 3, none⟩ = some (.int .i64 kb)) (b1 : w.cell? ⟨b3, o3 + B * 3 + 1, none⟩ = some (.int .i64 nb)) (b2 : w.cell? ⟨b3, o3 + B * 3 + 2, none⟩ = some (.string sb)) (hB : B < n3)
    (hna : In64 na) (hnb : In64 nb)
    (HAR : ∀ W, Hid (Calls Try.prog 174 #[.int .i64 3] W fun e w' => e = .returned (.int .i64 2) ∧ W = w'))
    (HLG : ∀ W, Below w.heap.size w W → Hid (Calls Try.prog 175 #[.slice (some ⟨b, o, none⟩) n c, .int .i64 (k : Int)] W fun e w' => e = .returned (.bool true) ∧ W = w')) :
    Calls Try.prog 147 #[.slice (some ⟨b, o, none⟩) n c, .int .i64 (k : Int), vr, .slice (some ⟨b3, o3, none⟩) n3 c3] w fun e w' => e = .returned (aggG (arithG 3 ⟨ka, na, sa⟩ ⟨kb, nb, sb⟩)) ∧ Below w.heap.size w w' := by
  have lb : b < w.heap.size := World.block_lt_of_cell? w _ c0
  have lb3 : b3 < w.heap.size := World.block_lt_of_cell? w _ a0
  have lb3a : b3 < w.heap.size + 1 := by omega
  have lb3b : b3 < w.heap.size + 1 + 1 := by omega
  have lb3c : b3 < w.heap.size + 1 + 1 + 1 := by omega
  have HRA := fun W => Lib.hid (rarith_any 3 ⟨ka, na, sa⟩ ⟨kb, nb, sb⟩ (by omega) hna hnb W)
  obtain ⟨g, hg⟩ : ∃ g, g = arithG 3 ⟨ka, na, sa⟩ ⟨kb, nb, sb⟩ := ⟨_, rfl⟩
  rw [← hg] at HRA ⊢
  unfold aggG at HRA
  dsimp only at HRA
  clear hg
  have HX : Hid (g = g) := Lib.hid rfl
  go_enter Try.func147, Try.ntmps147
  go_wp2_with (first
    | (go_at_call 174; refine (HAR _).out.mono ?_; rintro e w' ⟨rfl, rfl⟩)
    | (go_at_call 175; refine (HLG _ (below_alloc_two w _ _)).out.mono ?_; rintro e w' ⟨rfl, rfl⟩)
    | (go_at_call 177; refine (HRA _).out.mono ?_; rintro e wb ⟨rfl, hbb⟩; obtain ⟨hcb, hfb⟩ := bcell hbb; obtain ⟨hzb0, hzb1, hzb2, hzb3⟩ := sz4 (n := w.heap.size) (by first | assumption | (simp; done)) hbb))
  obtain ⟨⟨d0, d1, d2⟩, _⟩ := box_three (box_kept (heap4_0 w _ _ _ _) hbb)
  refine bodyPost_ret (v := .agg #[.int .i64 g.kind, .int .i64 g.n, .string g.s]) ?_ rfl ⟨?_, ?_⟩
  · simp [results, Try.results147, go_sem, d0, d1, d2]
  · first | rfl | (rw [HX.out]; rfl)
  · exact bel_end (bel4 w _ _ _ _) hbb _ _ _

set_option maxHeartbeats 4000000 in
set_option maxRecDepth 100000 in
theorem reval_4 (b o n c k : Nat) (ck cn : Int) (cs : ByteArray) (w : World) (hkn : k < n) (_hn63 : n ≤ 9223372036854775807) (b3 o3 n3 c3 A B : Nat) (vr : Value) (col ka na kb nb : Int) (sa sb : ByteArray)
    (c0 : w.cell? ⟨b, o + k * 7, none⟩ = some (.int .i64 4)) (c1 : w.cell? ⟨b, o + k * 7 + 1, none⟩ = some (.int .i64 (A : Int))) (c2 : w.cell? ⟨b, o + k * 7 + 2, none⟩ = some (.int .i64 (B : Int))) (c3' : w.cell? ⟨b, o + k * 7 + 3, none⟩ = some (.int .i64 col))
    (c4 : w.cell? ⟨b, o + k * 7 + 4, none⟩ = some (.int .i64 ck)) (c5 : w.cell? ⟨b, o + k * 7 + 5, none⟩ = some (.int .i64 cn)) (c6 : w.cell? ⟨b, o + k * 7 + 6, none⟩ = some (.string cs))
    (a0 : w.cell? ⟨b3, o3 + A * 3, none⟩ = some (.int .i64 ka)) (a1 : w.cell? ⟨b3, o3 + A * 3 + 1, none⟩ = some (.int .i64 na)) (a2 : w.cell? ⟨b3, o3 + A * 3 + 2, none⟩ = some (.string sa)) (hA : A < n3) (_hn3 : n3 ≤ 9223372036854775807)
    (b0 : w.cell? ⟨b3, o3 + B * 3, none⟩ = some (.int .i64 kb)) (b1 : w.cell? ⟨b3, o3 + B * 3 + 1, none⟩ = some (.int .i64 nb)) (b2 : w.cell? ⟨b3, o3 + B * 3 + 2, none⟩ = some (.string sb)) (hB : B < n3)
    (hna : In64 na) (hnb : In64 nb)
    (HAR : ∀ W, Hid (Calls Try.prog 174 #[.int .i64 4] W fun e w' => e = .returned (.int .i64 2) ∧ W = w'))
    (HLG : ∀ W, Below w.heap.size w W → Hid (Calls Try.prog 175 #[.slice (some ⟨b, o, none⟩) n c, .int .i64 (k : Int)] W fun e w' => e = .returned (.bool true) ∧ W = w')) :
    Calls Try.prog 147 #[.slice (some ⟨b, o, none⟩) n c, .int .i64 (k : Int), vr, .slice (some ⟨b3, o3, none⟩) n3 c3] w fun e w' => e = .returned (aggG (arithG 4 ⟨ka, na, sa⟩ ⟨kb, nb, sb⟩)) ∧ Below w.heap.size w w' := by
  have lb : b < w.heap.size := World.block_lt_of_cell? w _ c0
  have lb3 : b3 < w.heap.size := World.block_lt_of_cell? w _ a0
  have lb3a : b3 < w.heap.size + 1 := by omega
  have lb3b : b3 < w.heap.size + 1 + 1 := by omega
  have lb3c : b3 < w.heap.size + 1 + 1 + 1 := by omega
  have HRA := fun W => Lib.hid (rarith_any 4 ⟨ka, na, sa⟩ ⟨kb, nb, sb⟩ (by omega) hna hnb W)
  obtain ⟨g, hg⟩ : ∃ g, g = arithG 4 ⟨ka, na, sa⟩ ⟨kb, nb, sb⟩ := ⟨_, rfl⟩
  rw [← hg] at HRA ⊢
  unfold aggG at HRA
  dsimp only at HRA
  clear hg
  have HX : Hid (g = g) := Lib.hid rfl
  go_enter Try.func147, Try.ntmps147
  go_wp2_with (first
    | (go_at_call 174; refine (HAR _).out.mono ?_; rintro e w' ⟨rfl, rfl⟩)
    | (go_at_call 175; refine (HLG _ (below_alloc_two w _ _)).out.mono ?_; rintro e w' ⟨rfl, rfl⟩)
    | (go_at_call 177; refine (HRA _).out.mono ?_; rintro e wb ⟨rfl, hbb⟩; obtain ⟨hcb, hfb⟩ := bcell hbb; obtain ⟨hzb0, hzb1, hzb2, hzb3⟩ := sz4 (n := w.heap.size) (by first | assumption | (simp; done)) hbb))
  obtain ⟨⟨d0, d1, d2⟩, _⟩ := box_three (box_kept (heap4_0 w _ _ _ _) hbb)
  refine bodyPost_ret (v := .agg #[.int .i64 g.kind, .int .i64 g.n, .string g.s]) ?_ rfl ⟨?_, ?_⟩
  · simp [results, Try.results147, go_sem, d0, d1, d2]
  · first | rfl | (rw [HX.out]; rfl)
  · exact bel_end (bel4 w _ _ _ _) hbb _ _ _

set_option maxHeartbeats 4000000 in
set_option maxRecDepth 100000 in
theorem reval_5 (b o n c k : Nat) (ck cn : Int) (cs : ByteArray) (w : World) (hkn : k < n) (_hn63 : n ≤ 9223372036854775807) (b3 o3 n3 c3 A B : Nat) (vr : Value) (col ka na kb nb : Int) (sa sb : ByteArray)
    (c0 : w.cell? ⟨b, o + k * 7, none⟩ = some (.int .i64 5)) (c1 : w.cell? ⟨b, o + k * 7 + 1, none⟩ = some (.int .i64 (A : Int))) (c2 : w.cell? ⟨b, o + k * 7 + 2, none⟩ = some (.int .i64 (B : Int))) (c3' : w.cell? ⟨b, o + k * 7 + 3, none⟩ = some (.int .i64 col))
    (c4 : w.cell? ⟨b, o + k * 7 + 4, none⟩ = some (.int .i64 ck)) (c5 : w.cell? ⟨b, o + k * 7 + 5, none⟩ = some (.int .i64 cn)) (c6 : w.cell? ⟨b, o + k * 7 + 6, none⟩ = some (.string cs))
    (a0 : w.cell? ⟨b3, o3 + A * 3, none⟩ = some (.int .i64 ka)) (a1 : w.cell? ⟨b3, o3 + A * 3 + 1, none⟩ = some (.int .i64 na)) (a2 : w.cell? ⟨b3, o3 + A * 3 + 2, none⟩ = some (.string sa)) (hA : A < n3) (_hn3 : n3 ≤ 9223372036854775807)
    (b0 : w.cell? ⟨b3, o3 + B * 3, none⟩ = some (.int .i64 kb)) (b1 : w.cell? ⟨b3, o3 + B * 3 + 1, none⟩ = some (.int .i64 nb)) (b2 : w.cell? ⟨b3, o3 + B * 3 + 2, none⟩ = some (.string sb)) (hB : B < n3)
    (hna : In64 na) (hnb : In64 nb)
    (HAR : ∀ W, Hid (Calls Try.prog 174 #[.int .i64 5] W fun e w' => e = .returned (.int .i64 2) ∧ W = w'))
    (HLG : ∀ W, Below w.heap.size w W → Hid (Calls Try.prog 175 #[.slice (some ⟨b, o, none⟩) n c, .int .i64 (k : Int)] W fun e w' => e = .returned (.bool true) ∧ W = w')) :
    Calls Try.prog 147 #[.slice (some ⟨b, o, none⟩) n c, .int .i64 (k : Int), vr, .slice (some ⟨b3, o3, none⟩) n3 c3] w fun e w' => e = .returned (aggG (arithG 5 ⟨ka, na, sa⟩ ⟨kb, nb, sb⟩)) ∧ Below w.heap.size w w' := by
  have lb : b < w.heap.size := World.block_lt_of_cell? w _ c0
  have lb3 : b3 < w.heap.size := World.block_lt_of_cell? w _ a0
  have lb3a : b3 < w.heap.size + 1 := by omega
  have lb3b : b3 < w.heap.size + 1 + 1 := by omega
  have lb3c : b3 < w.heap.size + 1 + 1 + 1 := by omega
  have HRA := fun W => Lib.hid (rarith_any 5 ⟨ka, na, sa⟩ ⟨kb, nb, sb⟩ (by omega) hna hnb W)
  obtain ⟨g, hg⟩ : ∃ g, g = arithG 5 ⟨ka, na, sa⟩ ⟨kb, nb, sb⟩ := ⟨_, rfl⟩
  rw [← hg] at HRA ⊢
  unfold aggG at HRA
  dsimp only at HRA
  clear hg
  have HX : Hid (g = g) := Lib.hid rfl
  go_enter Try.func147, Try.ntmps147
  go_wp2_with (first
    | (go_at_call 174; refine (HAR _).out.mono ?_; rintro e w' ⟨rfl, rfl⟩)
    | (go_at_call 175; refine (HLG _ (below_alloc_two w _ _)).out.mono ?_; rintro e w' ⟨rfl, rfl⟩)
    | (go_at_call 177; refine (HRA _).out.mono ?_; rintro e wb ⟨rfl, hbb⟩; obtain ⟨hcb, hfb⟩ := bcell hbb; obtain ⟨hzb0, hzb1, hzb2, hzb3⟩ := sz4 (n := w.heap.size) (by first | assumption | (simp; done)) hbb))
  obtain ⟨⟨d0, d1, d2⟩, _⟩ := box_three (box_kept (heap4_0 w _ _ _ _) hbb)
  refine bodyPost_ret (v := .agg #[.int .i64 g.kind, .int .i64 g.n, .string g.s]) ?_ rfl ⟨?_, ?_⟩
  · simp [results, Try.results147, go_sem, d0, d1, d2]
  · first | rfl | (rw [HX.out]; rfl)
  · exact bel_end (bel4 w _ _ _ _) hbb _ _ _

set_option maxHeartbeats 4000000 in
set_option maxRecDepth 100000 in
theorem reval_10 (b o n c k : Nat) (ck cn : Int) (cs : ByteArray) (w : World) (hkn : k < n) (_hn63 : n ≤ 9223372036854775807) (b3 o3 n3 c3 A : Nat) (vr : Value) (xb col ka na : Int) (sa : ByteArray)
    (c0 : w.cell? ⟨b, o + k * 7, none⟩ = some (.int .i64 10)) (c1 : w.cell? ⟨b, o + k * 7 + 1, none⟩ = some (.int .i64 (A : Int))) (c2 : w.cell? ⟨b, o + k * 7 + 2, none⟩ = some (.int .i64 xb)) (c3' : w.cell? ⟨b, o + k * 7 + 3, none⟩ = some (.int .i64 col))
    (c4 : w.cell? ⟨b, o + k * 7 + 4, none⟩ = some (.int .i64 ck)) (c5 : w.cell? ⟨b, o + k * 7 + 5, none⟩ = some (.int .i64 cn)) (c6 : w.cell? ⟨b, o + k * 7 + 6, none⟩ = some (.string cs))
    (a0 : w.cell? ⟨b3, o3 + A * 3, none⟩ = some (.int .i64 ka)) (a1 : w.cell? ⟨b3, o3 + A * 3 + 1, none⟩ = some (.int .i64 na)) (a2 : w.cell? ⟨b3, o3 + A * 3 + 2, none⟩ = some (.string sa)) (hA : A < n3) (_hn3 : n3 ≤ 9223372036854775807)
    (HAR : ∀ W, Hid (Calls Try.prog 174 #[.int .i64 10] W fun e w' => e = .returned (.int .i64 1) ∧ W = w'))
    (HLG : ∀ W, Below w.heap.size w W → Hid (Calls Try.prog 175 #[.slice (some ⟨b, o, none⟩) n c, .int .i64 (k : Int)] W fun e w' => e = .returned (.bool true) ∧ W = w')) :
    Calls Try.prog 147 #[.slice (some ⟨b, o, none⟩) n c, .int .i64 (k : Int), vr, .slice (some ⟨b3, o3, none⟩) n3 c3] w fun e w' => e = .returned (aggG (gbool (!isTrueG ⟨ka, na, sa⟩))) ∧ Below w.heap.size w w' := by
  have lb : b < w.heap.size := World.block_lt_of_cell? w _ c0
  have lb3 : b3 < w.heap.size := World.block_lt_of_cell? w _ a0
  have lb3a : b3 < w.heap.size + 1 := by omega
  have lb3b : b3 < w.heap.size + 1 + 1 := by omega
  have lb3c : b3 < w.heap.size + 1 + 1 + 1 := by omega
  have HTA := fun W => Lib.hid (rtrue_kns ka na sa W)
  obtain ⟨ta, hta⟩ : ∃ t, t = (ka == 3 && na == 1) := ⟨_, rfl⟩
  rw [← hta] at HTA
  rw [show isTrueG ⟨ka, na, sa⟩ = ta from hta.symm]
  clear hta
  cases ta
  · have HX : Hid (gbool (!false) = gbool true) := Lib.hid rfl
    go_enter Try.func147, Try.ntmps147
    go_wp2_with (first
      | (go_at_call 174; refine (HAR _).out.mono ?_; rintro e w' ⟨rfl, rfl⟩)
      | (go_at_call 175; refine (HLG _ (below_alloc_two w _ _)).out.mono ?_; rintro e w' ⟨rfl, rfl⟩)
      | (go_at_call 117; ((with_reducible refine (HTA _).out.mono ?_); rintro e wt ⟨rfl, hbt⟩; obtain ⟨hct, hft⟩ := bcell hbt; obtain ⟨hzt0, hzt1, hzt2, hzt3⟩ := sz4 (n := w.heap.size) (by first | assumption | (simp; done)) hbt))
      | (go_at_call 176; refine (rboolean_ag _ _).mono ?_; rintro e wb ⟨rfl, hbb⟩; obtain ⟨hcb, hfb⟩ := bcell hbb; obtain ⟨hzb0, hzb1, hzb2, hzb3⟩ := sz4 (n := w.heap.size) (by first | assumption | (simp; done)) hbb))
    obtain ⟨⟨d0, d1, d2⟩, _⟩ := box_three (box_kept (box_kept (heap4_0 w _ _ _ _) hbt) hbb)
    refine bodyPost_ret (v := .agg #[.int .i64 3, .int .i64 1, .string ⟨#[]⟩]) ?_ rfl ⟨?_, ?_⟩
    · simp [results, Try.results147, go_sem, b2i, d0, d1, d2]
    · first | rfl | (rw [HX.out]; rfl)
    · exact bel_end (below_keep (bel4 w _ _ _ _) hbt) hbb _ _ _
  · have HX : Hid (gbool (!true) = gbool false) := Lib.hid rfl
    go_enter Try.func147, Try.ntmps147
    go_wp2_with (first
      | (go_at_call 174; refine (HAR _).out.mono ?_; rintro e w' ⟨rfl, rfl⟩)
      | (go_at_call 175; refine (HLG _ (below_alloc_two w _ _)).out.mono ?_; rintro e w' ⟨rfl, rfl⟩)
      | (go_at_call 117; ((with_reducible refine (HTA _).out.mono ?_); rintro e wt ⟨rfl, hbt⟩; obtain ⟨hct, hft⟩ := bcell hbt; obtain ⟨hzt0, hzt1, hzt2, hzt3⟩ := sz4 (n := w.heap.size) (by first | assumption | (simp; done)) hbt))
      | (go_at_call 176; refine (rboolean_ag _ _).mono ?_; rintro e wb ⟨rfl, hbb⟩; obtain ⟨hcb, hfb⟩ := bcell hbb; obtain ⟨hzb0, hzb1, hzb2, hzb3⟩ := sz4 (n := w.heap.size) (by first | assumption | (simp; done)) hbb))
    obtain ⟨⟨d0, d1, d2⟩, _⟩ := box_three (box_kept (box_kept (heap4_0 w _ _ _ _) hbt) hbb)
    refine bodyPost_ret (v := .agg #[.int .i64 3, .int .i64 0, .string ⟨#[]⟩]) ?_ rfl ⟨?_, ?_⟩
    · simp [results, Try.results147, go_sem, b2i, d0, d1, d2]
    · first | rfl | (rw [HX.out]; rfl)
    · exact bel_end (below_keep (bel4 w _ _ _ _) hbt) hbb _ _ _

set_option maxHeartbeats 4000000 in
set_option maxRecDepth 100000 in
theorem reval_11 (b o n c k : Nat) (ck cn : Int) (cs : ByteArray) (w : World) (hkn : k < n) (_hn63 : n ≤ 9223372036854775807) (b3 o3 n3 c3 A : Nat) (vr : Value) (xb col ka na : Int) (sa : ByteArray)
    (c0 : w.cell? ⟨b, o + k * 7, none⟩ = some (.int .i64 11)) (c1 : w.cell? ⟨b, o + k * 7 + 1, none⟩ = some (.int .i64 (A : Int))) (c2 : w.cell? ⟨b, o + k * 7 + 2, none⟩ = some (.int .i64 xb)) (c3' : w.cell? ⟨b, o + k * 7 + 3, none⟩ = some (.int .i64 col))
    (c4 : w.cell? ⟨b, o + k * 7 + 4, none⟩ = some (.int .i64 ck)) (c5 : w.cell? ⟨b, o + k * 7 + 5, none⟩ = some (.int .i64 cn)) (c6 : w.cell? ⟨b, o + k * 7 + 6, none⟩ = some (.string cs))
    (a0 : w.cell? ⟨b3, o3 + A * 3, none⟩ = some (.int .i64 ka)) (a1 : w.cell? ⟨b3, o3 + A * 3 + 1, none⟩ = some (.int .i64 na)) (a2 : w.cell? ⟨b3, o3 + A * 3 + 2, none⟩ = some (.string sa)) (hA : A < n3) (_hn3 : n3 ≤ 9223372036854775807)
    (HAR : ∀ W, Hid (Calls Try.prog 174 #[.int .i64 11] W fun e w' => e = .returned (.int .i64 1) ∧ W = w'))
    (HLG : ∀ W, Below w.heap.size w W → Hid (Calls Try.prog 175 #[.slice (some ⟨b, o, none⟩) n c, .int .i64 (k : Int)] W fun e w' => e = .returned (.bool true) ∧ W = w')) :
    Calls Try.prog 147 #[.slice (some ⟨b, o, none⟩) n c, .int .i64 (k : Int), vr, .slice (some ⟨b3, o3, none⟩) n3 c3] w fun e w' => e = .returned (aggG (gbool (ka == 0))) ∧ Below w.heap.size w w' := by
  have lb : b < w.heap.size := World.block_lt_of_cell? w _ c0
  have lb3 : b3 < w.heap.size := World.block_lt_of_cell? w _ a0
  have lb3a : b3 < w.heap.size + 1 := by omega
  have lb3b : b3 < w.heap.size + 1 + 1 := by omega
  have lb3c : b3 < w.heap.size + 1 + 1 + 1 := by omega
  cases q0 : (ka == 0)
  · have HX : Hid (gbool false = gbool false) := Lib.hid rfl
    go_enter Try.func147, Try.ntmps147
    go_wp2_with (first
      | (go_at_call 174; refine (HAR _).out.mono ?_; rintro e w' ⟨rfl, rfl⟩)
      | (go_at_call 175; refine (HLG _ (below_alloc_two w _ _)).out.mono ?_; rintro e w' ⟨rfl, rfl⟩)
      | (go_at_call 176; refine (rboolean_ag _ _).mono ?_; rintro e wb ⟨rfl, hbb⟩; obtain ⟨hcb, hfb⟩ := bcell hbb; obtain ⟨hzb0, hzb1, hzb2, hzb3⟩ := sz4 (n := w.heap.size) (by first | assumption | (simp; done)) hbb))
    obtain ⟨⟨d0, d1, d2⟩, _⟩ := box_three (box_kept (heap4_0 w _ _ _ _) hbb)
    refine bodyPost_ret (v := .agg #[.int .i64 3, .int .i64 0, .string ⟨#[]⟩]) ?_ rfl ⟨?_, ?_⟩
    · simp [results, Try.results147, go_sem, b2i, d0, d1, d2]
    · first | rfl | (rw [HX.out]; rfl)
    · exact bel_end (bel4 w _ _ _ _) hbb _ _ _
  · have HX : Hid (gbool true = gbool true) := Lib.hid rfl
    go_enter Try.func147, Try.ntmps147
    go_wp2_with (first
      | (go_at_call 174; refine (HAR _).out.mono ?_; rintro e w' ⟨rfl, rfl⟩)
      | (go_at_call 175; refine (HLG _ (below_alloc_two w _ _)).out.mono ?_; rintro e w' ⟨rfl, rfl⟩)
      | (go_at_call 176; refine (rboolean_ag _ _).mono ?_; rintro e wb ⟨rfl, hbb⟩; obtain ⟨hcb, hfb⟩ := bcell hbb; obtain ⟨hzb0, hzb1, hzb2, hzb3⟩ := sz4 (n := w.heap.size) (by first | assumption | (simp; done)) hbb))
    obtain ⟨⟨d0, d1, d2⟩, _⟩ := box_three (box_kept (heap4_0 w _ _ _ _) hbb)
    refine bodyPost_ret (v := .agg #[.int .i64 3, .int .i64 1, .string ⟨#[]⟩]) ?_ rfl ⟨?_, ?_⟩
    · simp [results, Try.results147, go_sem, b2i, d0, d1, d2]
    · first | rfl | (rw [HX.out]; rfl)
    · exact bel_end (bel4 w _ _ _ _) hbb _ _ _

end Go.Proofs.Ytminnkihcohflaa
