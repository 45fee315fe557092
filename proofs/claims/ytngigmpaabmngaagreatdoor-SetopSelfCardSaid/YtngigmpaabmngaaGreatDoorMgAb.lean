/- A part of the proofs: ExpG, Prd, Own, Grw, Srt, SplE, CmpR, Cmg, SplC, SplF, SplG, Row, Ord, ShSr, Bag, Tsl, Nfp, SplH, SplI, SplP. No condition beside sizes and tables that read as laid. -/
import Derived.Test.YtngigmpaabmngaaGreatDoorMgAa
import Derived.Sort.Grow
import Derived.Shelf.SlSortCmp.WholeK
import Derived.Shelf.SlLaysF0
import Derived.Test.YtngigmpaabmngaaGreatDoorProg
import Derived.Shelf.SlSortCmp.NoneTotal
namespace Go.Proofs.YtngigmpaabmngaaGreatDoor
open Go.RowKit Go.Lib Go.Shelf

def b2i (b : Bool) : Int := if b = true then 1 else 0
theorem rboolean_ag (b : Bool) (w : World) : Calls Tryz.prog 161 #[.bool b] w fun e w' => e = .returned (.agg #[.int .i64 3, .int .i64 (b2i b), .string ⟨#[]⟩]) ∧ Below w.heap.size w w' := rboolean_any b w
theorem rtrue_kns (k n : Int) (s : ByteArray) (w : World) : Calls Tryz.prog 96 #[.agg #[.int .i64 k, .int .i64 n, .string s]] w fun e w' => e = .returned (.bool (k == 3 && n == 1)) ∧ Below w.heap.size w w' := rtrue_any ⟨k, n, s⟩ w
/-- What an operator gives. -/
def xapp (op col : Int) (c : GVal) (row : List GVal) (a b : GVal) : GVal :=
  if op = 1 then c
  else if op = 2 then (if 0 ≤ col ∧ col < row.length then row.getD col.toNat gnull else gnull)
  else if op = 6 then gbool (a.kind != 0 && b.kind != 0 && cmpG a b == 0)
  else if op = 7 then gbool (a.kind != 0 && a.kind == b.kind && decide (cmpG a b < 0))
  else if op = 8 then gbool (isTrueG a && isTrueG b)
  else if op = 9 then gbool (isTrueG a || isTrueG b)
  else if op = 10 then gbool (!isTrueG a)
  else if op = 11 then gbool (a.kind == 0)
  else arithG op a b
def xev (x : GExp) (k : Nat) (row done : List GVal) : GVal :=
  if arity x.op < 0 ∨ legalX x k = false then gnull
  else xapp x.op x.col x.c row (done.getD x.a.toNat gnull) (done.getD x.b.toNat gnull)
theorem sz4 {n : Nat} {W W' : World} (h : n + 1 + 1 + 1 < W.heap.size) (hb : Below W.heap.size W W') : n < W'.heap.size ∧ n + 1 < W'.heap.size ∧ n + 1 + 1 < W'.heap.size ∧ n + 1 + 1 + 1 < W'.heap.size := by
  have := hb.size
  omega

theorem bel4 (w : World) (c1 c2 c3 c4 : Obj) : Below w.heap.size w ((((w.alloc c1).alloc c2).alloc c3).alloc c4) := below_alloc_keep (below_alloc_keep (below_alloc_two w c1 c2))
theorem heap4_0 (w : World) (c1 c2 c3 c4 : Obj) : ((((w.alloc c1).alloc c2).alloc c3).alloc c4).heap[w.heap.size]? = some c1 :=
  (Below.heap_alloc _ _ _ (by simp; omega)).trans ((Below.heap_alloc _ _ _ (by simp; omega)).trans (heap_alloc_old' w c1 c2))
theorem bel_end {w W wb : World} (h : Below w.heap.size w W) (hb : Below W.heap.size W wb) (x y z : Value) : Below w.heap.size w (((wb.setCell ⟨w.heap.size, 0, none⟩ x).setCell ⟨w.heap.size, 1, none⟩ y).setCell ⟨w.heap.size, 2, none⟩ z) :=
  (((below_keep h hb).setCell (Nat.le_refl _) _).setCell (Nat.le_refl _) _).setCell (Nat.le_refl _) _
/-! -/

/-! -/

/-! -/

set_option maxHeartbeats 4000000 in
set_option maxRecDepth 100000 in
theorem reval_6 (b o n c k : Nat) (ck cn : Int) (cs : ByteArray) (w : World) (hkn : k < n) (_hn63 : n ≤ 9223372036854775807) (b3 o3 n3 c3 A B : Nat) (vr : Value) (col ka na kb nb : Int) (sa sb : ByteArray)
    (c0 : w.cell? ⟨b, o + k * 7, none⟩ = some (.int .i64 6)) (c1 : w.cell? ⟨b, o + k * 7 + 1, none⟩ = some (.int .i64 (A : Int))) (c2 : w.cell? ⟨b, o + k * 7 + 2, none⟩ = some (.int .i64 (B : Int))) (c3' : w.cell? ⟨b, o + k * 7 + 3, none⟩ = some (.int .i64 col))
    (c4 : w.cell? ⟨b, o + k * 7 + 4, none⟩ = some (.int .i64 ck)) (c5 : w.cell? ⟨b, o + k * 7 + 5, none⟩ = some (.int .i64 cn)) (c6 : w.cell? ⟨b, o + k * 7 + 6, none⟩ = some (.string cs))
    (a0 : w.cell? ⟨b3, o3 + A * 3, none⟩ = some (.int .i64 ka)) (a1 : w.cell? ⟨b3, o3 + A * 3 + 1, none⟩ = some (.int .i64 na)) (a2 : w.cell? ⟨b3, o3 + A * 3 + 2, none⟩ = some (.string sa)) (hA : A < n3) (_hn3 : n3 ≤ 9223372036854775807)
    (b0 : w.cell? ⟨b3, o3 + B * 3, none⟩ = some (.int .i64 kb)) (b1 : w.cell? ⟨b3, o3 + B * 3 + 1, none⟩ = some (.int .i64 nb)) (b2 : w.cell? ⟨b3, o3 + B * 3 + 2, none⟩ = some (.string sb)) (hB : B < n3)
    (HAR : ∀ W, Hid (Calls Tryz.prog 159 #[.int .i64 6] W fun e w' => e = .returned (.int .i64 2) ∧ W = w'))
    (HLG : ∀ W, Below w.heap.size w W → Hid (Calls Tryz.prog 160 #[.slice (some ⟨b, o, none⟩) n c, .int .i64 (k : Int)] W fun e w' => e = .returned (.bool true) ∧ W = w')) :
    Calls Tryz.prog 131 #[.slice (some ⟨b, o, none⟩) n c, .int .i64 (k : Int), vr, .slice (some ⟨b3, o3, none⟩) n3 c3] w fun e w' => e = .returned (aggG (gbool (ka != 0 && kb != 0 && cmpG ⟨ka, na, sa⟩ ⟨kb, nb, sb⟩ == 0))) ∧ Below w.heap.size w w' := by
  have lb : b < w.heap.size := World.block_lt_of_cell? w _ c0
  have lb3 : b3 < w.heap.size := World.block_lt_of_cell? w _ a0
  have lb3a : b3 < w.heap.size + 1 := by omega
  have lb3b : b3 < w.heap.size + 1 + 1 := by omega
  have lb3c : b3 < w.heap.size + 1 + 1 + 1 := by omega
  have HCM := fun W => Lib.hid (cmpG_any ⟨ka, na, sa⟩ ⟨kb, nb, sb⟩ W)
  obtain ⟨r, hr⟩ : ∃ r, r = cmpG ⟨ka, na, sa⟩ ⟨kb, nb, sb⟩ := ⟨_, rfl⟩
  rw [← hr] at HCM ⊢
  dsimp only at HCM
  clear hr
  by_cases h0 : ka = 0
  · have q0 : (ka != 0) = false := by simpa using h0
    have HX : Hid ((gbool (ka != 0 && kb != 0 && r == 0)) = gbool false) := by show _ = _; rw [q0]; rfl
    clear h0
    go_enter Tryz.func131, Tryz.ntmps131
    go_wp2_with (first
      | (go_at_call 159; refine (HAR _).out.mono ?_; rintro e w' ⟨rfl, rfl⟩)
      | (go_at_call 160; refine (HLG _ (below_alloc_two w _ _)).out.mono ?_; rintro e w' ⟨rfl, rfl⟩)
      | (go_at_call 161; refine (rboolean_ag _ _).mono ?_; rintro e wb ⟨rfl, hbb⟩; obtain ⟨hcb, hfb⟩ := bcell hbb; obtain ⟨hzb0, hzb1, hzb2, hzb3⟩ := sz4 (n := w.heap.size) (by first | assumption | (simp; done)) hbb))
    obtain ⟨⟨d0, d1, d2⟩, _⟩ := box_three (box_kept (heap4_0 w _ _ _ _) hbb)
    refine bodyPost_ret (v := .agg #[.int .i64 3, .int .i64 0, .string ⟨#[]⟩]) ?_ rfl ⟨?_, ?_⟩
    · simp [results, Tryz.results131, go_sem, b2i, d0, d1, d2]
    · first | rfl | (rw [HX.out]; rfl)
    · exact bel_end (bel4 w _ _ _ _) hbb _ _ _
  · have q0 : (ka != 0) = true := by simpa using h0
    by_cases h1 : kb = 0
    · have q1 : (kb != 0) = false := by simpa using h1
      have HX : Hid ((gbool (ka != 0 && kb != 0 && r == 0)) = gbool false) := by show _ = _; rw [q0, q1]; rfl
      clear h0 h1
      go_enter Tryz.func131, Tryz.ntmps131
      go_wp2_with (first
        | (go_at_call 159; refine (HAR _).out.mono ?_; rintro e w' ⟨rfl, rfl⟩)
        | (go_at_call 160; refine (HLG _ (below_alloc_two w _ _)).out.mono ?_; rintro e w' ⟨rfl, rfl⟩)
        | (go_at_call 161; refine (rboolean_ag _ _).mono ?_; rintro e wb ⟨rfl, hbb⟩; obtain ⟨hcb, hfb⟩ := bcell hbb; obtain ⟨hzb0, hzb1, hzb2, hzb3⟩ := sz4 (n := w.heap.size) (by first | assumption | (simp; done)) hbb))
      obtain ⟨⟨d0, d1, d2⟩, _⟩ := box_three (box_kept (heap4_0 w _ _ _ _) hbb)
      refine bodyPost_ret (v := .agg #[.int .i64 3, .int .i64 0, .string ⟨#[]⟩]) ?_ rfl ⟨?_, ?_⟩
      · simp [results, Tryz.results131, go_sem, b2i, d0, d1, d2]
      · first | rfl | (rw [HX.out]; rfl)
      · exact bel_end (bel4 w _ _ _ _) hbb _ _ _
    · have q1 : (kb != 0) = true := by simpa using h1
      by_cases h2 : r = 0
      · have q2 : (r == 0) = true := by simpa using h2
        have HX : Hid ((gbool (ka != 0 && kb != 0 && r == 0)) = gbool true) := by show _ = _; rw [q0, q1, q2]; rfl
        clear h0 h1 h2
        go_enter Tryz.func131, Tryz.ntmps131
        go_wp2_with (first
          | (go_at_call 159; refine (HAR _).out.mono ?_; rintro e w' ⟨rfl, rfl⟩)
          | (go_at_call 160; refine (HLG _ (below_alloc_two w _ _)).out.mono ?_; rintro e w' ⟨rfl, rfl⟩)
          | (go_at_call 63; refine (HCM _).out.mono ?_; rintro e wc ⟨rfl, hbc⟩; obtain ⟨hcc, hfc⟩ := bcell hbc; obtain ⟨hzc0, hzc1, hzc2, hzc3⟩ := sz4 (n := w.heap.size) (by first | assumption | (simp; done)) hbc)
          | (go_at_call 161; refine (rboolean_ag _ _).mono ?_; rintro e wb ⟨rfl, hbb⟩; obtain ⟨hcb, hfb⟩ := bcell hbb; obtain ⟨hzb0, hzb1, hzb2, hzb3⟩ := sz4 (n := w.heap.size) (by first | assumption | (simp; done)) hbb))
        obtain ⟨⟨d0, d1, d2⟩, _⟩ := box_three (box_kept (box_kept (heap4_0 w _ _ _ _) hbc) hbb)
        refine bodyPost_ret (v := .agg #[.int .i64 3, .int .i64 1, .string ⟨#[]⟩]) ?_ rfl ⟨?_, ?_⟩
        · simp [results, Tryz.results131, go_sem, b2i, d0, d1, d2]
        · first | rfl | (rw [HX.out]; rfl)
        · exact bel_end (below_keep (bel4 w _ _ _ _) hbc) hbb _ _ _
      · have q2 : (r == 0) = false := by simpa using h2
        have HX : Hid ((gbool (ka != 0 && kb != 0 && r == 0)) = gbool false) := by show _ = _; rw [q0, q1, q2]; rfl
        clear h0 h1 h2
        go_enter Tryz.func131, Tryz.ntmps131
        go_wp2_with (first
          | (go_at_call 159; refine (HAR _).out.mono ?_; rintro e w' ⟨rfl, rfl⟩)
          | (go_at_call 160; refine (HLG _ (below_alloc_two w _ _)).out.mono ?_; rintro e w' ⟨rfl, rfl⟩)
          | (go_at_call 63; refine (HCM _).out.mono ?_; rintro e wc ⟨rfl, hbc⟩; obtain ⟨hcc, hfc⟩ := bcell hbc; obtain ⟨hzc0, hzc1, hzc2, hzc3⟩ := sz4 (n := w.heap.size) (by first | assumption | (simp; done)) hbc)
          | (go_at_call 161; refine (rboolean_ag _ _).mono ?_; rintro e wb ⟨rfl, hbb⟩; obtain ⟨hcb, hfb⟩ := bcell hbb; obtain ⟨hzb0, hzb1, hzb2, hzb3⟩ := sz4 (n := w.heap.size) (by first | assumption | (simp; done)) hbb))
        obtain ⟨⟨d0, d1, d2⟩, _⟩ := box_three (box_kept (box_kept (heap4_0 w _ _ _ _) hbc) hbb)
        refine bodyPost_ret (v := .agg #[.int .i64 3, .int .i64 0, .string ⟨#[]⟩]) ?_ rfl ⟨?_, ?_⟩
        · simp [results, Tryz.results131, go_sem, b2i, d0, d1, d2]
        · first | rfl | (rw [HX.out]; rfl)
        · exact bel_end (below_keep (bel4 w _ _ _ _) hbc) hbb _ _ _

set_option maxHeartbeats 4000000 in
set_option maxRecDepth 100000 in
theorem reval_7 (b o n c k : Nat) (ck cn : Int) (cs : ByteArray) (w : World) (hkn : k < n) (_hn63 : n ≤ 9223372036854775807) (b3 o3 n3 c3 A B : Nat) (vr : Value) (col ka na kb nb : Int) (sa sb : ByteArray)
    (c0 : w.cell? ⟨b, o + k * 7, none⟩ = some (.int .i64 7)) (c1 : w.cell? ⟨b, o + k * 7 + 1, none⟩ = some (.int .i64 (A : Int))) (c2 : w.cell? ⟨b, o + k * 7 + 2, none⟩ = some (.int .i64 (B : Int))) (c3' : w.cell? ⟨b, o + k * 7 + 3, none⟩ = some (.int .i64 col))
    (c4 : w.cell? ⟨b, o + k * 7 + 4, none⟩ = some (.int .i64 ck)) (c5 : w.cell? ⟨b, o + k * 7 + 5, none⟩ = some (.int .i64 cn)) (c6 : w.cell? ⟨b, o + k * 7 + 6, none⟩ = some (.string cs))
    (a0 : w.cell? ⟨b3, o3 + A * 3, none⟩ = some (.int .i64 ka)) (a1 : w.cell? ⟨b3, o3 + A * 3 + 1, none⟩ = some (.int .i64 na)) (a2 : w.cell? ⟨b3, o3 + A * 3 + 2, none⟩ = some (.string sa)) (hA : A < n3) (_hn3 : n3 ≤ 9223372036854775807)
    (b0 : w.cell? ⟨b3, o3 + B * 3, none⟩ = some (.int .i64 kb)) (b1 : w.cell? ⟨b3, o3 + B * 3 + 1, none⟩ = some (.int .i64 nb)) (b2 : w.cell? ⟨b3, o3 + B * 3 + 2, none⟩ = some (.string sb)) (hB : B < n3)
    (HAR : ∀ W, Hid (Calls Tryz.prog 159 #[.int .i64 7] W fun e w' => e = .returned (.int .i64 2) ∧ W = w'))
    (HLG : ∀ W, Below w.heap.size w W → Hid (Calls Tryz.prog 160 #[.slice (some ⟨b, o, none⟩) n c, .int .i64 (k : Int)] W fun e w' => e = .returned (.bool true) ∧ W = w')) :
    Calls Tryz.prog 131 #[.slice (some ⟨b, o, none⟩) n c, .int .i64 (k : Int), vr, .slice (some ⟨b3, o3, none⟩) n3 c3] w fun e w' => e = .returned (aggG (gbool (ka != 0 && ka == kb && decide (cmpG ⟨ka, na, sa⟩ ⟨kb, nb, sb⟩ < 0)))) ∧ Below w.heap.size w w' := by
  have lb : b < w.heap.size := World.block_lt_of_cell? w _ c0
  have lb3 : b3 < w.heap.size := World.block_lt_of_cell? w _ a0
  have lb3a : b3 < w.heap.size + 1 := by omega
  have lb3b : b3 < w.heap.size + 1 + 1 := by omega
  have lb3c : b3 < w.heap.size + 1 + 1 + 1 := by omega
  have HCM := fun W => Lib.hid (cmpG_any ⟨ka, na, sa⟩ ⟨kb, nb, sb⟩ W)
  obtain ⟨r, hr⟩ : ∃ r, r = cmpG ⟨ka, na, sa⟩ ⟨kb, nb, sb⟩ := ⟨_, rfl⟩
  rw [← hr] at HCM ⊢
  dsimp only at HCM
  clear hr
  by_cases h0 : ka = 0
  · have q0 : (ka != 0) = false := by simpa using h0
    have HX : Hid ((gbool (ka != 0 && ka == kb && decide (r < 0))) = gbool false) := by show _ = _; rw [q0]; rfl
    clear h0
    go_enter Tryz.func131, Tryz.ntmps131
    go_wp2_with (first
      | (go_at_call 159; refine (HAR _).out.mono ?_; rintro e w' ⟨rfl, rfl⟩)
      | (go_at_call 160; refine (HLG _ (below_alloc_two w _ _)).out.mono ?_; rintro e w' ⟨rfl, rfl⟩)
      | (go_at_call 161; refine (rboolean_ag _ _).mono ?_; rintro e wb ⟨rfl, hbb⟩; obtain ⟨hcb, hfb⟩ := bcell hbb; obtain ⟨hzb0, hzb1, hzb2, hzb3⟩ := sz4 (n := w.heap.size) (by first | assumption | (simp; done)) hbb))
    obtain ⟨⟨d0, d1, d2⟩, _⟩ := box_three (box_kept (heap4_0 w _ _ _ _) hbb)
    refine bodyPost_ret (v := .agg #[.int .i64 3, .int .i64 0, .string ⟨#[]⟩]) ?_ rfl ⟨?_, ?_⟩
    · simp [results, Tryz.results131, go_sem, b2i, d0, d1, d2]
    · first | rfl | (rw [HX.out]; rfl)
    · exact bel_end (bel4 w _ _ _ _) hbb _ _ _
  · have q0 : (ka != 0) = true := by simpa using h0
    by_cases h1 : ka = kb
    · have q1 : (ka == kb) = true := by simpa using h1
      clear h1
      by_cases h2 : r < 0
      · have q2 : decide (r < 0) = true := by simpa using h2
        have HX : Hid ((gbool (ka != 0 && ka == kb && decide (r < 0))) = gbool true) := by show _ = _; rw [q0, q1, q2]; rfl
        clear h0
        go_enter Tryz.func131, Tryz.ntmps131
        go_wp2_with (first
          | (go_at_call 159; refine (HAR _).out.mono ?_; rintro e w' ⟨rfl, rfl⟩)
          | (go_at_call 160; refine (HLG _ (below_alloc_two w _ _)).out.mono ?_; rintro e w' ⟨rfl, rfl⟩)
          | (go_at_call 63; refine (HCM _).out.mono ?_; rintro e wc ⟨rfl, hbc⟩; obtain ⟨hcc, hfc⟩ := bcell hbc; obtain ⟨hzc0, hzc1, hzc2, hzc3⟩ := sz4 (n := w.heap.size) (by first | assumption | (simp; done)) hbc)
          | (go_at_call 161; refine (rboolean_ag _ _).mono ?_; rintro e wb ⟨rfl, hbb⟩; obtain ⟨hcb, hfb⟩ := bcell hbb; obtain ⟨hzb0, hzb1, hzb2, hzb3⟩ := sz4 (n := w.heap.size) (by first | assumption | (simp; done)) hbb))
        obtain ⟨⟨d0, d1, d2⟩, _⟩ := box_three (box_kept (box_kept (heap4_0 w _ _ _ _) hbc) hbb)
        refine bodyPost_ret (v := .agg #[.int .i64 3, .int .i64 1, .string ⟨#[]⟩]) ?_ rfl ⟨?_, ?_⟩
        · simp [results, Tryz.results131, go_sem, b2i, d0, d1, d2]
        · first | rfl | (rw [HX.out]; rfl)
        · exact bel_end (below_keep (bel4 w _ _ _ _) hbc) hbb _ _ _
      · have q2 : decide (r < 0) = false := by simpa using h2
        have HX : Hid ((gbool (ka != 0 && ka == kb && decide (r < 0))) = gbool false) := by show _ = _; rw [q0, q1, q2]; rfl
        clear h0
        go_enter Tryz.func131, Tryz.ntmps131
        go_wp2_with (first
          | (go_at_call 159; refine (HAR _).out.mono ?_; rintro e w' ⟨rfl, rfl⟩)
          | (go_at_call 160; refine (HLG _ (below_alloc_two w _ _)).out.mono ?_; rintro e w' ⟨rfl, rfl⟩)
          | (go_at_call 63; refine (HCM _).out.mono ?_; rintro e wc ⟨rfl, hbc⟩; obtain ⟨hcc, hfc⟩ := bcell hbc; obtain ⟨hzc0, hzc1, hzc2, hzc3⟩ := sz4 (n := w.heap.size) (by first | assumption | (simp; done)) hbc)
          | (go_at_call 161; refine (rboolean_ag _ _).mono ?_; rintro e wb ⟨rfl, hbb⟩; obtain ⟨hcb, hfb⟩ := bcell hbb; obtain ⟨hzb0, hzb1, hzb2, hzb3⟩ := sz4 (n := w.heap.size) (by first | assumption | (simp; done)) hbb))
        obtain ⟨⟨d0, d1, d2⟩, _⟩ := box_three (box_kept (box_kept (heap4_0 w _ _ _ _) hbc) hbb)
        refine bodyPost_ret (v := .agg #[.int .i64 3, .int .i64 0, .string ⟨#[]⟩]) ?_ rfl ⟨?_, ?_⟩
        · simp [results, Tryz.results131, go_sem, b2i, d0, d1, d2]
        · first | rfl | (rw [HX.out]; rfl)
        · exact bel_end (below_keep (bel4 w _ _ _ _) hbc) hbb _ _ _
    · have q1 : (ka == kb) = false := by simpa using h1
      have HX : Hid ((gbool (ka != 0 && ka == kb && decide (r < 0))) = gbool false) := by show _ = _; rw [q0, q1]; rfl
      clear h0 h1
      go_enter Tryz.func131, Tryz.ntmps131
      go_wp2_with (first
        | (go_at_call 159; refine (HAR _).out.mono ?_; rintro e w' ⟨rfl, rfl⟩)
        | (go_at_call 160; refine (HLG _ (below_alloc_two w _ _)).out.mono ?_; rintro e w' ⟨rfl, rfl⟩)
        | (go_at_call 161; refine (rboolean_ag _ _).mono ?_; rintro e wb ⟨rfl, hbb⟩; obtain ⟨hcb, hfb⟩ := bcell hbb; obtain ⟨hzb0, hzb1, hzb2, hzb3⟩ := sz4 (n := w.heap.size) (by first | assumption | (simp; done)) hbb))
      obtain ⟨⟨d0, d1, d2⟩, _⟩ := box_three (box_kept (heap4_0 w _ _ _ _) hbb)
      refine bodyPost_ret (v := .agg #[.int .i64 3, .int .i64 0, .string ⟨#[]⟩]) ?_ rfl ⟨?_, ?_⟩
      · simp [results, Tryz.results131, go_sem, b2i, d0, d1, d2]
      · first | rfl | (rw [HX.out]; rfl)
      · exact bel_end (bel4 w _ _ _ _) hbb _ _ _

set_option maxHeartbeats 4000000 in
set_option maxRecDepth 100000 in
theorem reval_8 (b o n c k : Nat) (ck cn : Int) (cs : ByteArray) (w : World) (hkn : k < n) (_hn63 : n ≤ 9223372036854775807) (b3 o3 n3 c3 A B : Nat) (vr : Value) (col ka na kb nb : Int) (sa sb : ByteArray)
    (c0 : w.cell? ⟨b, o + k * 7, none⟩ = some (.int .i64 8)) (c1 : w.cell? ⟨b, o + k * 7 + 1, none⟩ = some (.int .i64 (A : Int))) (c2 : w.cell? ⟨b, o + k * 7 + 2, none⟩ = some (.int .i64 (B : Int))) (c3' : w.cell? ⟨b, o + k * 7 + 3, none⟩ = some (.int .i64 col))
    (c4 : w.cell? ⟨b, o + k * 7 + 4, none⟩ = some (.int .i64 ck)) (c5 : w.cell? ⟨b, o + k * 7 + 5, none⟩ = some (.int .i64 cn)) (c6 : w.cell? ⟨b, o + k * 7 + 6, none⟩ = some (.string cs))
    (a0 : w.cell? ⟨b3, o3 + A * 3, none⟩ = some (.int .i64 ka)) (a1 : w.cell? ⟨b3, o3 + A * 3 + 1, none⟩ = some (.int .i64 na)) (a2 : w.cell? ⟨b3, o3 + A * 3 + 2, none⟩ = some (.string sa)) (hA : A < n3) (_hn3 : n3 ≤ 9223372036854775807)
    (b0 : w.cell? ⟨b3, o3 + B * 3, none⟩ = some (.int .i64 kb)) (b1 : w.cell? ⟨b3, o3 + B * 3 + 1, none⟩ = some (.int .i64 nb)) (b2 : w.cell? ⟨b3, o3 + B * 3 + 2, none⟩ = some (.string sb)) (hB : B < n3)
    (HAR : ∀ W, Hid (Calls Tryz.prog 159 #[.int .i64 8] W fun e w' => e = .returned (.int .i64 2) ∧ W = w'))
    (HLG : ∀ W, Below w.heap.size w W → Hid (Calls Tryz.prog 160 #[.slice (some ⟨b, o, none⟩) n c, .int .i64 (k : Int)] W fun e w' => e = .returned (.bool true) ∧ W = w')) :
    Calls Tryz.prog 131 #[.slice (some ⟨b, o, none⟩) n c, .int .i64 (k : Int), vr, .slice (some ⟨b3, o3, none⟩) n3 c3] w fun e w' => e = .returned (aggG (gbool (isTrueG ⟨ka, na, sa⟩ && isTrueG ⟨kb, nb, sb⟩))) ∧ Below w.heap.size w w' := by
  have lb : b < w.heap.size := World.block_lt_of_cell? w _ c0
  have lb3 : b3 < w.heap.size := World.block_lt_of_cell? w _ a0
  have lb3a : b3 < w.heap.size + 1 := by omega
  have lb3b : b3 < w.heap.size + 1 + 1 := by omega
  have lb3c : b3 < w.heap.size + 1 + 1 + 1 := by omega
  have HTA := fun W => Lib.hid (rtrue_kns ka na sa W)
  obtain ⟨ta, hta⟩ : ∃ t, t = (ka == 3 && na == 1) := ⟨_, rfl⟩
  rw [← hta] at HTA
  have HTB := fun W => Lib.hid (rtrue_kns kb nb sb W)
  obtain ⟨tb, htb⟩ : ∃ t, t = (kb == 3 && nb == 1) := ⟨_, rfl⟩
  rw [← htb] at HTB
  rw [show isTrueG ⟨ka, na, sa⟩ = ta from hta.symm, show isTrueG ⟨kb, nb, sb⟩ = tb from htb.symm]
  clear hta htb
  cases ta
  · have HX : Hid (gbool (false && tb) = gbool false) := Lib.hid rfl
    go_enter Tryz.func131, Tryz.ntmps131
    go_wp2_with (first
      | (go_at_call 159; refine (HAR _).out.mono ?_; rintro e w' ⟨rfl, rfl⟩)
      | (go_at_call 160; refine (HLG _ (below_alloc_two w _ _)).out.mono ?_; rintro e w' ⟨rfl, rfl⟩)
      | (go_at_call 96; ((with_reducible refine (HTA _).out.mono ?_); rintro e wt ⟨rfl, hbt⟩; obtain ⟨hct, hft⟩ := bcell hbt; obtain ⟨hzt0, hzt1, hzt2, hzt3⟩ := sz4 (n := w.heap.size) (by first | assumption | (simp; done)) hbt))
      | (go_at_call 161; refine (rboolean_ag _ _).mono ?_; rintro e wb ⟨rfl, hbb⟩; obtain ⟨hcb, hfb⟩ := bcell hbb; obtain ⟨hzb0, hzb1, hzb2, hzb3⟩ := sz4 (n := w.heap.size) (by first | assumption | (simp; done)) hbb))
    obtain ⟨⟨d0, d1, d2⟩, _⟩ := box_three (box_kept (box_kept (heap4_0 w _ _ _ _) hbt) hbb)
    refine bodyPost_ret (v := .agg #[.int .i64 3, .int .i64 0, .string ⟨#[]⟩]) ?_ rfl ⟨?_, ?_⟩
    · simp [results, Tryz.results131, go_sem, b2i, d0, d1, d2]
    · first | rfl | (rw [HX.out]; rfl)
    · exact bel_end (below_keep (bel4 w _ _ _ _) hbt) hbb _ _ _
  · cases tb
    · have HX : Hid (gbool (true && false) = gbool false) := Lib.hid rfl
      go_enter Tryz.func131, Tryz.ntmps131
      go_wp2_with (first
        | (go_at_call 159; refine (HAR _).out.mono ?_; rintro e w' ⟨rfl, rfl⟩)
        | (go_at_call 160; refine (HLG _ (below_alloc_two w _ _)).out.mono ?_; rintro e w' ⟨rfl, rfl⟩)
        | (go_at_call 96; ((with_reducible refine (HTA _).out.mono ?_); rintro e wt ⟨rfl, hbt⟩; obtain ⟨hct, hft⟩ := bcell hbt; obtain ⟨hzt0, hzt1, hzt2, hzt3⟩ := sz4 (n := w.heap.size) (by first | assumption | (simp; done)) hbt))
        | (go_at_call 96; ((with_reducible refine (HTB _).out.mono ?_); rintro e wu ⟨rfl, hbu⟩; obtain ⟨hcu, hfu⟩ := bcell hbu; obtain ⟨hzu0, hzu1, hzu2, hzu3⟩ := sz4 (n := w.heap.size) (by first | assumption | (simp; done)) hbu))
        | (go_at_call 161; refine (rboolean_ag _ _).mono ?_; rintro e wb ⟨rfl, hbb⟩; obtain ⟨hcb, hfb⟩ := bcell hbb; obtain ⟨hzb0, hzb1, hzb2, hzb3⟩ := sz4 (n := w.heap.size) (by first | assumption | (simp; done)) hbb))
      obtain ⟨⟨d0, d1, d2⟩, _⟩ := box_three (box_kept (box_kept (box_kept (heap4_0 w _ _ _ _) hbt) hbu) hbb)
      refine bodyPost_ret (v := .agg #[.int .i64 3, .int .i64 0, .string ⟨#[]⟩]) ?_ rfl ⟨?_, ?_⟩
      · simp [results, Tryz.results131, go_sem, b2i, d0, d1, d2]
      · first | rfl | (rw [HX.out]; rfl)
      · exact bel_end (below_keep (below_keep (bel4 w _ _ _ _) hbt) hbu) hbb _ _ _
    · have HX : Hid (gbool (true && true) = gbool true) := Lib.hid rfl
      go_enter Tryz.func131, Tryz.ntmps131
      go_wp2_with (first
        | (go_at_call 159; refine (HAR _).out.mono ?_; rintro e w' ⟨rfl, rfl⟩)
        | (go_at_call 160; refine (HLG _ (below_alloc_two w _ _)).out.mono ?_; rintro e w' ⟨rfl, rfl⟩)
        | (go_at_call 96; ((with_reducible refine (HTA _).out.mono ?_); rintro e wt ⟨rfl, hbt⟩; obtain ⟨hct, hft⟩ := bcell hbt; obtain ⟨hzt0, hzt1, hzt2, hzt3⟩ := sz4 (n := w.heap.size) (by first | assumption | (simp; done)) hbt))
        | (go_at_call 96; ((with_reducible refine (HTB _).out.mono ?_); rintro e wu ⟨rfl, hbu⟩; obtain ⟨hcu, hfu⟩ := bcell hbu; obtain ⟨hzu0, hzu1, hzu2, hzu3⟩ := sz4 (n := w.heap.size) (by first | assumption | (simp; done)) hbu))
        | (go_at_call 161; refine (rboolean_ag _ _).mono ?_; rintro e wb ⟨rfl, hbb⟩; obtain ⟨hcb, hfb⟩ := bcell hbb; obtain ⟨hzb0, hzb1, hzb2, hzb3⟩ := sz4 (n := w.heap.size) (by first | assumption | (simp; done)) hbb))
      obtain ⟨⟨d0, d1, d2⟩, _⟩ := box_three (box_kept (box_kept (box_kept (heap4_0 w _ _ _ _) hbt) hbu) hbb)
      refine bodyPost_ret (v := .agg #[.int .i64 3, .int .i64 1, .string ⟨#[]⟩]) ?_ rfl ⟨?_, ?_⟩
      · simp [results, Tryz.results131, go_sem, b2i, d0, d1, d2]
      · first | rfl | (rw [HX.out]; rfl)
      · exact bel_end (below_keep (below_keep (bel4 w _ _ _ _) hbt) hbu) hbb _ _ _

set_option maxHeartbeats 4000000 in
set_option maxRecDepth 100000 in
theorem reval_9 (b o n c k : Nat) (ck cn : Int) (cs : ByteArray) (w : World) (hkn : k < n) (_hn63 : n ≤ 9223372036854775807) (b3 o3 n3 c3 A B : Nat) (vr : Value) (col ka na kb nb : Int) (sa sb : ByteArray)
    (c0 : w.cell? ⟨b, o + k * 7, none⟩ = some (.int .i64 9)) (c1 : w.cell? ⟨b, o + k * 7 + 1, none⟩ = some (.int .i64 (A : Int))) (c2 : w.cell? ⟨b, o + k * 7 + 2, none⟩ = some (.int .i64 (B : Int))) (c3' : w.cell? ⟨b, o + k * 7 + 3, none⟩ = some (.int .i64 col))
    (c4 : w.cell? ⟨b, o + k * 7 + 4, none⟩ = some (.int .i64 ck)) (c5 : w.cell? ⟨b, o + k * 7 + 5, none⟩ = some (.int .i64 cn)) (c6 : w.cell? ⟨b, o + k * 7 + 6, none⟩ = some (.string cs))
    (a0 : w.cell? ⟨b3, o3 + A * 3, none⟩ = some (.int .i64 ka)) (a1 : w.cell? ⟨b3, o3 + A * 3 + 1, none⟩ = some (.int .i64 na)) (a2 : w.cell? ⟨b3, o3 + A * 3 + 2, none⟩ = some (.string sa)) (hA : A < n3) (_hn3 : n3 ≤ 9223372036854775807)
    (b0 : w.cell? ⟨b3, o3 + B * 3, none⟩ = some (.int .i64 kb)) (b1 : w.cell? ⟨b3, o3 + B * 3 + 1, none⟩ = some (.int .i64 nb)) (b2 : w.cell? ⟨b3, o3 + B * 3 + 2, none⟩ = some (.string sb)) (hB : B < n3)
    (HAR : ∀ W, Hid (Calls Tryz.prog 159 #[.int .i64 9] W fun e w' => e = .returned (.int .i64 2) ∧ W = w'))
    (HLG : ∀ W, Below w.heap.size w W → Hid (Calls Tryz.prog 160 #[.slice (some ⟨b, o, none⟩) n c, .int .i64 (k : Int)] W fun e w' => e = .returned (.bool true) ∧ W = w')) :
    Calls Tryz.prog 131 #[.slice (some ⟨b, o, none⟩) n c, .int .i64 (k : Int), vr, .slice (some ⟨b3, o3, none⟩) n3 c3] w fun e w' => e = .returned (aggG (gbool (isTrueG ⟨ka, na, sa⟩ || isTrueG ⟨kb, nb, sb⟩))) ∧ Below w.heap.size w w' := by
  have lb : b < w.heap.size := World.block_lt_of_cell? w _ c0
  have lb3 : b3 < w.heap.size := World.block_lt_of_cell? w _ a0
  have lb3a : b3 < w.heap.size + 1 := by omega
  have lb3b : b3 < w.heap.size + 1 + 1 := by omega
  have lb3c : b3 < w.heap.size + 1 + 1 + 1 := by omega
  have HTA := fun W => Lib.hid (rtrue_kns ka na sa W)
  obtain ⟨ta, hta⟩ : ∃ t, t = (ka == 3 && na == 1) := ⟨_, rfl⟩
  rw [← hta] at HTA
  have HTB := fun W => Lib.hid (rtrue_kns kb nb sb W)
  obtain ⟨tb, htb⟩ : ∃ t, t = (kb == 3 && nb == 1) := ⟨_, rfl⟩
  rw [← htb] at HTB
  rw [show isTrueG ⟨ka, na, sa⟩ = ta from hta.symm, show isTrueG ⟨kb, nb, sb⟩ = tb from htb.symm]
  clear hta htb
  cases ta
  · 
    cases tb
    · have HX : Hid (gbool (false || false) = gbool false) := Lib.hid rfl
      go_enter Tryz.func131, Tryz.ntmps131
      go_wp2_with (first
        | (go_at_call 159; refine (HAR _).out.mono ?_; rintro e w' ⟨rfl, rfl⟩)
        | (go_at_call 160; refine (HLG _ (below_alloc_two w _ _)).out.mono ?_; rintro e w' ⟨rfl, rfl⟩)
        | (go_at_call 96; ((with_reducible refine (HTA _).out.mono ?_); rintro e wt ⟨rfl, hbt⟩; obtain ⟨hct, hft⟩ := bcell hbt; obtain ⟨hzt0, hzt1, hzt2, hzt3⟩ := sz4 (n := w.heap.size) (by first | assumption | (simp; done)) hbt))
        | (go_at_call 96; ((with_reducible refine (HTB _).out.mono ?_); rintro e wu ⟨rfl, hbu⟩; obtain ⟨hcu, hfu⟩ := bcell hbu; obtain ⟨hzu0, hzu1, hzu2, hzu3⟩ := sz4 (n := w.heap.size) (by first | assumption | (simp; done)) hbu))
        | (go_at_call 161; refine (rboolean_ag _ _).mono ?_; rintro e wb ⟨rfl, hbb⟩; obtain ⟨hcb, hfb⟩ := bcell hbb; obtain ⟨hzb0, hzb1, hzb2, hzb3⟩ := sz4 (n := w.heap.size) (by first | assumption | (simp; done)) hbb))
      obtain ⟨⟨d0, d1, d2⟩, _⟩ := box_three (box_kept (box_kept (box_kept (heap4_0 w _ _ _ _) hbt) hbu) hbb)
      refine bodyPost_ret (v := .agg #[.int .i64 3, .int .i64 0, .string ⟨#[]⟩]) ?_ rfl ⟨?_, ?_⟩
      · simp [results, Tryz.results131, go_sem, b2i, d0, d1, d2]
      · first | rfl | (rw [HX.out]; rfl)
      · exact bel_end (below_keep (below_keep (bel4 w _ _ _ _) hbt) hbu) hbb _ _ _
    · have HX : Hid (gbool (false || true) = gbool true) := Lib.hid rfl
      go_enter Tryz.func131, Tryz.ntmps131
      go_wp2_with (first
        | (go_at_call 159; refine (HAR _).out.mono ?_; rintro e w' ⟨rfl, rfl⟩)
        | (go_at_call 160; refine (HLG _ (below_alloc_two w _ _)).out.mono ?_; rintro e w' ⟨rfl, rfl⟩)
        | (go_at_call 96; ((with_reducible refine (HTA _).out.mono ?_); rintro e wt ⟨rfl, hbt⟩; obtain ⟨hct, hft⟩ := bcell hbt; obtain ⟨hzt0, hzt1, hzt2, hzt3⟩ := sz4 (n := w.heap.size) (by first | assumption | (simp; done)) hbt))
        | (go_at_call 96; ((with_reducible refine (HTB _).out.mono ?_); rintro e wu ⟨rfl, hbu⟩; obtain ⟨hcu, hfu⟩ := bcell hbu; obtain ⟨hzu0, hzu1, hzu2, hzu3⟩ := sz4 (n := w.heap.size) (by first | assumption | (simp; done)) hbu))
        | (go_at_call 161; refine (rboolean_ag _ _).mono ?_; rintro e wb ⟨rfl, hbb⟩; obtain ⟨hcb, hfb⟩ := bcell hbb; obtain ⟨hzb0, hzb1, hzb2, hzb3⟩ := sz4 (n := w.heap.size) (by first | assumption | (simp; done)) hbb))
      obtain ⟨⟨d0, d1, d2⟩, _⟩ := box_three (box_kept (box_kept (box_kept (heap4_0 w _ _ _ _) hbt) hbu) hbb)
      refine bodyPost_ret (v := .agg #[.int .i64 3, .int .i64 1, .string ⟨#[]⟩]) ?_ rfl ⟨?_, ?_⟩
      · simp [results, Tryz.results131, go_sem, b2i, d0, d1, d2]
      · first | rfl | (rw [HX.out]; rfl)
      · exact bel_end (below_keep (below_keep (bel4 w _ _ _ _) hbt) hbu) hbb _ _ _
  · have HX : Hid (gbool (true || tb) = gbool true) := Lib.hid rfl
    go_enter Tryz.func131, Tryz.ntmps131
    go_wp2_with (first
      | (go_at_call 159; refine (HAR _).out.mono ?_; rintro e w' ⟨rfl, rfl⟩)
      | (go_at_call 160; refine (HLG _ (below_alloc_two w _ _)).out.mono ?_; rintro e w' ⟨rfl, rfl⟩)
      | (go_at_call 96; ((with_reducible refine (HTA _).out.mono ?_); rintro e wt ⟨rfl, hbt⟩; obtain ⟨hct, hft⟩ := bcell hbt; obtain ⟨hzt0, hzt1, hzt2, hzt3⟩ := sz4 (n := w.heap.size) (by first | assumption | (simp; done)) hbt))
      | (go_at_call 161; refine (rboolean_ag _ _).mono ?_; rintro e wb ⟨rfl, hbb⟩; obtain ⟨hcb, hfb⟩ := bcell hbb; obtain ⟨hzb0, hzb1, hzb2, hzb3⟩ := sz4 (n := w.heap.size) (by first | assumption | (simp; done)) hbb))
    obtain ⟨⟨d0, d1, d2⟩, _⟩ := box_three (box_kept (box_kept (heap4_0 w _ _ _ _) hbt) hbb)
    refine bodyPost_ret (v := .agg #[.int .i64 3, .int .i64 1, .string ⟨#[]⟩]) ?_ rfl ⟨?_, ?_⟩
    · simp [results, Tryz.results131, go_sem, b2i, d0, d1, d2]
    · first | rfl | (rw [HX.out]; rfl)
    · exact bel_end (below_keep (bel4 w _ _ _ _) hbt) hbb _ _ _

set_option maxHeartbeats 4000000 in
set_option maxRecDepth 100000 in
theorem reval_3 (b o n c k : Nat) (ck cn : Int) (cs : ByteArray) (w : World) (hkn : k < n) (_hn63 : n ≤ 9223372036854775807) (b3 o3 n3 c3 A B : Nat) (vr : Value) (col ka na kb nb : Int) (sa sb : ByteArray)
    (c0 : w.cell? ⟨b, o + k * 7, none⟩ = some (.int .i64 3)) (c1 : w.cell? ⟨b, o + k * 7 + 1, none⟩ = some (.int .i64 (A : Int))) (c2 : w.cell? ⟨b, o + k * 7 + 2, none⟩ = some (.int .i64 (B : Int))) (c3' : w.cell? ⟨b, o + k * 7 + 3, none⟩ = some (.int .i64 col))
    (c4 : w.cell? ⟨b, o + k * 7 + 4, none⟩ = some (.int .i64 ck)) (c5 : w.cell? ⟨b, o + k * 7 + 5, none⟩ = some (.int .i64 cn)) (c6 : w.cell? ⟨b, o + k * 7 + 6, none⟩ = some (.string cs))
    (a0 : w.cell? ⟨b3, o3 + A * 3, none⟩ = some (.int .i64 ka)) (a1 : w.cell? ⟨b3, o3 + A * 3 + 1, none⟩ = some (.int .i64 na)) (a2 : w.cell? ⟨b3, o3 + A * 3 + 2, none⟩ = some (.string sa)) (hA : A < n3) (_hn3 : n3 ≤ 9223372036854775807)
    (b0 : w.cell? ⟨b3, o3 + B * 3, none⟩ = some (.int .i64 kb)) (b1 : w.cell? ⟨b3, o3 + B * 3 + 1, none⟩ = some (.int .i64 nb)) (b2 : w.cell? ⟨b3, o3 + B * 3 + 2, none⟩ = some (.string sb)) (hB : B < n3)
    (hna : In64 na) (hnb : In64 nb)
    (HAR : ∀ W, Hid (Calls Tryz.prog 159 #[.int .i64 3] W fun e w' => e = .returned (.int .i64 2) ∧ W = w'))
    (HLG : ∀ W, Below w.heap.size w W → Hid (Calls Tryz.prog 160 #[.slice (some ⟨b, o, none⟩) n c, .int .i64 (k : Int)] W fun e w' => e = .returned (.bool true) ∧ W = w')) :
    Calls Tryz.prog 131 #[.slice (some ⟨b, o, none⟩) n c, .int .i64 (k : Int), vr, .slice (some ⟨b3, o3, none⟩) n3 c3] w fun e w' => e = .returned (aggG (arithG 3 ⟨ka, na, sa⟩ ⟨kb, nb, sb⟩)) ∧ Below w.heap.size w w' := by
  have lb : b < w.heap.size := World.block_lt_of_cell? w _ c0
  have lb3 : b3 < w.heap.size := World.block_lt_of_cell? w _ a0
  have lb3a : b3 < w.heap.size + 1 := by omega
  have lb3b : b3 < w.heap.size + 1 + 1 := by omega
  have lb3c : b3 < w.heap.size + 1 + 1 + 1 := by omega
  have HRA := fun W => Lib.hid (rarith_any 3 ⟨ka, na, sa⟩ ⟨kb, nb, sb⟩ (by omega) hna hnb W)
  obtain ⟨g, hg⟩ : ∃ g, g = arithG 3 ⟨ka, na, sa⟩ ⟨kb, nb, sb⟩ := ⟨_, rfl⟩
  rw [← hg] at HRA ⊢
  unfold aggG at HRA
  dsimp only at HRA
  clear hg
  have HX : Hid (g = g) := Lib.hid rfl
  go_enter Tryz.func131, Tryz.ntmps131
  go_wp2_with (first
    | (go_at_call 159; refine (HAR _).out.mono ?_; rintro e w' ⟨rfl, rfl⟩)
    | (go_at_call 160; refine (HLG _ (below_alloc_two w _ _)).out.mono ?_; rintro e w' ⟨rfl, rfl⟩)
    | (go_at_call 162; refine (HRA _).out.mono ?_; rintro e wb ⟨rfl, hbb⟩; obtain ⟨hcb, hfb⟩ := bcell hbb; obtain ⟨hzb0, hzb1, hzb2, hzb3⟩ := sz4 (n := w.heap.size) (by first | assumption | (simp; done)) hbb))
  obtain ⟨⟨d0, d1, d2⟩, _⟩ := box_three (box_kept (heap4_0 w _ _ _ _) hbb)
  refine bodyPost_ret (v := .agg #[.int .i64 g.kind, .int .i64 g.n, .string g.s]) ?_ rfl ⟨?_, ?_⟩
  · simp [results, Tryz.results131, go_sem, d0, d1, d2]
  · first | rfl | (rw [HX.out]; rfl)
  · exact bel_end (bel4 w _ _ _ _) hbb _ _ _

set_option maxHeartbeats 4000000 in
set_option maxRecDepth 100000 in
theorem reval_4 (b o n c k : Nat) (ck cn : Int) (cs : ByteArray) (w : World) (hkn : k < n) (_hn63 : n ≤ 9223372036854775807) (b3 o3 n3 c3 A B : Nat) (vr : Value) (col ka na kb nb : Int) (sa sb : ByteArray)
    (c0 : w.cell? ⟨b, o + k * 7, none⟩ = some (.int .i64 4)) (c1 : w.cell? ⟨b, o + k * 7 + 1, none⟩ = some (.int .i64 (A : Int))) (c2 : w.cell? ⟨b, o + k * 7 + 2, none⟩ = some (.int .i64 (B : Int))) (c3' : w.cell? ⟨b, o + k * 7 + 3, none⟩ = some (.int .i64 col))
    (c4 : w.cell? ⟨b, o + k * 7 + 4, none⟩ = some (.int .i64 ck)) (c5 : w.cell? ⟨b, o + k * 7 + 5, none⟩ = some (.int .i64 cn)) (c6 : w.cell? ⟨b, o + k * 7 + 6, none⟩ = some (.string cs))
    (a0 : w.cell? ⟨b3, o3 + A * 3, none⟩ = some (.int .i64 ka)) (a1 : w.cell? ⟨b3, o3 + A * 3 + 1, none⟩ = some (.int .i64 na)) (a2 : w.cell? ⟨b3, o3 + A * 3 + 2, none⟩ = some (.string sa)) (hA : A < n3) (_hn3 : n3 ≤ 9223372036854775807)
    (b0 : w.cell? ⟨b3, o3 + B * 3, none⟩ = some (.int .i64 kb)) (b1 : w.cell? ⟨b3, o3 + B * 3 + 1, none⟩ = some (.int .i64 nb)) (b2 : w.cell? ⟨b3, o3 + B * 3 + 2, none⟩ = some (.string sb)) (hB : B < n3)
    (hna : In64 na) (hnb : In64 nb)
    (HAR : ∀ W, Hid (Calls Tryz.prog 159 #[.int .i64 4] W fun e w' => e = .returned (.int .i64 2) ∧ W = w'))
    (HLG : ∀ W, Below w.heap.size w W → Hid (Calls Tryz.prog 160 #[.slice (some ⟨b, o, none⟩) n c, .int .i64 (k : Int)] W fun e w' => e = .returned (.bool true) ∧ W = w')) :
    Calls Tryz.prog 131 #[.slice (some ⟨b, o, none⟩) n c, .int .i64 (k : Int), vr, .slice (some ⟨b3, o3, none⟩) n3 c3] w fun e w' => e = .returned (aggG (arithG 4 ⟨ka, na, sa⟩ ⟨kb, nb, sb⟩)) ∧ Below w.heap.size w w' := by
  have lb : b < w.heap.size := World.block_lt_of_cell? w _ c0
  have lb3 : b3 < w.heap.size := World.block_lt_of_cell? w _ a0
  have lb3a : b3 < w.heap.size + 1 := by omega
  have lb3b : b3 < w.heap.size + 1 + 1 := by omega
  have lb3c : b3 < w.heap.size + 1 + 1 + 1 := by omega
  have HRA := fun W => Lib.hid (rarith_any 4 ⟨ka, na, sa⟩ ⟨kb, nb, sb⟩ (by omega) hna hnb W)
  obtain ⟨g, hg⟩ : ∃ g, g = arithG 4 ⟨ka, na, sa⟩ ⟨kb, nb, sb⟩ := ⟨_, rfl⟩
  rw [← hg] at HRA ⊢
  unfold aggG at HRA
  dsimp only at HRA
  clear hg
  have HX : Hid (g = g) := Lib.hid rfl
  go_enter Tryz.func131, Tryz.ntmps131
  go_wp2_with (first
    | (go_at_call 159; refine (HAR _).out.mono ?_; rintro e w' ⟨rfl, rfl⟩)
    | (go_at_call 160; refine (HLG _ (below_alloc_two w _ _)).out.mono ?_; rintro e w' ⟨rfl, rfl⟩)
    | (go_at_call 162; refine (HRA _).out.mono ?_; rintro e wb ⟨rfl, hbb⟩; obtain ⟨hcb, hfb⟩ := bcell hbb; obtain ⟨hzb0, hzb1, hzb2, hzb3⟩ := sz4 (n := w.heap.size) (by first | assumption | (simp; done)) hbb))
  obtain ⟨⟨d0, d1, d2⟩, _⟩ := box_three (box_kept (heap4_0 w _ _ _ _) hbb)
  refine bodyPost_ret (v := .agg #[.int .i64 g.kind, .int .i64 g.n, .string g.s]) ?_ rfl ⟨?_, ?_⟩
  · simp [results, Tryz.results131, go_sem, d0, d1, d2]
  · first | rfl | (rw [HX.out]; rfl)
  · exact bel_end (bel4 w _ _ _ _) hbb _ _ _

set_option maxHeartbeats 4000000 in
set_option maxRecDepth 100000 in
theorem reval_5 (b o n c k : Nat) (ck cn : Int) (cs : ByteArray) (w : World) (hkn : k < n) (_hn63 : n ≤ 9223372036854775807) (b3 o3 n3 c3 A B : Nat) (vr : Value) (col ka na kb nb : Int) (sa sb : ByteArray)
    (c0 : w.cell? ⟨b, o + k * 7, none⟩ = some (.int .i64 5)) (c1 : w.cell? ⟨b, o + k * 7 + 1, none⟩ = some (.int .i64 (A : Int))) (c2 : w.cell? ⟨b, o + k * 7 + 2, none⟩ = some (.int .i64 (B : Int))) (c3' : w.cell? ⟨b, o + k * 7 + 3, none⟩ = some (.int .i64 col))
    (c4 : w.cell? ⟨b, o + k * 7 + 4, none⟩ = some (.int .i64 ck)) (c5 : w.cell? ⟨b, o + k * 7 + 5, none⟩ = some (.int .i64 cn)) (c6 : w.cell? ⟨b, o + k * 7 + 6, none⟩ = some (.string cs))
    (a0 : w.cell? ⟨b3, o3 + A * 3, none⟩ = some (.int .i64 ka)) (a1 : w.cell? ⟨b3, o3 + A * 3 + 1, none⟩ = some (.int .i64 na)) (a2 : w.cell? ⟨b3, o3 + A * 3 + 2, none⟩ = some (.string sa)) (hA : A < n3) (_hn3 : n3 ≤ 9223372036854775807)
    (b0 : w.cell? ⟨b3, o3 + B * 3, none⟩ = some (.int .i64 kb)) (b1 : w.cell? ⟨b3, o3 + B * 3 + 1, none⟩ = some (.int .i64 nb)) (b2 : w.cell? ⟨b3, o3 + B * 3 + 2, none⟩ = some (.string sb)) (hB : B < n3)
    (hna : In64 na) (hnb : In64 nb)
    (HAR : ∀ W, Hid (Calls Tryz.prog 159 #[.int .i64 5] W fun e w' => e = .returned (.int .i64 2) ∧ W = w'))
    (HLG : ∀ W, Below w.heap.size w W → Hid (Calls Tryz.prog 160 #[.slice (some ⟨b, o, none⟩) n c, .int .i64 (k : Int)] W fun e w' => e = .returned (.bool true) ∧ W = w')) :
    Calls Tryz.prog 131 #[.slice (some ⟨b, o, none⟩) n c, .int .i64 (k : Int), vr, .slice (some ⟨b3, o3, none⟩) n3 c3] w fun e w' => e = .returned (aggG (arithG 5 ⟨ka, na, sa⟩ ⟨kb, nb, sb⟩)) ∧ Below w.heap.size w w' := by
  have lb : b < w.heap.size := World.block_lt_of_cell? w _ c0
  have lb3 : b3 < w.heap.size := World.block_lt_of_cell? w _ a0
  have lb3a : b3 < w.heap.size + 1 := by omega
  have lb3b : b3 < w.heap.size + 1 + 1 := by omega
  have lb3c : b3 < w.heap.size + 1 + 1 + 1 := by omega
  have HRA := fun W => Lib.hid (rarith_any 5 ⟨ka, na, sa⟩ ⟨kb, nb, sb⟩ (by omega) hna hnb W)
  obtain ⟨g, hg⟩ : ∃ g, g = arithG 5 ⟨ka, na, sa⟩ ⟨kb, nb, sb⟩ := ⟨_, rfl⟩
  rw [← hg] at HRA ⊢
  unfold aggG at HRA
  dsimp only at HRA
  clear hg
  have HX : Hid (g = g) := Lib.hid rfl
  go_enter Tryz.func131, Tryz.ntmps131
  go_wp2_with (first
    | (go_at_call 159; refine (HAR _).out.mono ?_; rintro e w' ⟨rfl, rfl⟩)
    | (go_at_call 160; refine (HLG _ (below_alloc_two w _ _)).out.mono ?_; rintro e w' ⟨rfl, rfl⟩)
    | (go_at_call 162; refine (HRA _).out.mono ?_; rintro e wb ⟨rfl, hbb⟩; obtain ⟨hcb, hfb⟩ := bcell hbb; obtain ⟨hzb0, hzb1, hzb2, hzb3⟩ := sz4 (n := w.heap.size) (by first | assumption | (simp; done)) hbb))
  obtain ⟨⟨d0, d1, d2⟩, _⟩ := box_three (box_kept (heap4_0 w _ _ _ _) hbb)
  refine bodyPost_ret (v := .agg #[.int .i64 g.kind, .int .i64 g.n, .string g.s]) ?_ rfl ⟨?_, ?_⟩
  · simp [results, Tryz.results131, go_sem, d0, d1, d2]
  · first | rfl | (rw [HX.out]; rfl)
  · exact bel_end (bel4 w _ _ _ _) hbb _ _ _

set_option maxHeartbeats 4000000 in
set_option maxRecDepth 100000 in
theorem reval_10 (b o n c k : Nat) (ck cn : Int) (cs : ByteArray) (w : World) (hkn : k < n) (_hn63 : n ≤ 9223372036854775807) (b3 o3 n3 c3 A : Nat) (vr : Value) (xb col ka na : Int) (sa : ByteArray)
    (c0 : w.cell? ⟨b, o + k * 7, none⟩ = some (.int .i64 10)) (c1 : w.cell? ⟨b, o + k * 7 + 1, none⟩ = some (.int .i64 (A : Int))) (c2 : w.cell? ⟨b, o + k * 7 + 2, none⟩ = some (.int .i64 xb)) (c3' : w.cell? ⟨b, o + k * 7 + 3, none⟩ = some (.int .i64 col))
    (c4 : w.cell? ⟨b, o + k * 7 + 4, none⟩ = some (.int .i64 ck)) (c5 : w.cell? ⟨b, o + k * 7 + 5, none⟩ = some (.int .i64 cn)) (c6 : w.cell? ⟨b, o + k * 7 + 6, none⟩ = some (.string cs))
    (a0 : w.cell? ⟨b3, o3 + A * 3, none⟩ = some (.int .i64 ka)) (a1 : w.cell? ⟨b3, o3 + A * 3 + 1, none⟩ = some (.int .i64 na)) (a2 : w.cell? ⟨b3, o3 + A * 3 + 2, none⟩ = some (.string sa)) (hA : A < n3) (_hn3 : n3 ≤ 9223372036854775807)
    (HAR : ∀ W, Hid (Calls Tryz.prog 159 #[.int .i64 10] W fun e w' => e = .returned (.int .i64 1) ∧ W = w'))
    (HLG : ∀ W, Below w.heap.size w W → Hid (Calls Tryz.prog 160 #[.slice (some ⟨b, o, none⟩) n c, .int .i64 (k : Int)] W fun e w' => e = .returned (.bool true) ∧ W = w')) :
    Calls Tryz.prog 131 #[.slice (some ⟨b, o, none⟩) n c, .int .i64 (k : Int), vr, .slice (some ⟨b3, o3, none⟩) n3 c3] w fun e w' => e = .returned (aggG (gbool (!isTrueG ⟨ka, na, sa⟩))) ∧ Below w.heap.size w w' := by
  have lb : b < w.heap.size := World.block_lt_of_cell? w _ c0
  have lb3 : b3 < w.heap.size := World.block_lt_of_cell? w _ a0
  have lb3a : b3 < w.heap.size + 1 := by omega
  have lb3b : b3 < w.heap.size + 1 + 1 := by omega
  have lb3c : b3 < w.heap.size + 1 + 1 + 1 := by omega
  have HTA := fun W => Lib.hid (rtrue_kns ka na sa W)
  obtain ⟨ta, hta⟩ : ∃ t, t = (ka == 3 && na == 1) := ⟨_, rfl⟩
  rw [← hta] at HTA
  rw [show isTrueG ⟨ka, na, sa⟩ = ta from hta.symm]
  clear hta
  cases ta
  · have HX : Hid (gbool (!false) = gbool true) := Lib.hid rfl
    go_enter Tryz.func131, Tryz.ntmps131
    go_wp2_with (first
      | (go_at_call 159; refine (HAR _).out.mono ?_; rintro e w' ⟨rfl, rfl⟩)
      | (go_at_call 160; refine (HLG _ (below_alloc_two w _ _)).out.mono ?_; rintro e w' ⟨rfl, rfl⟩)
      | (go_at_call 96; ((with_reducible refine (HTA _).out.mono ?_); rintro e wt ⟨rfl, hbt⟩; obtain ⟨hct, hft⟩ := bcell hbt; obtain ⟨hzt0, hzt1, hzt2, hzt3⟩ := sz4 (n := w.heap.size) (by first | assumption | (simp; done)) hbt))
      | (go_at_call 161; refine (rboolean_ag _ _).mono ?_; rintro e wb ⟨rfl, hbb⟩; obtain ⟨hcb, hfb⟩ := bcell hbb; obtain ⟨hzb0, hzb1, hzb2, hzb3⟩ := sz4 (n := w.heap.size) (by first | assumption | (simp; done)) hbb))
    obtain ⟨⟨d0, d1, d2⟩, _⟩ := box_three (box_kept (box_kept (heap4_0 w _ _ _ _) hbt) hbb)
    refine bodyPost_ret (v := .agg #[.int .i64 3, .int .i64 1, .string ⟨#[]⟩]) ?_ rfl ⟨?_, ?_⟩
    · simp [results, Tryz.results131, go_sem, b2i, d0, d1, d2]
    · first | rfl | (rw [HX.out]; rfl)
    · exact bel_end (below_keep (bel4 w _ _ _ _) hbt) hbb _ _ _
  · have HX : Hid (gbool (!true) = gbool false) := Lib.hid rfl
    go_enter Tryz.func131, Tryz.ntmps131
    go_wp2_with (first
      | (go_at_call 159; refine (HAR _).out.mono ?_; rintro e w' ⟨rfl, rfl⟩)
      | (go_at_call 160; refine (HLG _ (below_alloc_two w _ _)).out.mono ?_; rintro e w' ⟨rfl, rfl⟩)
      | (go_at_call 96; ((with_reducible refine (HTA _).out.mono ?_); rintro e wt ⟨rfl, hbt⟩; obtain ⟨hct, hft⟩ := bcell hbt; obtain ⟨hzt0, hzt1, hzt2, hzt3⟩ := sz4 (n := w.heap.size) (by first | assumption | (simp; done)) hbt))
      | (go_at_call 161; refine (rboolean_ag _ _).mono ?_; rintro e wb ⟨rfl, hbb⟩; obtain ⟨hcb, hfb⟩ := bcell hbb; obtain ⟨hzb0, hzb1, hzb2, hzb3⟩ := sz4 (n := w.heap.size) (by first | assumption | (simp; done)) hbb))
    obtain ⟨⟨d0, d1, d2⟩, _⟩ := box_three (box_kept (box_kept (heap4_0 w _ _ _ _) hbt) hbb)
    refine bodyPost_ret (v := .agg #[.int .i64 3, .int .i64 0, .string ⟨#[]⟩]) ?_ rfl ⟨?_, ?_⟩
    · simp [results, Tryz.results131, go_sem, b2i, d0, d1, d2]
    · first | rfl | (rw [HX.out]; rfl)
    · exact bel_end (below_keep (bel4 w _ _ _ _) hbt) hbb _ _ _

set_option maxHeartbeats 4000000 in
set_option maxRecDepth 100000 in
theorem reval_11 (b o n c k : Nat) (ck cn : Int) (cs : ByteArray) (w : World) (hkn : k < n) (_hn63 : n ≤ 9223372036854775807) (b3 o3 n3 c3 A : Nat) (vr : Value) (xb col ka na : Int) (sa : ByteArray)
    (c0 : w.cell? ⟨b, o + k * 7, none⟩ = some (.int .i64 11)) (c1 : w.cell? ⟨b, o + k * 7 + 1, none⟩ = some (.int .i64 (A : Int))) (c2 : w.cell? ⟨b, o + k * 7 + 2, none⟩ = some (.int .i64 xb)) (c3' : w.cell? ⟨b, o + k * 7 + 3, none⟩ = some (.int .i64 col))
    (c4 : w.cell? ⟨b, o + k * 7 + 4, none⟩ = some (.int .i64 ck)) (c5 : w.cell? ⟨b, o + k * 7 + 5, none⟩ = some (.int .i64 cn)) (c6 : w.cell? ⟨b, o + k * 7 + 6, none⟩ = some (.string cs))
    (a0 : w.cell? ⟨b3, o3 + A * 3, none⟩ = some (.int .i64 ka)) (a1 : w.cell? ⟨b3, o3 + A * 3 + 1, none⟩ = some (.int .i64 na)) (a2 : w.cell? ⟨b3, o3 + A * 3 + 2, none⟩ = some (.string sa)) (hA : A < n3) (_hn3 : n3 ≤ 9223372036854775807)
    (HAR : ∀ W, Hid (Calls Tryz.prog 159 #[.int .i64 11] W fun e w' => e = .returned (.int .i64 1) ∧ W = w'))
    (HLG : ∀ W, Below w.heap.size w W → Hid (Calls Tryz.prog 160 #[.slice (some ⟨b, o, none⟩) n c, .int .i64 (k : Int)] W fun e w' => e = .returned (.bool true) ∧ W = w')) :
    Calls Tryz.prog 131 #[.slice (some ⟨b, o, none⟩) n c, .int .i64 (k : Int), vr, .slice (some ⟨b3, o3, none⟩) n3 c3] w fun e w' => e = .returned (aggG (gbool (ka == 0))) ∧ Below w.heap.size w w' := by
  have lb : b < w.heap.size := World.block_lt_of_cell? w _ c0
  have lb3 : b3 < w.heap.size := World.block_lt_of_cell? w _ a0
  have lb3a : b3 < w.heap.size + 1 := by omega
  have lb3b : b3 < w.heap.size + 1 + 1 := by omega
  have lb3c : b3 < w.heap.size + 1 + 1 + 1 := by omega
  cases q0 : (ka == 0)
  · have HX : Hid (gbool false = gbool false) := Lib.hid rfl
    go_enter Tryz.func131, Tryz.ntmps131
    go_wp2_with (first
      | (go_at_call 159; refine (HAR _).out.mono ?_; rintro e w' ⟨rfl, rfl⟩)
      | (go_at_call 160; refine (HLG _ (below_alloc_two w _ _)).out.mono ?_; rintro e w' ⟨rfl, rfl⟩)
      | (go_at_call 161; refine (rboolean_ag _ _).mono ?_; rintro e wb ⟨rfl, hbb⟩; obtain ⟨hcb, hfb⟩ := bcell hbb; obtain ⟨hzb0, hzb1, hzb2, hzb3⟩ := sz4 (n := w.heap.size) (by first | assumption | (simp; done)) hbb))
    obtain ⟨⟨d0, d1, d2⟩, _⟩ := box_three (box_kept (heap4_0 w _ _ _ _) hbb)
    refine bodyPost_ret (v := .agg #[.int .i64 3, .int .i64 0, .string ⟨#[]⟩]) ?_ rfl ⟨?_, ?_⟩
    · simp [results, Tryz.results131, go_sem, b2i, d0, d1, d2]
    · first | rfl | (rw [HX.out]; rfl)
    · exact bel_end (bel4 w _ _ _ _) hbb _ _ _
  · have HX : Hid (gbool true = gbool true) := Lib.hid rfl
    go_enter Tryz.func131, Tryz.ntmps131
    go_wp2_with (first
      | (go_at_call 159; refine (HAR _).out.mono ?_; rintro e w' ⟨rfl, rfl⟩)
      | (go_at_call 160; refine (HLG _ (below_alloc_two w _ _)).out.mono ?_; rintro e w' ⟨rfl, rfl⟩)
      | (go_at_call 161; refine (rboolean_ag _ _).mono ?_; rintro e wb ⟨rfl, hbb⟩; obtain ⟨hcb, hfb⟩ := bcell hbb; obtain ⟨hzb0, hzb1, hzb2, hzb3⟩ := sz4 (n := w.heap.size) (by first | assumption | (simp; done)) hbb))
    obtain ⟨⟨d0, d1, d2⟩, _⟩ := box_three (box_kept (heap4_0 w _ _ _ _) hbb)
    refine bodyPost_ret (v := .agg #[.int .i64 3, .int .i64 1, .string ⟨#[]⟩]) ?_ rfl ⟨?_, ?_⟩
    · simp [results, Tryz.results131, go_sem, b2i, d0, d1, d2]
    · first | rfl | (rw [HX.out]; rfl)
    · exact bel_end (bel4 w _ _ _ _) hbb _ _ _

end Go.Proofs.YtngigmpaabmngaaGreatDoor

namespace Go.Proofs.YtngigmpaabmngaaGreatDoor
open Go.RowKit Go.Lib Go.Shelf

def pdays (lo hi : Int) : Bool := pvalid lo hi && decide (hi ≤ 1000000)
set_option maxHeartbeats 1000000 in
theorem rprd_valid (lo hi : Int) (w : World) :
    Calls Tryz.prog 89 #[.agg #[.int .i64 lo, .int .i64 hi]] w fun e w' => e = .returned (.bool (pvalid lo hi)) ∧ Below w.heap.size w w' := by
  go_enter Tryz.func89, Tryz.ntmps89
  go_wp2
  all_goals go_ret
  all_goals refine ⟨congrArg (fun b => Ending.returned (.bool b)) ?_, below_alloc _ _⟩
  all_goals (simp [pvalid, *]; try omega)
theorem heap4_1 (w : World) (c1 c2 c3 c4 : Obj) : ((((w.alloc c1).alloc c2).alloc c3).alloc c4).heap[w.heap.size + 1]? = some c2 := by
  refine (Below.heap_alloc _ _ _ (by simp)).trans ((Below.heap_alloc _ _ _ (by simp)).trans ?_)
  simpa using World.alloc_heap_new (w.alloc c1) c2
theorem heap4_2 (w : World) (c1 c2 c3 c4 : Obj) : ((((w.alloc c1).alloc c2).alloc c3).alloc c4).heap[w.heap.size + 1 + 1]? = some c3 := by
  refine (Below.heap_alloc _ _ _ (by simp)).trans ?_
  simpa using World.alloc_heap_new ((w.alloc c1).alloc c2) c3
theorem heap4_3 (w : World) (c1 c2 c3 c4 : Obj) : ((((w.alloc c1).alloc c2).alloc c3).alloc c4).heap[w.heap.size + 1 + 1 + 1]? = some c4 := by
  simpa using World.alloc_heap_new (((w.alloc c1).alloc c2).alloc c3) c4
/-- The common part of two periods: whether there is one, its ends. -/
def isOk (a b c d : Int) : Bool := pvalid a b && pvalid c d && decide (max a c < min b d)
def isLo (a b c d : Int) : Int := if isOk a b c d = true then max a c else 0
def isHi (a b c d : Int) : Int := if isOk a b c d = true then min b d else 0
end Go.Proofs.YtngigmpaabmngaaGreatDoor

namespace Go.Proofs.YtngigmpaabmngaaGreatDoor
open Go.RowKit Go.Lib

/-- A list with some values laid in from place j on. -/
def setL : List Value → Nat → List Value → List Value
  | xs, _, [] => xs
  | xs, j, u :: us => setL (xs.set j u) (j + 1) us
theorem setL_length : ∀ (us xs : List Value) (j : Nat), (setL xs j us).length = xs.length
  | [], _, _ => rfl
  | u :: us, xs, j => by rw [setL, setL_length us]; simp
theorem setL_get : ∀ (us xs : List Value) (j m : Nat), (setL xs j us)[m]? = if j ≤ m ∧ m < j + us.length ∧ m < xs.length then us[m - j]? else xs[m]?
  | [], xs, j, m => by rw [if_neg (by simp; omega)]; rfl
  | u :: us, xs, j, m => by
    rw [setL, setL_get us]
    simp only [List.length_set, List.length_cons]
    by_cases h1 : j + 1 ≤ m ∧ m < j + 1 + us.length ∧ m < xs.length
    · rw [if_pos h1, if_pos (by omega), show m - j = m - (j + 1) + 1 by omega, List.getElem?_cons_succ]
    · rw [if_neg h1]
      by_cases h2 : m = j
      · subst h2
        by_cases h3 : m < xs.length
        · rw [if_pos (by omega), Nat.sub_self, List.getElem?_cons_zero]; simp [h3]
        · rw [if_neg (by omega), List.getElem?_eq_none (by simpa using h3), List.getElem?_eq_none (by omega)]
      · rw [if_neg (by omega), List.getElem?_set_ne (Ne.symm h2)]
theorem owns_setCells {e : TypeId} {base size g n cap : Nat} : ∀ (us : List Value) (w : World) (xs : List Value) (j : Nat), w.ownsRow base e size (.slice (some ⟨g, 0, none⟩) n cap) n xs →
    (w.setCells g j us).ownsRow base e size (.slice (some ⟨g, 0, none⟩) n cap) n (setL xs j us) ∧ w.grownBy (w.setCells g j us) (some g)
  | [], w, xs, j, h => ⟨h, ⟨rfl, rfl, rfl, Nat.le_refl _, fun _ _ _ => rfl⟩⟩
  | u :: us, w, xs, j, h => by
    obtain ⟨h1, h2⟩ := h.stored j u
    obtain ⟨h3, h4⟩ := owns_setCells us _ _ (j + 1) h1
    exact ⟨h3, ⟨h4.1.trans h2.1, h4.2.trans h2.2, h4.3.trans h2.3, Nat.le_trans h2.size h4.size, fun k hk hne => (h4.block k (Nat.lt_of_lt_of_le hk h2.size) hne).trans (h2.block k hk hne)⟩⟩
section
variable {P : Program} {α : Type}
theorem setL_take (us xs : List Value) (s i k : Nat) (hu : us.length = s) (hk : k * s + s ≤ xs.length) : ((setL xs (k * s) us).drop (i * s)).take s = if i = k then us else (xs.drop (i * s)).take s := by
  refine List.ext_getElem? fun m => ?_
  rw [List.getElem?_take, List.getElem?_drop, setL_get]
  by_cases hm : m < s
  · rw [if_pos hm]
    by_cases hik : i = k
    · subst hik
      rw [if_pos (by omega), if_pos rfl, Nat.add_sub_cancel_left]
    · rw [if_neg hik, List.getElem?_take, if_pos hm, List.getElem?_drop, if_neg]
      intro h
      rcases Nat.lt_or_gt_of_ne hik with h' | h'
      · have := Nat.mul_le_mul_right s (show i + 1 ≤ k from h'); rw [Nat.add_mul, Nat.one_mul] at this; omega
      · have := Nat.mul_le_mul_right s (show k + 1 ≤ i from h'); rw [Nat.add_mul, Nat.one_mul] at this; omega
  · rw [if_neg hm]
    split
    · rw [List.getElem?_eq_none (by omega)]
    · rw [List.getElem?_take, if_neg hm]
/-- One element is stored anew. -/
theorem Own.put {E : El P α} {w : World} {B g n c k : Nat} {l : List α} {x : α} {cs : List Value} (h : Own E w B (.slice (some ⟨g, 0, none⟩) n c) l) (hn : l.length = n) (hk : k < n) (hx : E.is w (fun m => some m = some g) x cs) :
    Own E (w.setCells g (k * E.size) cs) B (.slice (some ⟨g, 0, none⟩) n c) (l.set k x) ∧ w.grownBy (w.setCells g (k * E.size) cs) (some g) := by
  obtain ⟨xs, h1, h2⟩ := h
  rw [hn] at h1
  obtain ⟨h3, h4⟩ := owns_setCells cs w xs (k * E.size) h1
  have hK : Kept (fun m => some m = some g) w (w.setCells g (k * E.size) cs) := .of_grown h4
  have hxl : xs.length = n * E.size := h1.1
  have hb : k * E.size + E.size ≤ xs.length := by
    have := Nat.mul_le_mul_right E.size (show k + 1 ≤ n from hk); rw [Nat.add_mul, Nat.one_mul] at this; omega
  refine ⟨⟨_, by rw [List.length_set, hn]; exact h3, fun i y hy => ?_⟩, h4⟩
  rw [setL_take cs xs E.size i k (E.len hx) hb]
  by_cases hik : i = k
  · subst hik
    rw [if_pos rfl]
    rw [List.getElem?_set_self (by omega)] at hy
    cases hy
    exact E.kept hx hK
  · rw [if_neg hik]
    rw [List.getElem?_set_ne (Ne.symm hik)] at hy
    exact E.kept (h2 i y hy) hK
/-- An element of the row, and that its cells may be laid elsewhere in the row. -/
theorem Own.at {E : El P α} {w : World} {B g n c k : Nat} {l : List α} {x : α} (h : Own E w B (.slice (some ⟨g, 0, none⟩) n c) l) (hk : l[k]? = some x) :
    ∃ cs, E.is w (fun m => some m = some g) x cs ∧ ∀ j u, cs[j]? = some u → w.cell? ⟨g, k * E.size + j, none⟩ = some u := by
  obtain ⟨xs, h1, h2⟩ := h
  have hk1 := (List.getElem?_eq_some_iff.1 hk).1
  obtain ⟨h3, h4, a, c', e, h5, h6⟩ := own_reads h1
  obtain ⟨b, o, rfl, h7⟩ := h6 (by omega)
  cases e
  refine ⟨_, h2 k x hk, fun j u hu => ?_⟩
  rw [List.getElem?_take] at hu
  split at hu
  · rw [List.getElem?_drop] at hu
    have := h7 _ u hu
    simpa using this
  · cases hu
theorem Own.frozen {E : El P α} {w : World} {B g n c : Nat} {l : List α} (h : Own E w B (.slice (some ⟨g, 0, none⟩) n c) l) (hn : l.length = n) (j : Nat) : w.frozen? ⟨g, j, none⟩ = false := by
  obtain ⟨xs, h1, _⟩ := h
  rw [hn] at h1
  exact h1.frozenAt j
end

section
variable {P : Program} {α : Type}
theorem Kept.or {G D : Nat → Prop} {w w' : World} (h : Kept G w w') : Kept (fun k => G k ∨ D k) w w' := ⟨h.1, fun k h1 h2 => h.2 k h1 (fun h3 => h2 (.inl h3))⟩
/-- The same elements, their data outside of D. -/
def El.avoid (E : El P α) (D : Nat → Prop) : El P α where
  ty := E.ty
  size := E.size
  bytes := E.bytes
  pos := E.pos
  info := E.info
  is := fun w G x cs => E.is w (fun k => G k ∨ D k) x cs
  len := fun h => E.len h
  one := fun h => E.one h
  mono := fun h hm => E.mono h (fun k hk hd => hd.imp (hm k hk) id)
  kept := fun h hk => E.kept h ⟨hk.1, fun k h1 h2 => hk.2 k h1 (fun h3 => h2 (.inl h3))⟩
theorem Own.forget {E : El P α} {D : Nat → Prop} {w : World} {B : Nat} {v : Value} {l : List α} (h : Own (E.avoid D) w B v l) : Own E w B v l := by
  obtain ⟨xs, h1, h2⟩ := h
  exact ⟨xs, h1, fun i x hx => E.mono (h2 i x hx) (fun _ _ hk => .inl hk)⟩
theorem Own.else {E : El P α} {D : Nat → Prop} {w w' : World} {B : Nat} {v : Value} {l : List α} (h : Own (E.avoid D) w B v l) (hk : Kept D w w') (hD : ∀ k, v.ownBlock = some k → ¬ D k) : Own (E.avoid D) w' B v l := by
  obtain ⟨xs, h1, h2⟩ := h
  refine ⟨xs, ⟨h1.1, h1.2.imp id ?_⟩, fun i x hx => E.kept (h2 i x hx) ⟨hk.1, fun k h3 h4 => hk.2 k h3 (fun h5 => h4 (.inr h5))⟩⟩
  rintro ⟨g, cap, cur, rfl, hg, hh, r⟩
  exact ⟨g, cap, cur, rfl, hg, (hk.2 g (Array.getElem?_eq_some_iff.1 hh).1 (hD g rfl)).trans hh, r⟩
end

/-- A version of the program. -/
structure Ver where
  id : Int
  vals : List GVal
  lo : Int
  hi : Int
  rlo : Int
  rhi : Int
theorem setCells6 (w : World) (g o : Nat) (c0 c1 c2 c3 c4 c5 : Value) : ((((((w.setCell ⟨g, o, none⟩ c0).setCell ⟨g, o + 1, none⟩ c1).setCell ⟨g, o + 2, none⟩ c2).setCell ⟨g, o + 3, none⟩ c3).setCell ⟨g, o + 4, none⟩ c4).setCell ⟨g, o + 5, none⟩ c5) = w.setCells g o [c0, c1, c2, c3, c4, c5] := rfl
end Go.Proofs.YtngigmpaabmngaaGreatDoor

namespace Go.Proofs.YtngigmpaabmngaaGreatDoor
open Go.RowKit Go.Lib Go.Sort

def Grew (w w' : World) : Prop := ∃ q os, w' = grow (w.drewN q) os
theorem Grew.refl (w : World) : Grew w w := ⟨0, #[], by simp [grow, World.drewN]⟩
theorem Grew.alloc {a w : World} (h : Grew a w) (o : Obj) : Grew a (w.alloc o) := by
  obtain ⟨q, os, rfl⟩ := h
  exact ⟨q, os ++ #[o], by rw [alloc_eq_grow, grow_grow]⟩
theorem Grew.drew {a w : World} (h : Grew a w) : Grew a w.drew := by
  obtain ⟨q, os, rfl⟩ := h
  exact ⟨q + 1, os, rfl⟩
theorem Grew.trans {a b c : World} (h : Grew a b) (k : Grew b c) : Grew a c := by
  obtain ⟨q, os, rfl⟩ := h
  obtain ⟨q2, os2, rfl⟩ := k
  exact ⟨q + q2, os ++ os2, by simp [grow, World.drewN, Nat.add_assoc]⟩
theorem Grew.below {w w' : World} (h : Grew w w') : Below w.heap.size w w' := by
  obtain ⟨q, os, rfl⟩ := h
  refine ⟨rfl, rfl, rfl, by simp [grow, World.drewN], fun k hk => ?_⟩
  show (w.heap ++ os)[k]? = _
  rw [Array.getElem?_append_left hk]
theorem grew_alloc2 (w : World) (o o2 : Obj) : Grew w ((w.alloc o).alloc o2) := ((Grew.refl w).alloc o).alloc o2
theorem grew_alloc_keep {w W : World} {o : Obj} (h : Grew w W) : Grew w (W.alloc o) := h.alloc o
theorem grew_alloc_drew {w W : World} {o : Obj} (h : Grew w W.drew) : Grew w (W.alloc o).drew := by
  obtain ⟨q, os, e⟩ := h
  refine ⟨q, os ++ #[o], ?_⟩
  have e2 : (W.alloc o).drew = W.drew.alloc o := rfl
  rw [e2, e, alloc_eq_grow, grow_grow]
theorem grew_keep {w W W' : World} (h : Grew w W) (hb : Grew W W') : Grew w W' := h.trans hb

set_option maxHeartbeats 4000000 in
set_option maxRecDepth 100000 in
theorem valCmp_g (a b : GVal) (w : World) : Calls Tryz.prog 104 #[aggG a, aggG b] w fun e w' => e = .returned (.int .i64 (cmpG a b)) ∧ Grew w w' := by
  have HC := Lib.hid (cmpG_or a b)
  obtain ⟨k1, n1, s1⟩ := a
  obtain ⟨k2, n2, s2⟩ := b
  obtain ⟨r1, hr1⟩ : ∃ r, r = cmpI k1 k2 := ⟨_, rfl⟩
  obtain ⟨r2, hr2⟩ : ∃ r, r = cmpI n1 n2 := ⟨_, rfl⟩
  obtain ⟨r3, hr3⟩ : ∃ r, r = Lib.compareBytes s1.data.toList s2.data.toList := ⟨_, rfl⟩
  have H1 := fun W => Lib.hid (cmpInt_any k1 k2 W)
  have H2 := fun W => Lib.hid (cmpI64_any n1 n2 W)
  have H3 := fun W => Lib.hid (cmpStr_any s1 s2 W)
  dsimp only at HC
  rw [← hr1, ← hr2, ← hr3] at HC
  rw [← hr1] at H1
  rw [← hr2] at H2
  rw [← hr3] at H3
  clear hr1 hr2 hr3
  unfold aggG
  dsimp only
  go_enter Tryz.func104, Tryz.ntmps104
  go_wp2_with fail
  have hB0 := grew_alloc2 w (.cells #[.int .i64 k1, .int .i64 n1, .string s1] 86) (.cells #[.int .i64 k2, .int .i64 n2, .string s2] 86)
  obtain ⟨c0, c1, c2⟩ := block_cells3 (heap_alloc_old' w (.cells #[.int .i64 k1, .int .i64 n1, .string s1] 86) (.cells #[.int .i64 k2, .int .i64 n2, .string s2] 86))
  obtain ⟨d0, d1, d2⟩ := block_cells3 (heap_alloc_new' w (.cells #[.int .i64 k1, .int .i64 n1, .string s1] 86) (.cells #[.int .i64 k2, .int .i64 n2, .string s2] 86))
  have hN : (((w.alloc (.cells #[.int .i64 k1, .int .i64 n1, .string s1] 86)).alloc (.cells #[.int .i64 k2, .int .i64 n2, .string s2] 86)).alloc (.cells #[.int .i64 r1, .int .i64 r2, .int .i64 r3] 3)).drew.heap[w.heap.size + 1 + 1]? = some (.cells #[.int .i64 r1, .int .i64 r2, .int .i64 r3] 3) := by
    have := heap_alloc_new ((w.alloc (.cells #[.int .i64 k1, .int .i64 n1, .string s1] 86)).alloc (.cells #[.int .i64 k2, .int .i64 n2, .string s2] 86)) (.cells #[.int .i64 r1, .int .i64 r2, .int .i64 r3] 3)
    simp only [World.size_alloc] at this
    exact this
  have HOR := Lib.hid (cmpOr_any _ [r1, r2, r3] _ (Sl.of_block (n := 3) (m := 3) hN (Els.cons (cs := [.int .i64 r1]) rfl (Els.cons (cs := [.int .i64 r2]) rfl (Els.one (cs := [.int .i64 r3]) rfl))) id rfl (by simp) (by simp)))
  rw [HC.out] at HOR
  clear hN
  go_region_held3 (fun W => Grew w W ∧ W.cell? ⟨w.heap.size, 0, none⟩ = some (.int .i64 k1) ∧ W.cell? ⟨w.heap.size, 1, none⟩ = some (.int .i64 n1) ∧ W.cell? ⟨w.heap.size, 2, none⟩ = some (.string s1)
      ∧ W.cell? ⟨w.heap.size + 1, 0, none⟩ = some (.int .i64 k2) ∧ W.cell? ⟨w.heap.size + 1, 1, none⟩ = some (.int .i64 n2) ∧ W.cell? ⟨w.heap.size + 1, 2, none⟩ = some (.string s2))
    ((go_split_ands; refine ⟨?_, ?_, ?_, ?_, ?_, ?_, ?_⟩ <;> first | (with_reducible assumption) | with_reducible exact Grew.drew (by assumption) | with_reducible exact cell_drew (by assumption) | with_reducible exact grew_alloc_keep (by assumption) | with_reducible exact cell_alloc (by assumption) | with_reducible exact grew_alloc_drew (by assumption) | with_reducible exact cell_alloc_drew (by assumption)))
    (first
      | (go_at_call 82; refine (H1 _).out.mono ?_; rintro e w' ⟨rfl, rfl⟩)
      | (go_at_call 134; refine (H2 _).out.mono ?_; rintro e w' ⟨rfl, rfl⟩)
      | (go_at_call 135; refine (H3 _).out.mono ?_; rintro e w' ⟨rfl, rfl⟩)
      | (go_at_call 85; refine HOR.out.mono ?_; rintro e w' ⟨rfl, rfl⟩))
  all_goals go_split_ands
  all_goals go_wp2_with fail
  all_goals go_ret
  all_goals exact ⟨rfl, by assumption⟩
end Go.Proofs.YtngigmpaabmngaaGreatDoor

namespace Go.Proofs.YtngigmpaabmngaaGreatDoor
open Go.RowKit Go.Lib Go.Sort

section
variable {P : Program} {α : Type}
/-- An element's cells, and what they are. -/
structure Cel (E : El P α) (w : World) (g : Nat) where
  cells : List Value
  val : α
  is : E.is w (fun k => some k = some g) val cells
variable {E : El P α} {w : World} {g : Nat}
theorem Cel.len (x : Cel E w g) : x.cells.length = E.size := E.len x.is
theorem Cel.one (x : Cel E w g) : ∀ v ∈ x.cells, v.oneCell' = true := E.one x.is
theorem cel_chop : ∀ (l : List α) (xs : List Value), xs.length = l.length * E.size → (∀ i x, l[i]? = some x → E.is w (fun k => some k = some g) x ((xs.drop (i * E.size)).take E.size)) → ∃ d : List (Cel E w g), d.map Cel.val = l ∧ d.flatMap Cel.cells = xs
  | [], xs, h, _ => ⟨[], rfl, by simp at h; simp [h]⟩
  | a :: l, xs, h, hi => by
    obtain ⟨d, h1, h2⟩ := cel_chop l (xs.drop E.size) (by rw [List.length_drop, h, List.length_cons, Nat.add_mul]; omega) (fun i x hx => by
      have := hi (i + 1) x (by simpa using hx)
      rw [Nat.add_mul, Nat.one_mul, Nat.add_comm, ← List.drop_drop] at this
      exact this)
    have h0 := hi 0 a rfl
    rw [Nat.zero_mul, List.drop_zero] at h0
    exact ⟨(⟨xs.take E.size, a, h0⟩ : Cel E w g) :: d, by rw [List.map_cons, h1], by rw [List.flatMap_cons, h2]; exact List.take_append_drop _ _⟩
theorem flat_chunk {β : Type} (f : β → List Value) (s : Nat) (hf : ∀ x, (f x).length = s) : ∀ (l : List β) (i : Nat) (x : β), l[i]? = some x → ((l.flatMap f).drop (i * s)).take s = f x
  | [], i, x, h => by simp at h
  | a :: l, 0, x, h => by
    simp at h
    subst h
    rw [List.flatMap_cons, Nat.zero_mul, List.drop_zero, List.take_append_of_le_length (by rw [hf]; exact Nat.le_refl _), List.take_of_length_le (by rw [hf]; exact Nat.le_refl _)]
  | a :: l, i + 1, x, h => by
    have e : (f a ++ l.flatMap f).drop s = l.flatMap f := by rw [← hf a, List.drop_left]
    rw [List.flatMap_cons, Nat.add_mul, Nat.one_mul, Nat.add_comm, ← List.drop_drop, e]
    exact flat_chunk f s hf l i x (by simpa using h)
theorem flatK_list [Inhabited (Cel E w g)] (d : Array (Cel E w g)) : flatK Cel.cells E.size d = (d.toList.flatMap Cel.cells).toArray := by
  have hl := flatMap_length (Cel.cells (E := E) (w := w) (g := g)) E.size Cel.len d.toList
  have hs : (d.toList.flatMap Cel.cells).toArray.size = d.size * E.size := by simpa using hl
  refine ext_get! (by rw [size_flatK, hs]) fun t ht => ?_
  rw [size_flatK] at ht
  rw [get_flatK _ _ _ _ ht]
  have hp := E.pos
  have hi : t / E.size < d.size := Nat.div_lt_of_lt_mul (by rw [Nat.mul_comm]; exact ht)
  have hj : t % E.size < E.size := Nat.mod_lt _ hp
  have hn : t / E.size * E.size + t % E.size = t := by rw [Nat.mul_comm]; exact Nat.div_add_mod t E.size
  have hc : t % E.size < (Cel.cells d[t / E.size]).length := by rw [Cel.len]; exact hj
  have h := flatMap_at Cel.cells E.size Cel.len d.toList (t / E.size) d[t / E.size] (t % E.size) _ (by simp [hi]) (List.getElem?_eq_getElem hc)
  rw [hn] at h
  have e1 : (Cel.cells d[t / E.size]!)[t % E.size]! = (Cel.cells d[t / E.size])[t % E.size] := by rw [getElem!_pos d (t / E.size) hi]; exact getElem!_pos (Cel.cells d[t / E.size]) (t % E.size) hc
  rw [e1, getElem!_pos (d.toList.flatMap Cel.cells).toArray t (by rw [hs]; exact ht)]
  obtain ⟨h1, h2⟩ := List.getElem?_eq_some_iff.1 h
  exact h2.symm
theorem cel_of_own {B n c : Nat} {l : List α} (h : Own E w B (.slice (some ⟨g, 0, none⟩) n c) l) (hn : l.length = n) :
    ∃ d : List (Cel E w g), d.map Cel.val = l ∧ w.ownsRow B E.ty E.size (.slice (some ⟨g, 0, none⟩) n c) n (d.flatMap Cel.cells) := by
  subst hn
  obtain ⟨xs, h1, h2⟩ := h
  obtain ⟨d, h3, h4⟩ := cel_chop (E := E) (w := w) (g := g) l xs h1.1 h2
  exact ⟨d, h3, by rw [h4]; exact h1⟩
theorem cel_holds [Inhabited (Cel E w g)] {B n c : Nat} {d : List (Cel E w g)} (h : w.ownsRow B E.ty E.size (.slice (some ⟨g, 0, none⟩) n c) n (d.flatMap Cel.cells)) : HoldsK Cel.cells E.size w g 0 d.toArray := by
  unfold HoldsK
  rw [flatK_list]
  intro j hj
  have hj' : j < (d.flatMap Cel.cells).length := by simpa using hj
  refine ⟨?_, h.frozenAt (0 + j)⟩
  rw [getElem!_pos (List.flatMap Cel.cells d.toArray.toList).toArray j hj]
  obtain ⟨_, _, a, c', e, _, h6⟩ := own_reads h
  have hpos : 0 < n := by
    rcases Nat.eq_zero_or_pos n with h0 | h0
    · subst h0
      have := h.1
      rw [Nat.zero_mul] at this
      omega
    · exact h0
  obtain ⟨b, o, rfl, h7⟩ := h6 hpos
  cases e
  have := h7 j _ (List.getElem?_eq_getElem hj')
  simpa using this
theorem setL_all (xs vs : List Value) (h : vs.length = xs.length) : setL xs 0 vs = vs := by
  refine List.ext_getElem? fun m => ?_
  rw [setL_get]
  by_cases hm : m < vs.length
  · rw [if_pos (by omega), Nat.sub_zero]
  · rw [if_neg (by omega), List.getElem?_eq_none (by omega), List.getElem?_eq_none (by omega)]
theorem cel_laid [Inhabited (Cel E w g)] {B n c : Nat} {d : List (Cel E w g)} (h : w.ownsRow B E.ty E.size (.slice (some ⟨g, 0, none⟩) n c) n (d.flatMap Cel.cells)) (hB : B ≤ g) (hn : d.length = n) (d' : Array (Cel E w g)) (hs : d'.size = n) (m : Nat) (os : Array Obj) :
    Own E (sortWorldK Cel.cells E.size w g 0 m d' os) B (.slice (some ⟨g, 0, none⟩) n c) (d'.toList.map Cel.val) ∧ Kept (fun k => some k = some g) w (sortWorldK Cel.cells E.size w g 0 m d' os) ∧ RowKit.Below B w (sortWorldK Cel.cells E.size w g 0 m d' os) := by
  have hl := flatMap_length (Cel.cells (E := E) (w := w) (g := g)) E.size Cel.len d'.toList
  have hl0 := flatMap_length (Cel.cells (E := E) (w := w) (g := g)) E.size Cel.len d
  have hlt : d'.toList.length = n := by simpa using hs
  have hA : HoldsK Cel.cells E.size (Sort.ahead w m) g 0 d.toArray := holdsK_ahead _ _ w m g 0 _ (cel_holds h)
  have hW0 : putRowK Cel.cells E.size (Sort.ahead w m) g 0 d' = (Sort.ahead w m).setCells g 0 (d'.toList.flatMap Cel.cells) := by
    have e1 := putRowK_self _ _ (Sort.ahead w m) g 0 d.toArray hA
    unfold putRowK at e1
    have e2 := setCells_putRow (Sort.ahead w m) g 0 (d'.toList.flatMap Cel.cells) 0 (flatK Cel.cells E.size d.toArray) (by rw [size_flatK, hl, hlt]; simp [hn])
    rw [e1] at e2
    rw [show (0 : Nat) + 0 = 0 from rfl] at e2
    rw [e2]
    unfold putRowK
    congr 1
    refine ext_get! (by rw [size_flatK, size_setMany, size_flatK]; simp [hn, hs]) fun t ht => ?_
    rw [size_flatK, hs] at ht
    have ht' : t < (d'.toList.flatMap Cel.cells).length := by rw [hl, hlt]; exact ht
    rw [get_setMany _ _ _ _ (by rw [size_flatK]; simp only [List.size_toArray, hn]; exact ht), if_pos ⟨Nat.zero_le _, by omega⟩, Nat.sub_zero, flatK_list, getElem!_pos (d'.toList.flatMap Cel.cells).toArray t (by simpa using ht'), getElem!_pos (d'.toList.flatMap Cel.cells) t ht']
    rfl
  have hD : RowKit.Below w.heap.size w (Sort.ahead w m) := ⟨rfl, rfl, rfl, Nat.le_refl _, fun _ _ => rfl⟩
  obtain ⟨h3, h4⟩ := owns_setCells (d'.toList.flatMap Cel.cells) (Sort.ahead w m) (d.flatMap Cel.cells) 0 (own_below h hD)
  rw [setL_all _ _ (by rw [hl, hl0, hlt, hn])] at h3
  have hK0 : Kept (fun k => some k = some g) w ((Sort.ahead w m).setCells g 0 (d'.toList.flatMap Cel.cells)) := ⟨h4.size, fun k hk hne => h4.block k hk hne⟩
  have hG : RowKit.Below ((Sort.ahead w m).setCells g 0 (d'.toList.flatMap Cel.cells)).heap.size ((Sort.ahead w m).setCells g 0 (d'.toList.flatMap Cel.cells)) (sortWorldK Cel.cells E.size w g 0 m d' os) := by
    unfold sortWorldK
    rw [hW0]
    exact Grew.below ⟨0, os, rfl⟩
  have hO : Own E ((Sort.ahead w m).setCells g 0 (d'.toList.flatMap Cel.cells)) B (.slice (some ⟨g, 0, none⟩) n c) (d'.toList.map Cel.val) := by
    refine ⟨d'.toList.flatMap Cel.cells, by rw [List.length_map, hlt]; exact h3, fun i x hx => ?_⟩
    rw [List.getElem?_map] at hx
    cases hy : d'.toList[i]? with
    | none => rw [hy] at hx; cases hx
    | some y =>
      rw [hy] at hx
      cases hx
      rw [flat_chunk Cel.cells E.size Cel.len _ _ _ hy]
      exact E.kept y.is hK0
  have hlt2 := h.lt g rfl
  refine ⟨hO.below hG, ⟨Nat.le_trans hK0.1 hG.size, fun k hk hne => (hG.block k (Nat.lt_of_lt_of_le hk hK0.1)).trans (hK0.2 k hk hne)⟩, ?_⟩
  refine (RowKit.Below.refl B w).trans ?_
  refine ⟨hG.os.trans h4.os, hG.tape.trans h4.tape, hG.output.trans h4.output, Nat.le_trans hK0.1 hG.size, fun k hk => ?_⟩
  have hkw : k < w.heap.size := by omega
  exact (hG.block k (Nat.lt_of_lt_of_le hkw hK0.1)).trans (hK0.2 k hkw (fun e => by cases e; omega))
theorem Own.shape_lt {B : Nat} {v : Value} {l : List α} (h : Own E w B v l) (hp : 0 < l.length) : ∃ g c, v = .slice (some ⟨g, 0, none⟩) l.length c := by
  obtain ⟨xs, h1, _⟩ := h
  rcases h1.2 with ⟨_, h⟩ | ⟨g, cap, cur, e, _⟩
  · omega
  · exact ⟨g, cap, e⟩
theorem own_sorted {B n c F : Nat} {args : Array Value} {l : List α} (cf : α → α → Int) (h : Own E w B (.slice (some ⟨g, 0, none⟩) n c) l) (hn : l.length = n) (hpos : 0 < n)
    (call : ∀ [Inhabited (Cel E w g)] (d : Array (Cel E w g)), d.size = n → HoldsK Cel.cells E.size w g 0 d → (∀ m os (dk : Array (Cel E w g)), dk.size = n → Kept (fun k => some k = some g) w (sortWorldK Cel.cells E.size w g 0 m dk os)) →
      Calls P F args w fun e w' => e = .returned (.tuple #[]) ∧ ∃ d' nn os, PermIn 0 d.size d d' ∧ SortedIn (ltOf fun x y : Cel E w g => cf x.val y.val) 0 d.size d' ∧ w' = sortWorldK Cel.cells E.size w g 0 nn d' os) :
    Calls P F args w fun e w' => e = .returned (.tuple #[]) ∧ ∃ l' : List α, l'.Perm l ∧ l'.Pairwise (fun x y => ¬ cf y x < 0) ∧ Own E w' B (.slice (some ⟨g, 0, none⟩) n c) l' ∧ Kept (fun k => some k = some g) w w' ∧ RowKit.Below B w w' := by
  obtain ⟨d, hd, hown⟩ := cel_of_own h hn
  have hdl : d.length = n := by rw [← hn, ← hd, List.length_map]
  have hB : B ≤ g := (h.lt g rfl).1
  obtain ⟨x0, d0, rfl⟩ : ∃ x0 d0, d = x0 :: d0 := by
    cases d with
    | nil => simp at hdl; omega
    | cons x0 d0 => exact ⟨x0, d0, rfl⟩
  haveI : Inhabited (Cel E w g) := ⟨x0⟩
  refine (call (x0 :: d0).toArray (by simpa using hdl) (cel_holds hown) (fun m os dk hdk => (cel_laid hown hB hdl dk hdk m os).2.1)).mono ?_
  rintro e w' ⟨rfl, d', nn, os, hp, hs, rfl⟩
  have hsz : d'.size = n := by rw [hp.1]; simpa using hdl
  obtain ⟨h1, h2, h3⟩ := cel_laid hown hB hdl d' hsz nn os
  refine ⟨rfl, d'.toList.map Cel.val, ?_, ?_, h1, h2, h3⟩
  · rw [← hd]
    refine List.Perm.map _ ?_
    have := hp.2.2
    rw [show ((x0 :: d0).toArray.extract 0 (x0 :: d0).toArray.size) = (x0 :: d0).toArray by simp, show d'.extract 0 (x0 :: d0).toArray.size = d' by rw [← hp.1]; simp] at this
    simpa using this
  · rw [List.pairwise_map, List.pairwise_iff_getElem]
    intro i j hi hj hij
    have hi' : i < d'.size := by simpa using hi
    have hj' : j < d'.size := by simpa using hj
    have := hs i j (Nat.zero_le _) hij (by rw [← hp.1]; exact hj')
    rw [getElem!_pos d' j hj', getElem!_pos d' i hi'] at this
    unfold ltOf at this
    simpa using this
end
end Go.Proofs.YtngigmpaabmngaaGreatDoor

namespace Go.Proofs.YtngigmpaabmngaaGreatDoor
open Go.RowKit Go.Lib

def cmpRows : List GVal → List GVal → Int
  | [], [] => 0
  | [], _ :: _ => -1
  | _ :: _, [] => 1
  | a :: l, b :: m => if cmpG a b = 0 then cmpRows l m else cmpG a b

set_option maxHeartbeats 2000000 in
set_option maxRecDepth 100000 in
theorem cmpRows_any (v u : Value) (l m : List GVal) (w : World) (hv : Reads w 3 v l.length (valCells l)) (hu : Reads w 3 u m.length (valCells m)) :
    Calls Tryz.prog 26 #[v, u] w fun e w' => e = .returned (.int .i64 (cmpRows l m)) ∧ Below w.heap.size w w' := by
  obtain ⟨_, h63, a, c, rfl, hc, hp⟩ := hv
  obtain ⟨_, g63, a2, c2, rfl, hc2, hp2⟩ := hu
  have HP := Lib.hid hp
  have HP2 := Lib.hid hp2
  clear hp hp2
  obtain ⟨n, hn⟩ : ∃ n, n = l.length := ⟨_, rfl⟩
  obtain ⟨n2, hn2⟩ : ∃ n, n = m.length := ⟨_, rfl⟩
  have HN := Lib.hid hn
  have HN2 := Lib.hid hn2
  rw [← hn] at h63 hc HP ⊢
  rw [← hn2] at g63 hc2 HP2 ⊢
  clear hn hn2
  go_enter Tryz.func26, Tryz.ntmps26
  go_wp2_with fail
  go_loopw [5] (fun i wr => ∃ k : Nat, k ≤ n ∧ k ≤ n2 ∧ i = .int .i64 k ∧ Hid (cmpRows (l.drop k) (m.drop k) = cmpRows l m) ∧ Below w.heap.size w wr) (fun i _ => n - (intOf i).toNat)
  case atStart => exact ⟨0, Nat.zero_le _, Nat.zero_le _, rfl, Lib.hid rfl, Below.refl _ _⟩
  case round =>
    obtain ⟨k, hk, hk2, rfl, HR, hB⟩ := hrel
    have HB := Lib.hid hB
    clear hB
    by_cases hlt : k < n ∧ k < n2
    · obtain ⟨hlt1, hlt2⟩ := hlt
      obtain ⟨x, hx⟩ := lget_some l k (by rw [← HN.out]; exact hlt1)
      obtain ⟨y, hy⟩ := lget_some m k (by rw [← HN2.out]; exact hlt2)
      obtain ⟨b, o, ha, hcl⟩ := HP.out (by omega)
      obtain ⟨b2, o2, ha2, hcl2⟩ := HP2.out (by omega)
      subst ha ha2
      obtain ⟨x0, x1, x2⟩ := valCells_at l k x hx
      obtain ⟨y0, y1, y2⟩ := valCells_at m k y hy
      have W : ∀ {p : Addr} {u : Value}, w.cell? p = some u → wr.cell? p = some u := fun h => (HB.out.cell (World.block_lt_of_cell? w _ h)).trans h
      have a0 : wr.cell? ⟨b, o + k * 3, none⟩ = some (.int .i64 x.kind) := W (hcl _ _ x0)
      have a1 : wr.cell? ⟨b, o + k * 3 + 1, none⟩ = some (.int .i64 x.n) := W (hcl _ _ x1)
      have a2 : wr.cell? ⟨b, o + k * 3 + 2, none⟩ = some (.string x.s) := W (hcl _ _ x2)
      have b0 : wr.cell? ⟨b2, o2 + k * 3, none⟩ = some (.int .i64 y.kind) := W (hcl2 _ _ y0)
      have b1 : wr.cell? ⟨b2, o2 + k * 3 + 1, none⟩ = some (.int .i64 y.n) := W (hcl2 _ _ y1)
      have b2' : wr.cell? ⟨b2, o2 + k * 3 + 2, none⟩ = some (.string y.s) := W (hcl2 _ _ y2)
      have HS : Hid (cmpRows (l.drop k) (m.drop k) = if cmpG x y = 0 then cmpRows (l.drop (k + 1)) (m.drop (k + 1)) else cmpG x y) := by rw [drop_get hx, drop_get hy]; exact Lib.hid rfl
      obtain ⟨r, hr⟩ : ∃ r, r = cmpG x y := ⟨_, rfl⟩
      have HRR := Lib.hid hr
      clear x0 x1 x2 y0 y1 y2 W hcl hcl2 hx hy hr
      rw [← HRR.out] at HS
      go_wp2_with fail
      go_region_with (go_at_call 63; refine (cmpG_any x y _).mono ?_; rw [← HRR.out]; rintro e w3 ⟨rfl, hb3⟩; have HB3 : Hid (Below w.heap.size w w3) := (by first | exact HB.out.trans (hb3.mono HB.out.size) | exact (below_drewN HB.out _).trans (hb3.mono HB.out.size)); clear hb3)
      all_goals
        by_cases hr0 : r = 0
        · subst hr0
          go_wp2_with fail
          go_roundw
          case rel => exact ⟨k + 1, by omega, by omega, by go_num, (by show _ = _; rw [← HR.out, HS.out, if_pos rfl]), HB3.out⟩
          case measure => simp [intOf]; omega
        · have hne : (r != 0) = true := by simpa using hr0
          go_wp2_with fail
          go_ret
          exact ⟨ret_int (by rw [← HR.out, HS.out, if_neg hr0]), HB3.out⟩
    · by_cases h1 : k < n
      · have hkn : k = n2 := by omega
        subst hkn
        have HS : Hid (cmpRows l m = 1) := by
          show _ = _
          obtain ⟨x, hx⟩ := lget_some l k (by rw [← HN.out]; exact h1)
          rw [← HR.out, drop_get hx, List.drop_of_length_le (l := m) (by rw [← HN2.out]; omega)]; rfl
        go_wp2_with fail
        go_ret
        exact ⟨ret_int (by rw [HS.out]), HB.out⟩
      · have hkn : k = n := by omega
        subst hkn
        by_cases h2 : k < n2
        · have HS : Hid (cmpRows l m = -1) := by
            show _ = _
            obtain ⟨y, hy⟩ := lget_some m k (by rw [← HN2.out]; exact h2)
            rw [← HR.out, drop_get hy, List.drop_of_length_le (l := l) (by rw [← HN.out]; omega)]; rfl
          go_wp2_with fail
          go_ret
          exact ⟨ret_int (by rw [HS.out]), HB.out⟩
        · have hkn2 : n2 = k := by omega
          subst hkn2
          have HS : Hid (cmpRows l m = 0) := by
            show _ = _
            rw [← HR.out, List.drop_of_length_le (l := l) (by rw [← HN.out]; omega), List.drop_of_length_le (l := m) (by rw [← HN2.out]; omega)]; rfl
          go_wp2_with fail
          go_ret
          exact ⟨ret_int (by rw [HS.out]), HB.out⟩
end Go.Proofs.YtngigmpaabmngaaGreatDoor

namespace Go.Proofs.YtngigmpaabmngaaGreatDoor
open Go.RowKit

theorem gv_at3 {w : World} {G : Nat → Prop} {a : Option Addr} {n c k : Nat} {l : List GVal} {x : GVal} (h : Sl valE w G (.slice a n c) l) (hk : l[k]? = some x) :
    ∃ b o, a = some ⟨b, o, none⟩ ∧ w.cell? ⟨b, o + k * 3, none⟩ = some (.int .i64 x.kind) ∧ w.cell? ⟨b, o + k * 3 + 1, none⟩ = some (.int .i64 x.n) ∧ w.cell? ⟨b, o + k * 3 + 2, none⟩ = some (.string x.s) := by
  obtain ⟨b, o, cs, ha, rfl, hc⟩ := Sl.at h hk
  exact ⟨b, o, ha, hc 0 _ rfl, hc 1 _ rfl, hc 2 _ rfl⟩
set_option maxHeartbeats 4000000 in
set_option maxRecDepth 100000 in
theorem cmpFunc_any (v u : Value) (l m : List GVal) (w : World) (hv : Sl valE w free v l) (hu : Sl valE w free u m) :
    Calls Tryz.prog 103 #[v, u, .func (.func 104) #[] #[]] w fun e w' => e = .returned (.int .i64 (cmpRows l m)) ∧ Below w.heap.size w w' := by
  obtain ⟨a1, c1, rfl⟩ := hv.shape
  obtain ⟨a2, c2, rfl⟩ := hu.shape
  have h63 := hv.1
  have g63 := hu.1
  have HV := Lib.hid hv
  have HU := Lib.hid hu
  obtain ⟨n, hn⟩ : ∃ n, n = l.length := ⟨_, rfl⟩
  obtain ⟨n2, hn2⟩ : ∃ n, n = m.length := ⟨_, rfl⟩
  have HN := Lib.hid hn
  have HN2 := Lib.hid hn2
  rw [← hn] at HV h63 ⊢
  rw [← hn2] at HU g63 ⊢
  clear hv hu hn hn2
  go_enter Tryz.func103, Tryz.ntmps103
  go_wp2_with fail
  go_loopw [13] (fun i wr => ∃ k : Nat, k ≤ n ∧ k ≤ n2 ∧ i = .int .i64 (k : Int) ∧ Hid (cmpRows (l.drop k) (m.drop k) = cmpRows l m) ∧ Hid (Below w.heap.size w wr)) (fun i _ => n - (intOf i).toNat)
  case atStart => exact ⟨0, Nat.zero_le _, Nat.zero_le _, rfl, Lib.hid rfl, Lib.hid (Below.refl _ _)⟩
  case round =>
    obtain ⟨k, hk, hk2, rfl, HR, HB⟩ := hrel
    obtain ⟨wo, rfl⟩ : ∃ wo : World, wo = wr := ⟨_, rfl⟩
    by_cases hlt : k < n
    · obtain ⟨x, hx⟩ := lget_some l k (by rw [← HN.out]; exact hlt)
      obtain ⟨b, o, rfl, p0, p1, p2⟩ := gv_at3 (HV.out.below HB.out) hx
      by_cases hlt2 : k < n2
      · obtain ⟨y, hy⟩ := lget_some m k (by rw [← HN2.out]; exact hlt2)
        obtain ⟨b2, o2, rfl, q0, q1, q2⟩ := gv_at3 (HU.out.below HB.out) hy
        have lb2 : b2 < wo.heap.size := World.block_lt_of_cell? wo _ q0
        have lb : b < wo.heap.size := World.block_lt_of_cell? wo _ p0
        have HS : Hid (cmpRows (l.drop k) (m.drop k) = if cmpG x y = 0 then cmpRows (l.drop (k + 1)) (m.drop (k + 1)) else cmpG x y) := by rw [drop_get hx, drop_get hy]; exact Lib.hid rfl
        obtain ⟨r, hr⟩ : ∃ r, r = cmpG x y := ⟨_, rfl⟩
        have HC := Lib.hid (fun W => valCmp_any x y W)
        rw [← hr] at HS HC
        clear hx hy hr
        obtain ⟨xk, xn, xs⟩ := x
        obtain ⟨yk, yn, ys⟩ := y
        unfold aggG at HC
        dsimp only at HC p0 p1 p2 q0 q1 q2
        go_wp2_with fail
        refine (HC.out _).mono ?_
        rintro e w3 ⟨rfl, hb3⟩
        have HB3 := Lib.hid (below_keep (below_alloc_keep (below_alloc_keep HB.out)) hb3)
        clear hb3
        by_cases hr0 : r = 0
        · subst hr0
          have HR' : Hid (cmpRows (l.drop (k + 1)) (m.drop (k + 1)) = cmpRows l m) := by show _ = _; rw [← HR.out, HS.out, if_pos rfl]
          go_wp2_with fail
          go_roundw
          case rel => exact ⟨k + 1, by omega, by omega, by go_num, HR', HB3⟩
          case measure => simp [intOf]; omega
        · have HR' : Hid (cmpRows l m = r) := by show _ = _; rw [← HR.out, HS.out, if_neg hr0]
          have hne : (r != 0) = true := by simpa using hr0
          clear hr0
          go_wp2_with fail
          go_ret
          exact ⟨ret_int HR'.out.symm, HB3.out⟩
      · have hkn : k = n2 := by omega
        subst hkn
        have HS : Hid (cmpRows l m = 1) := by
          show _ = _
          rw [← HR.out, drop_get hx, List.drop_of_length_le (l := m) (by rw [← HN2.out]; exact Nat.le_refl _)]; rfl
        clear hx
        obtain ⟨xk, xn, xs⟩ := x
        dsimp only at p0 p1 p2
        go_wp2_with fail
        go_ret
        exact ⟨ret_int HS.out.symm, below_alloc_keep HB.out⟩
    · have hkn : k = n := by omega
      subst hkn
      by_cases h2 : k < n2
      · have HS : Hid (cmpRows l m = -1) := by
          show _ = _
          obtain ⟨y, hy⟩ := lget_some m k (by rw [← HN2.out]; exact h2)
          rw [← HR.out, drop_get hy, List.drop_of_length_le (l := l) (by rw [← HN.out]; exact Nat.le_refl _)]; rfl
        go_wp2_with fail
        go_ret
        exact ⟨ret_int HS.out.symm, HB.out⟩
      · have hkn2 : n2 = k := by omega
        subst hkn2
        have HS : Hid (cmpRows l m = 0) := by
          show _ = _
          rw [← HR.out, List.drop_of_length_le (l := l) (by rw [← HN.out]; exact Nat.le_refl _), List.drop_of_length_le (l := m) (by rw [← HN2.out]; exact Nat.le_refl _)]; rfl
        go_wp2_with fail
        go_ret
        exact ⟨ret_int HS.out.symm, HB.out⟩
set_option maxHeartbeats 1000000 in
theorem valRows_any (v u : Value) (l m : List GVal) (w : World) (hv : Sl valE w free v l) (hu : Sl valE w free u m) :
    Calls Tryz.prog 62 #[v, u] w fun e w' => e = .returned (.int .i64 (cmpRows l m)) ∧ Below w.heap.size w w' := by
  have HC := Lib.hid (cmpFunc_any v u l m w hv hu)
  clear hv hu
  go_enter Tryz.func62, Tryz.ntmps62
  go_wp2_with fail
  refine HC.out.mono ?_
  rintro e w1 ⟨rfl, hb1⟩
  have HB1 := Lib.hid hb1
  clear hb1
  go_wp2_with fail
  go_ret
  exact ⟨rfl, HB1.out⟩
end Go.Proofs.YtngigmpaabmngaaGreatDoor

namespace Go.Proofs.YtngigmpaabmngaaGreatDoor
open Go.RowKit Go.Sort

set_option maxHeartbeats 4000000 in
set_option maxRecDepth 100000 in
theorem cmpFunc_g (v u : Value) (l m : List GVal) (w : World) (hv : Sl valE w free v l) (hu : Sl valE w free u m) :
    Calls Tryz.prog 103 #[v, u, .func (.func 104) #[] #[]] w fun e w' => e = .returned (.int .i64 (cmpRows l m)) ∧ Grew w w' := by
  obtain ⟨a1, c1, rfl⟩ := hv.shape
  obtain ⟨a2, c2, rfl⟩ := hu.shape
  have h63 := hv.1
  have g63 := hu.1
  have HV := Lib.hid hv
  have HU := Lib.hid hu
  obtain ⟨n, hn⟩ : ∃ n, n = l.length := ⟨_, rfl⟩
  obtain ⟨n2, hn2⟩ : ∃ n, n = m.length := ⟨_, rfl⟩
  have HN := Lib.hid hn
  have HN2 := Lib.hid hn2
  rw [← hn] at HV h63 ⊢
  rw [← hn2] at HU g63 ⊢
  clear hv hu hn hn2
  go_enter Tryz.func103, Tryz.ntmps103
  go_wp2_with fail
  go_loopw [13] (fun i wr => ∃ k : Nat, k ≤ n ∧ k ≤ n2 ∧ i = .int .i64 (k : Int) ∧ Hid (cmpRows (l.drop k) (m.drop k) = cmpRows l m) ∧ Hid (Grew w wr)) (fun i _ => n - (intOf i).toNat)
  case atStart => exact ⟨0, Nat.zero_le _, Nat.zero_le _, rfl, Lib.hid rfl, Lib.hid (Grew.refl _)⟩
  case round =>
    obtain ⟨k, hk, hk2, rfl, HR, HB⟩ := hrel
    obtain ⟨wo, rfl⟩ : ∃ wo : World, wo = wr := ⟨_, rfl⟩
    by_cases hlt : k < n
    · obtain ⟨x, hx⟩ := lget_some l k (by rw [← HN.out]; exact hlt)
      obtain ⟨b, o, rfl, p0, p1, p2⟩ := gv_at3 (HV.out.below HB.out.below) hx
      by_cases hlt2 : k < n2
      · obtain ⟨y, hy⟩ := lget_some m k (by rw [← HN2.out]; exact hlt2)
        obtain ⟨b2, o2, rfl, q0, q1, q2⟩ := gv_at3 (HU.out.below HB.out.below) hy
        have lb2 : b2 < wo.heap.size := World.block_lt_of_cell? wo _ q0
        have lb : b < wo.heap.size := World.block_lt_of_cell? wo _ p0
        have HS : Hid (cmpRows (l.drop k) (m.drop k) = if cmpG x y = 0 then cmpRows (l.drop (k + 1)) (m.drop (k + 1)) else cmpG x y) := by rw [drop_get hx, drop_get hy]; exact Lib.hid rfl
        obtain ⟨r, hr⟩ : ∃ r, r = cmpG x y := ⟨_, rfl⟩
        have HC := Lib.hid (fun W => valCmp_g x y W)
        rw [← hr] at HS HC
        clear hx hy hr
        obtain ⟨xk, xn, xs⟩ := x
        obtain ⟨yk, yn, ys⟩ := y
        unfold aggG at HC
        dsimp only at HC p0 p1 p2 q0 q1 q2
        go_wp2_with fail
        refine (HC.out _).mono ?_
        rintro e w3 ⟨rfl, hb3⟩
        have HB3 := Lib.hid (grew_keep (grew_alloc_keep (grew_alloc_keep HB.out)) hb3)
        clear hb3
        by_cases hr0 : r = 0
        · subst hr0
          have HR' : Hid (cmpRows (l.drop (k + 1)) (m.drop (k + 1)) = cmpRows l m) := by show _ = _; rw [← HR.out, HS.out, if_pos rfl]
          go_wp2_with fail
          go_roundw
          case rel => exact ⟨k + 1, by omega, by omega, by go_num, HR', HB3⟩
          case measure => simp [intOf]; omega
        · have HR' : Hid (cmpRows l m = r) := by show _ = _; rw [← HR.out, HS.out, if_neg hr0]
          have hne : (r != 0) = true := by simpa using hr0
          clear hr0
          go_wp2_with fail
          go_ret
          exact ⟨ret_int HR'.out.symm, HB3.out⟩
      · have hkn : k = n2 := by omega
        subst hkn
        have HS : Hid (cmpRows l m = 1) := by
          show _ = _
          rw [← HR.out, drop_get hx, List.drop_of_length_le (l := m) (by rw [← HN2.out]; exact Nat.le_refl _)]; rfl
        clear hx
        obtain ⟨xk, xn, xs⟩ := x
        dsimp only at p0 p1 p2
        go_wp2_with fail
        go_ret
        exact ⟨ret_int HS.out.symm, grew_alloc_keep HB.out⟩
    · have hkn : k = n := by omega
      subst hkn
      by_cases h2 : k < n2
      · have HS : Hid (cmpRows l m = -1) := by
          show _ = _
          obtain ⟨y, hy⟩ := lget_some m k (by rw [← HN2.out]; exact h2)
          rw [← HR.out, drop_get hy, List.drop_of_length_le (l := l) (by rw [← HN.out]; exact Nat.le_refl _)]; rfl
        go_wp2_with fail
        go_ret
        exact ⟨ret_int HS.out.symm, HB.out⟩
      · have hkn2 : n2 = k := by omega
        subst hkn2
        have HS : Hid (cmpRows l m = 0) := by
          show _ = _
          rw [← HR.out, List.drop_of_length_le (l := l) (by rw [← HN.out]; exact Nat.le_refl _), List.drop_of_length_le (l := m) (by rw [← HN2.out]; exact Nat.le_refl _)]; rfl
        go_wp2_with fail
        go_ret
        exact ⟨ret_int HS.out.symm, HB.out⟩
set_option maxHeartbeats 1000000 in
theorem valRows_g (v u : Value) (l m : List GVal) (w : World) (hv : Sl valE w free v l) (hu : Sl valE w free u m) :
    Calls Tryz.prog 62 #[v, u] w fun e w' => e = .returned (.int .i64 (cmpRows l m)) ∧ Grew w w' := by
  have HC := Lib.hid (cmpFunc_g v u l m w hv hu)
  clear hv hu
  go_enter Tryz.func62, Tryz.ntmps62
  go_wp2_with fail
  refine HC.out.mono ?_
  rintro e w1 ⟨rfl, hb1⟩
  have HB1 := Lib.hid hb1
  clear hb1
  go_wp2_with fail
  go_ret
  exact ⟨rfl, HB1.out⟩
end Go.Proofs.YtngigmpaabmngaaGreatDoor

namespace Go.Proofs.YtngigmpaabmngaaGreatDoor
open Go.RowKit Go.Lib Go.Shelf

/-- A short row and a short lineage. -/
def small (t : Tup) : Bool := decide (t.vals.length ≤ 6) && decide (t.lin.length ≤ 6)
def few (l : List Tup) (m : Nat) : Bool := decide (l.length ≤ m) && l.all small

set_option maxHeartbeats 2000000 in
set_option maxRecDepth 100000 in
theorem few_any (v : Value) (l : List Tup) (m : Nat) (hm : m ≤ 1000) (w : World) (h : Tups w v l) :
    Calls Tryz.prog 44 #[v, .int .i64 m] w fun e w' => e = .returned (.bool (few l m)) ∧ w' = w := by
  obtain ⟨h63, a, c, rfl, hc, hp⟩ := h
  have HP := Lib.hid hp
  clear hp
  obtain ⟨n, hn⟩ : ∃ n, n = l.length := ⟨_, rfl⟩
  have HN := Lib.hid hn
  rw [← hn] at h63 hc HP ⊢
  clear hn
  go_enter Tryz.func44, Tryz.ntmps44
  go_wp2_with fail
  go_loopw [5] (fun i wr => ∃ k : Nat, k ≤ n ∧ k ≤ m + 1 ∧ i = .int .i64 k ∧ (∀ x ∈ l.take k, small x = true) ∧ wr = w) (fun i _ => n - (intOf i).toNat)
  case atStart => exact ⟨0, Nat.zero_le _, Nat.zero_le _, rfl, by simp, rfl⟩
  case round =>
    obtain ⟨k, hk, hkm, rfl, hall, rfl⟩ := hrel
    have HALL := Lib.hid hall
    clear hall
    by_cases hlt : k < n ∧ k ≤ m
    · obtain ⟨hlt1, hlt2⟩ := hlt
      obtain ⟨x, hx⟩ := lget_some l k (by rw [← HN.out]; exact hlt1)
      obtain ⟨b, o, ha, _, hcl⟩ := HP.out (by omega)
      obtain ⟨cs, ⟨v1, v2, hcs, hv1, hv2⟩, hcell⟩ := hcl k x hx
      subst ha
      have a0 : wr.cell? ⟨b, o + k * 4 + 0, none⟩ = some v1 := hcell 0 v1 (by rw [hcs]; rfl)
      have a3 : wr.cell? ⟨b, o + k * 4 + 3, none⟩ = some v2 := hcell 3 v2 (by rw [hcs]; rfl)
      rw [Nat.add_zero] at a0
      obtain ⟨b1, c1, rfl⟩ := hv1.shape
      obtain ⟨b2, c2, rfl⟩ := hv2.shape
      have g1 := hv1.1
      have g2 := hv2.1
      have HX := Lib.hid hx
      clear hx hcl hcs hv1 hv2 hcell
      by_cases hs1 : x.vals.length ≤ 6
      · by_cases hs2 : x.lin.length ≤ 6
        · go_wp2_with fail
          go_roundw
          case rel =>
            refine ⟨k + 1, by omega, by omega, by go_num, ?_, by first | rfl | trivial⟩
            rw [take_get HX.out]; intro y hy
            rcases List.mem_append.1 hy with h | h
            · exact HALL.out y h
            · simp at h; subst h; simp [small, hs1, hs2]
          case measure => simp [intOf]; omega
        · have hff : few l m = false := by
            have h1 : small x = false := by simp [small]; omega
            rw [few, Bool.and_eq_false_iff]; right
            exact List.all_eq_false.2 ⟨x, List.mem_of_getElem? HX.out, by rw [h1]; simp⟩
          have HFF := Lib.hid hff
          clear hff
          go_wp2_with fail
          go_ret
          exact ⟨by rw [HFF.out]; rfl, rfl⟩
      · have hff : few l m = false := by
          have h1 : small x = false := by simp [small]; omega
          rw [few, Bool.and_eq_false_iff]; right
          exact List.all_eq_false.2 ⟨x, List.mem_of_getElem? HX.out, by rw [h1]; simp⟩
        have HFF := Lib.hid hff
        clear hff
        go_wp2_with fail
        go_ret
        exact ⟨by rw [HFF.out]; rfl, rfl⟩
    · have hff : few l m = decide (n ≤ m) := by
        rw [few, ← HN.out]
        by_cases hnm : n ≤ m
        · have : k = n := by omega
          subst this
          have h2 : l.all small = true := by rw [List.all_eq_true]; intro y hy; exact HALL.out y (by rw [List.take_of_length_le (by rw [← HN.out]; omega)]; exact hy)
          rw [h2]; simp
        · simp [hnm]
      have HFF := Lib.hid hff
      clear hff
      by_cases hk3 : k < n
      · have hkd : decide ((k : Int) ≤ (m : Int)) = false := by simp; omega
        go_wp2_with fail
        go_ret
        exact ⟨by rw [HFF.out]; rfl, rfl⟩
      · go_wp2_with fail
        go_ret
        exact ⟨by rw [HFF.out]; rfl, rfl⟩
end Go.Proofs.YtngigmpaabmngaaGreatDoor

namespace Go.Proofs.YtngigmpaabmngaaGreatDoor
open Go.RowKit Go.Lib Go.Shelf

def cmpInts : List Int → List Int → Int
  | [], [] => 0
  | [], _ :: _ => -1
  | _ :: _, [] => 1
  | a :: l, b :: m => if a < b then -1 else if b < a then 1 else cmpInts l m

set_option maxHeartbeats 2000000 in
set_option maxRecDepth 100000 in
theorem cmpInts_any (v u : Value) (l m : List Int) (w : World) (hv : Reads w 1 v l.length (numCells l)) (hu : Reads w 1 u m.length (numCells m)) :
    Calls Tryz.prog 28 #[v, u] w fun e w' => e = .returned (.int .i64 (cmpInts l m)) ∧ Below w.heap.size w w' := by
  obtain ⟨_, h63, a, c, rfl, hc, hp⟩ := hv
  obtain ⟨_, g63, a2, c2, rfl, hc2, hp2⟩ := hu
  have HP := Lib.hid hp
  have HP2 := Lib.hid hp2
  clear hp hp2
  obtain ⟨n, hn⟩ : ∃ n, n = l.length := ⟨_, rfl⟩
  obtain ⟨n2, hn2⟩ : ∃ n, n = m.length := ⟨_, rfl⟩
  have HN := Lib.hid hn
  have HN2 := Lib.hid hn2
  rw [← hn] at h63 hc HP ⊢
  rw [← hn2] at g63 hc2 HP2 ⊢
  clear hn hn2
  go_enter Tryz.func28, Tryz.ntmps28
  go_wp2_with fail
  go_loopw [5] (fun i wr => ∃ k : Nat, k ≤ n ∧ k ≤ n2 ∧ i = .int .i64 k ∧ Hid (cmpInts (l.drop k) (m.drop k) = cmpInts l m) ∧ ∃ q, wr = w.drewN q) (fun i _ => n - (intOf i).toNat)
  case atStart => exact ⟨0, Nat.zero_le _, Nat.zero_le _, rfl, Lib.hid rfl, 0, rfl⟩
  case round =>
    obtain ⟨k, hk, hk2, rfl, HR, q, rfl⟩ := hrel
    have HB : Hid (Below w.heap.size w (w.drewN q)) := below_drewN (Below.refl _ _) _
    by_cases hlt : k < n ∧ k < n2
    · obtain ⟨hlt1, hlt2⟩ := hlt
      obtain ⟨x, hx⟩ := lget_some l k (by rw [← HN.out]; exact hlt1)
      obtain ⟨y, hy⟩ := lget_some m k (by rw [← HN2.out]; exact hlt2)
      obtain ⟨b, o, ha, hcl⟩ := HP.out (by omega)
      obtain ⟨b2, o2, ha2, hcl2⟩ := HP2.out (by omega)
      subst ha ha2
      have a0 : w.cell? ⟨b, o + k, none⟩ = some (.int .i64 x) := hcl _ _ (numCells_at l k x hx)
      have b0 : w.cell? ⟨b2, o2 + k, none⟩ = some (.int .i64 y) := hcl2 _ _ (numCells_at m k y hy)
      have HS : Hid (cmpInts (l.drop k) (m.drop k) = if x < y then -1 else if y < x then 1 else cmpInts (l.drop (k + 1)) (m.drop (k + 1))) := by rw [drop_get hx, drop_get hy]; exact Lib.hid rfl
      clear hcl hcl2 hx hy
      by_cases h1 : x < y
      · go_wp2_with fail
        go_quiet (fail)
        go_wp2_with fail
        go_ret
        exact ⟨ret_int (by rw [← HR.out, HS.out, if_pos h1]), below_drewN HB.out _⟩
      · by_cases h2 : y < x
        · go_wp2_with fail
          go_quiet (fail)
          go_wp2_with fail
          go_quiet (fail)
          go_wp2_with fail
          go_ret
          exact ⟨ret_int (by rw [← HR.out, HS.out, if_neg (by omega), if_pos h2]), below_drewN (below_drewN HB.out _) _⟩
        · go_wp2_with fail
          go_quiet (fail)
          go_wp2_with fail
          go_quiet (fail)
          go_wp2_with fail
          go_roundw
          case rel => exact ⟨k + 1, by omega, by omega, by go_num, (by show _ = _; rw [← HR.out, HS.out, if_neg (by omega), if_neg (by omega)]), _, rfl⟩
          case measure => simp [intOf]; omega
    · by_cases h1 : k < n
      · have hkn : k = n2 := by omega
        subst hkn
        have HS : Hid (cmpInts l m = 1) := by
          show _ = _
          obtain ⟨x, hx⟩ := lget_some l k (by rw [← HN.out]; exact h1)
          rw [← HR.out, drop_get hx, List.drop_of_length_le (l := m) (by rw [← HN2.out]; omega)]; rfl
        go_wp2_with fail
        go_ret
        exact ⟨ret_int (by rw [HS.out]), HB.out⟩
      · have hkn : k = n := by omega
        subst hkn
        by_cases h2 : k < n2
        · have HS : Hid (cmpInts l m = -1) := by
            show _ = _
            obtain ⟨y, hy⟩ := lget_some m k (by rw [← HN2.out]; exact h2)
            rw [← HR.out, drop_get hy, List.drop_of_length_le (l := l) (by rw [← HN.out]; omega)]; rfl
          go_wp2_with fail
          go_ret
          exact ⟨ret_int (by rw [HS.out]), HB.out⟩
        · have hkn2 : n2 = k := by omega
          subst hkn2
          have HS : Hid (cmpInts l m = 0) := by
            show _ = _
            rw [← HR.out, List.drop_of_length_le (l := l) (by rw [← HN.out]; omega), List.drop_of_length_le (l := m) (by rw [← HN2.out]; omega)]; rfl
          go_wp2_with fail
          go_ret
          exact ⟨ret_int (by rw [HS.out]), HB.out⟩
end Go.Proofs.YtngigmpaabmngaaGreatDoor

namespace Go.Proofs.YtngigmpaabmngaaGreatDoor
open Go.RowKit Go.Lib Go.Shelf

set_option maxHeartbeats 1000000 in
theorem refRow_any (v u : Value) (lo hi : Int) (w : World) (a b : Option Addr) (n c m d : Nat) (hv : v = .slice a n c) (hu : u = .slice b m d) :
    Calls Tryz.prog 39 #[.agg #[v, .int .i64 lo, .int .i64 hi, u]] w fun e w' => e = .returned (.agg #[v, u]) ∧ Below w.heap.size w w' := by
  subst hv hu
  go_enter Tryz.func39, Tryz.ntmps39
  go_wp2
  refine bodyPost_ret (v := .agg #[.slice a n c, .slice b m d]) ?_ rfl ⟨rfl, below_alloc_two w _ _⟩
  simp [results, Tryz.results39, go_sem]


def sameRowL (l l2 : List GVal) (m m2 : List Int) : Bool := decide (cmpRows l l2 = 0) && decide (cmpInts m m2 = 0)
set_option maxHeartbeats 2000000 in
theorem sameRow_any (v u v2 u2 : Value) (l l2 : List GVal) (m m2 : List Int) (w : World) (hv : Reads w 3 v l.length (valCells l)) (hu : Reads w 1 u m.length (numCells m)) (hv2 : Reads w 3 v2 l2.length (valCells l2)) (hu2 : Reads w 1 u2 m2.length (numCells m2)) :
    Calls Tryz.prog 38 #[.agg #[v, u], .agg #[v2, u2]] w fun e w' => e = .returned (.bool (sameRowL l l2 m m2)) ∧ Below w.heap.size w w' := by
  obtain ⟨a, c, rfl⟩ := reads_shape hv
  obtain ⟨b, d, rfl⟩ := reads_shape hu
  obtain ⟨a2, c2, rfl⟩ := reads_shape hv2
  obtain ⟨b2, d2, rfl⟩ := reads_shape hu2
  have HV := Lib.hid hv
  have HU := Lib.hid hu
  have HV2 := Lib.hid hv2
  have HU2 := Lib.hid hu2
  clear hv hu hv2 hu2
  obtain ⟨r, hr⟩ : ∃ r, r = cmpRows l l2 := ⟨_, rfl⟩
  obtain ⟨r2, hr2⟩ : ∃ r, r = cmpInts m m2 := ⟨_, rfl⟩
  have HR : Hid (sameRowL l l2 m m2 = (decide (r = 0) && decide (r2 = 0))) := by show _ = _; rw [hr, hr2]; rfl
  have HR1 := Lib.hid hr
  have HR2 := Lib.hid hr2
  clear hr hr2
  go_enter Tryz.func38, Tryz.ntmps38
  go_wp2_with fail
  have hb1 : Below w.heap.size w ((w.alloc (.cells #[.slice a l.length c, .slice b m.length d] 39)).alloc (.cells #[.slice a2 l2.length c2, .slice b2 m2.length d2] 39)) := below_alloc_two w _ _
  refine (cmpRows_any _ _ l l2 _ (HV.out.below hb1) (HV2.out.below hb1)).mono ?_
  rw [← HR1.out]
  rintro e w1 ⟨rfl, hb2⟩
  obtain ⟨x0, x1, x2, x3⟩ := box_two (box_kept (heap_alloc_old' w _ _) hb2)
  obtain ⟨y0, y1, y2, y3⟩ := box_two (box_kept (heap_alloc_new' w _ _) hb2)
  have HB : Hid (Below w.heap.size w w1) := hb1.trans (hb2.mono hb1.size)
  clear hb1 hb2
  by_cases h0 : r = 0
  · subst h0
    go_wp2_with fail
    refine (cmpInts_any _ _ m m2 _ (HU.out.below HB.out) (HU2.out.below HB.out)).mono ?_
    rw [← HR2.out]
    rintro e w2 ⟨rfl, hb3⟩
    have HB3 : Hid (Below w.heap.size w w2) := HB.out.trans (hb3.mono HB.out.size)
    clear hb3
    go_wp2_with fail
    go_ret
    exact ⟨ret_bool (by rw [HR.out]; by_cases h2 : r2 = 0 <;> simp [h2]), HB3.out⟩
  · have hne : (r == 0) = false := by simpa using h0
    go_wp2_with fail
    go_ret
    exact ⟨ret_bool (by rw [HR.out]; simp [h0]), HB.out⟩
end Go.Proofs.YtngigmpaabmngaaGreatDoor

namespace Go.Proofs.YtngigmpaabmngaaGreatDoor
open Go.RowKit Go.Lib Go.Sort

/-- A row. -/
structure GRow where
  vals : List GVal
  lin : List Int
theorem row_info : (Tryz.prog.info? 39).map (fun i => (i.zero, i.size, i.bytes)) = some (some (.agg #[.slice none 0 0, .slice none 0 0]), 2, 48) := by kernel_rfl
/-- Rows. -/
def rowE : El Tryz.prog GRow where
  ty := 39
  size := 2
  bytes := 48
  pos := by decide
  info := info_mk row_info rfl
  is := fun w G t cs => ∃ v u, cs = [v, u] ∧ Sl valE w G v t.vals ∧ Sl intE w G u t.lin
  len := by rintro w G t cs ⟨v, u, rfl, _⟩; rfl
  one := by
    rintro w G t cs ⟨v, u, rfl, h1, h2⟩ x hx
    simp at hx
    rcases hx with rfl | rfl
    · exact h1.one
    · exact h2.one
  mono := by rintro w G G' t cs ⟨v, u, rfl, h1, h2⟩ hm; exact ⟨v, u, rfl, h1.mono hm, h2.mono hm⟩
  kept := by rintro w w' G t cs ⟨v, u, rfl, h1, h2⟩ hk; exact ⟨v, u, rfl, h1.kept hk, h2.kept hk⟩
theorem rows_at {w : World} {G : Nat → Prop} {a : Option Addr} {n c k : Nat} {l : List GRow} {x : GRow} (h : Sl rowE w G (.slice a n c) l) (hk : l[k]? = some x) :
    ∃ b o a1 n1 e1 m1, a = some ⟨b, o, none⟩ ∧ Sl valE w G (.slice a1 x.vals.length n1) x.vals ∧ Sl intE w G (.slice e1 x.lin.length m1) x.lin ∧
      w.cell? ⟨b, o + k * 2, none⟩ = some (.slice a1 x.vals.length n1) ∧ w.cell? ⟨b, o + k * 2 + 1, none⟩ = some (.slice e1 x.lin.length m1) := by
  obtain ⟨b, o, cs, ha, ⟨v, u, rfl, hv, hu⟩, hc⟩ := Sl.at h hk
  obtain ⟨a1, n1, rfl⟩ := hv.shape
  obtain ⟨e1, m1, rfl⟩ := hu.shape
  exact ⟨b, o, a1, n1, e1, m1, ha, hv, hu, hc 0 _ rfl, hc 1 _ rfl⟩
/-- The order of rows. -/
def cmpRow (a b : GRow) : Int := if cmpRows a.vals b.vals = 0 then cmpInts a.lin b.lin else cmpRows a.vals b.vals
theorem cmpInts_cons (x y : Int) (l m : List Int) : cmpInts (x :: l) (y :: m) = if cmpI x y = 0 then cmpInts l m else cmpI x y := by
  rw [cmpInts]
  unfold cmpI
  by_cases h1 : x < y
  · rw [if_pos h1, if_neg (by omega), if_pos h1]
  · by_cases h2 : y < x
    · rw [if_neg h1, if_neg h1, if_pos h2, if_pos h2, if_neg (by omega)]
    · rw [if_neg h1, if_neg h1, if_neg h2, if_neg h2, if_pos rfl]
set_option maxHeartbeats 4000000 in
set_option maxRecDepth 100000 in
theorem slCmp_any (v u : Value) (l m : List Int) (w : World) (hv : Sl intE w free v l) (hu : Sl intE w free u m) :
    Calls Tryz.prog 126 #[v, u] w fun e w' => e = .returned (.int .i64 (cmpInts l m)) ∧ w = w' := by
  obtain ⟨a1, c1, rfl⟩ := hv.shape
  obtain ⟨a2, c2, rfl⟩ := hu.shape
  have h63 := hv.1
  have g63 := hu.1
  have HV := Lib.hid hv
  have HU := Lib.hid hu
  obtain ⟨n, hn⟩ : ∃ n, n = l.length := ⟨_, rfl⟩
  obtain ⟨n2, hn2⟩ : ∃ n, n = m.length := ⟨_, rfl⟩
  have HN := Lib.hid hn
  have HN2 := Lib.hid hn2
  rw [← hn] at HV h63 ⊢
  rw [← hn2] at HU g63 ⊢
  clear hv hu hn hn2
  go_enter Tryz.func126, Tryz.ntmps126
  go_wp2_with fail
  go_loop [11] (fun i => ∃ k : Nat, k ≤ n ∧ k ≤ n2 ∧ i = .int .i64 (k : Int) ∧ Hid (cmpInts (l.drop k) (m.drop k) = cmpInts l m)) (fun i => n - (RowKit.intOf i).toNat)
  case atStart => exact ⟨0, Nat.zero_le _, Nat.zero_le _, rfl, Lib.hid rfl⟩
  case round =>
    obtain ⟨k, hk, hk2, rfl, HR⟩ := hrel
    by_cases hlt : k < n
    · obtain ⟨x, hx⟩ := lget_some l k (by rw [← HN.out]; exact hlt)
      obtain ⟨b, o, rfl, p0⟩ := ints_at' HV.out hx
      by_cases hlt2 : k < n2
      · obtain ⟨y, hy⟩ := lget_some m k (by rw [← HN2.out]; exact hlt2)
        obtain ⟨b2, o2, rfl, q0⟩ := ints_at' HU.out hy
        have HS : Hid (cmpInts (l.drop k) (m.drop k) = if cmpI x y = 0 then cmpInts (l.drop (k + 1)) (m.drop (k + 1)) else cmpI x y) := by rw [drop_get hx, drop_get hy]; exact Lib.hid (cmpInts_cons _ _ _ _)
        obtain ⟨r, hr⟩ : ∃ r, r = cmpI x y := ⟨_, rfl⟩
        have HC := Lib.hid (fun W => cmpInt_any x y W)
        rw [← hr] at HS HC
        clear hx hy hr
        go_wp2_with fail
        refine (HC.out _).mono ?_
        rintro e w3 ⟨rfl, rfl⟩
        by_cases hr0 : r = 0
        · subst hr0
          have HR' : Hid (cmpInts (l.drop (k + 1)) (m.drop (k + 1)) = cmpInts l m) := by show _ = _; rw [← HR.out, HS.out, if_pos rfl]
          go_wp2_with fail
          go_round
          case rel => exact ⟨k + 1, by omega, by omega, by go_num, HR'⟩
          case measure => simp [RowKit.intOf]; omega
        · have HR' : Hid (cmpInts l m = r) := by show _ = _; rw [← HR.out, HS.out, if_neg hr0]
          have hne : (r != 0) = true := by simpa using hr0
          clear hr0
          go_wp2_with fail
          go_ret
          exact ⟨ret_int HR'.out.symm, rfl⟩
      · have hkn : k = n2 := by omega
        subst hkn
        have HS : Hid (cmpInts l m = 1) := by
          show _ = _
          rw [← HR.out, drop_get hx, List.drop_of_length_le (l := m) (by rw [← HN2.out]; exact Nat.le_refl _)]; rfl
        clear hx
        go_wp2_with fail
        go_ret
        exact ⟨ret_int HS.out.symm, rfl⟩
    · have hkn : k = n := by omega
      subst hkn
      by_cases h2 : k < n2
      · have HS : Hid (cmpInts l m = -1) := by
          show _ = _
          obtain ⟨y, hy⟩ := lget_some m k (by rw [← HN2.out]; exact h2)
          rw [← HR.out, drop_get hy, List.drop_of_length_le (l := l) (by rw [← HN.out]; exact Nat.le_refl _)]; rfl
        go_wp2_with fail
        go_ret
        exact ⟨ret_int HS.out.symm, rfl⟩
      · have hkn2 : n2 = k := by omega
        subst hkn2
        have HS : Hid (cmpInts l m = 0) := by
          show _ = _
          rw [← HR.out, List.drop_of_length_le (l := l) (by rw [← HN.out]; exact Nat.le_refl _), List.drop_of_length_le (l := m) (by rw [← HN2.out]; exact Nat.le_refl _)]; rfl
        go_wp2_with fail
        go_ret
        exact ⟨ret_int HS.out.symm, rfl⟩
theorem cell_grew {W W' : World} {p : Addr} {v : Value} (h : Grew W W') (hc : W.cell? p = some v) : W'.cell? p = some v := cell_keep h.below hc
set_option maxHeartbeats 4000000 in
set_option maxRecDepth 100000 in
theorem bagCmp_g (a b : GRow) (v u v2 u2 : Value) (w : World) (hv : Sl valE w free v a.vals) (hu : Sl intE w free u a.lin) (hv2 : Sl valE w free v2 b.vals) (hu2 : Sl intE w free u2 b.lin) :
    Calls Tryz.prog 86 #[.agg #[v, u], .agg #[v2, u2]] w fun e w' => e = .returned (.int .i64 (cmpRow a b)) ∧ Grew w w' := by
  obtain ⟨r1, hr1⟩ : ∃ r, r = cmpRows a.vals b.vals := ⟨_, rfl⟩
  obtain ⟨r2, hr2⟩ : ∃ r, r = cmpInts a.lin b.lin := ⟨_, rfl⟩
  have CR : ∀ W, Grew w W → Hid (Calls Tryz.prog 62 #[v, v2] W fun e w' => e = .returned (.int .i64 r1) ∧ Grew W w') := fun W h => hr1 ▸ valRows_g v v2 a.vals b.vals W (hv.below h.below) (hv2.below h.below)
  have CI : ∀ W, Grew w W → Hid (Calls Tryz.prog 126 #[u, u2] W fun e w' => e = .returned (.int .i64 r2) ∧ W = w') := fun W h => hr2 ▸ slCmp_any u u2 a.lin b.lin W (hu.below h.below) (hu2.below h.below)
  have HR : Hid (orL [r1, r2] = cmpRow a b) := by
    show _ = _
    unfold cmpRow orL orL orL
    rw [← hr1, ← hr2]
    by_cases h1 : r1 = 0
    · rw [if_pos h1, if_pos h1]; split <;> simp_all
    · rw [if_neg h1, if_neg h1]
  have COR : ∀ W : World, Hid (Calls Tryz.prog 85 #[.slice (some ⟨W.heap.size, 0, none⟩) 2 2] (W.alloc (.cells #[.int .i64 r1, .int .i64 r2] 3)).drew fun e w' => e = .returned (.int .i64 (cmpRow a b)) ∧ (W.alloc (.cells #[.int .i64 r1, .int .i64 r2] 3)).drew = w') := fun W => by
    have := cmpOr_any (.slice (some ⟨W.heap.size, 0, none⟩) 2 2) [r1, r2] (W.alloc (.cells #[.int .i64 r1, .int .i64 r2] 3)).drew (Sl.of_block (n := 2) (m := 2) (show (W.alloc (.cells #[.int .i64 r1, .int .i64 r2] 3)).drew.heap[W.heap.size]? = some (.cells #[.int .i64 r1, .int .i64 r2] 3) from World.alloc_heap_new W _) (Els.cons (cs := [.int .i64 r1]) rfl (Els.one (cs := [.int .i64 r2]) rfl)) id rfl (by simp) (by simp))
    rw [HR.out] at this
    exact Lib.hid this
  have CORn : ∀ W : World, Hid (Calls Tryz.prog 85 #[.slice (some ⟨W.heap.size, 0, none⟩) 2 2] (W.alloc (.cells #[.int .i64 r1, .int .i64 r2] 3)) fun e w' => e = .returned (.int .i64 (cmpRow a b)) ∧ (W.alloc (.cells #[.int .i64 r1, .int .i64 r2] 3)) = w') := fun W => by
    have := cmpOr_any (.slice (some ⟨W.heap.size, 0, none⟩) 2 2) [r1, r2] (W.alloc (.cells #[.int .i64 r1, .int .i64 r2] 3)) (Sl.of_block (n := 2) (m := 2) (World.alloc_heap_new W _) (Els.cons (cs := [.int .i64 r1]) rfl (Els.one (cs := [.int .i64 r2]) rfl)) id rfl (by simp) (by simp))
    rw [HR.out] at this
    exact Lib.hid this
  obtain ⟨a1, c1, rfl⟩ := hv.shape
  obtain ⟨a2, c2, rfl⟩ := hu.shape
  obtain ⟨a3, c3, rfl⟩ := hv2.shape
  obtain ⟨a4, c4, rfl⟩ := hu2.shape
  generalize a.vals.length = n1 at CR ⊢
  generalize a.lin.length = n2 at CI ⊢
  generalize b.vals.length = n3 at CR ⊢
  generalize b.lin.length = n4 at CI ⊢
  obtain ⟨z, hz⟩ : ∃ z, z = cmpRow a b := ⟨_, rfl⟩
  rw [← hz] at COR CORn ⊢
  clear hv hu hv2 hu2 hr1 hr2 HR hz
  go_enter Tryz.func86, Tryz.ntmps86
  go_wp2_with fail
  have hB0 := grew_alloc2 w (.cells #[.slice a1 n1 c1, .slice a2 n2 c2] 39) (.cells #[.slice a3 n3 c3, .slice a4 n4 c4] 39)
  obtain ⟨d0, d1, _, _⟩ := box_two (heap_alloc_old' w (.cells #[.slice a1 n1 c1, .slice a2 n2 c2] 39) (.cells #[.slice a3 n3 c3, .slice a4 n4 c4] 39))
  obtain ⟨e0, e1, _, _⟩ := box_two (heap_alloc_new' w (.cells #[.slice a1 n1 c1, .slice a2 n2 c2] 39) (.cells #[.slice a3 n3 c3, .slice a4 n4 c4] 39))
  go_region_held3 (fun W => Grew w W ∧ W.cell? ⟨w.heap.size, 0, none⟩ = some (.slice a1 n1 c1) ∧ W.cell? ⟨w.heap.size, 1, none⟩ = some (.slice a2 n2 c2) ∧ W.cell? ⟨w.heap.size + 1, 0, none⟩ = some (.slice a3 n3 c3) ∧ W.cell? ⟨w.heap.size + 1, 1, none⟩ = some (.slice a4 n4 c4))
    ((go_split_ands; refine ⟨?_, ?_, ?_, ?_, ?_⟩ <;> first | (with_reducible assumption) | with_reducible exact Grew.drew (by assumption) | with_reducible exact cell_drew (by assumption) | with_reducible exact grew_keep (by assumption) (by assumption) | with_reducible exact cell_grew (by assumption) (by assumption) | with_reducible exact grew_alloc_keep (by assumption) | with_reducible exact cell_alloc (by assumption) | with_reducible exact grew_alloc_drew (by assumption) | with_reducible exact cell_alloc_drew (by assumption)))
    (first
      | (go_at_call 62; go_split_ands; refine (CR _ (by first | assumption | exact Grew.drew (by assumption))).out.mono ?_; rintro e' wR ⟨rfl, hgR⟩)
      | (go_at_call 126; go_split_ands; refine (CI _ (by first | assumption | exact Grew.drew (by assumption))).out.mono ?_; rintro e' wI ⟨rfl, rfl⟩)
      | (go_at_call 85; first | (with_reducible refine (COR _).out.mono ?_) | (with_reducible refine (CORn _).out.mono ?_); rintro e' wO ⟨rfl, rfl⟩))
  all_goals go_split_ands
  all_goals go_wp2_with fail
  all_goals go_ret
  all_goals exact ⟨rfl, by assumption⟩
end Go.Proofs.YtngigmpaabmngaaGreatDoor

namespace Go.Proofs.YtngigmpaabmngaaGreatDoor
open Go.RowKit

/-- Three signs as those of three comparisons in a row. -/
def Sgn3 (x y z : Int) : Prop := (x = -1 ∨ x = 0 ∨ x = 1) ∧ (y = -1 ∨ y = 0 ∨ y = 1) ∧ (z = -1 ∨ z = 0 ∨ z = 1) ∧ (x = 0 → z = y) ∧ (y = 0 → z = x) ∧ (x = -1 → y = -1 → z = -1)
def or2 (x y : Int) : Int := if x = 0 then y else x
theorem Sgn3.or {x y z x' y' z' : Int} (h : Sgn3 x y z) (h' : Sgn3 x' y' z') : Sgn3 (or2 x x') (or2 y y') (or2 z z') := by
  unfold Sgn3 at *
  unfold or2
  obtain ⟨h1, h2, h3, h4, h5, h6⟩ := h
  obtain ⟨k1, k2, k3, k4, k5, k6⟩ := h'
  refine ⟨?_, ?_, ?_, ?_, ?_, ?_⟩ <;> (repeat' split) <;> omega
theorem sgn_int (a b c : Int) : Sgn3 (cmpI a b) (cmpI b c) (cmpI a c) := by
  unfold Sgn3 cmpI
  refine ⟨?_, ?_, ?_, ?_, ?_, ?_⟩ <;> (split <;> (try split) <;> (try split) <;> (try split) <;> (try split) <;> (try split) <;> omega)
theorem cb_swap (a b : List UInt8) : Lib.compareBytes b a = - Lib.compareBytes a b := by
  induction a generalizing b with
  | nil => cases b <;> simp [Lib.compareBytes]
  | cons x a ih =>
    cases b with
    | nil => simp [Lib.compareBytes]
    | cons y b =>
      rw [Lib.compareBytes, Lib.compareBytes, ih b]
      by_cases h1 : x < y
      · have h2 : ¬ y < x := fun h => absurd (UInt8.lt_trans h1 h) (UInt8.lt_irrefl _)
        simp [h1, h2]
      · by_cases h2 : y < x
        · simp [h1, h2]
        · simp [h1, h2]
theorem sgn_bytes (a b c : List UInt8) : Sgn3 (Lib.compareBytes a b) (Lib.compareBytes b c) (Lib.compareBytes a c) := by
  induction a generalizing b c with
  | nil =>
    cases b with
    | nil => cases c <;> simp [Lib.compareBytes, Sgn3]
    | cons y b =>
      cases c with
      | nil => simp [Lib.compareBytes, Sgn3]
      | cons z c =>
        have := (bytesLess_cmp (y :: b) (z :: c)).2.2
        have h1 : Lib.compareBytes [] (y :: b) = -1 := by simp [Lib.compareBytes]
        have h2 : Lib.compareBytes [] (z :: c) = -1 := by simp [Lib.compareBytes]
        rw [h1, h2]
        unfold Sgn3
        omega
  | cons x a ih =>
    cases b with
    | nil =>
      cases c with
      | nil => simp [Lib.compareBytes, Sgn3]
      | cons z c =>
        have := (bytesLess_cmp (x :: a) (z :: c)).2.2
        have h1 : Lib.compareBytes (x :: a) [] = 1 := by simp [Lib.compareBytes]
        have h2 : Lib.compareBytes [] (z :: c) = -1 := by simp [Lib.compareBytes]
        rw [h1, h2]
        unfold Sgn3
        omega
    | cons y b =>
      cases c with
      | nil =>
        have := (bytesLess_cmp (x :: a) (y :: b)).2.2
        have h1 : Lib.compareBytes (x :: a) [] = 1 := by simp [Lib.compareBytes]
        have h2 : Lib.compareBytes (y :: b) [] = 1 := by simp [Lib.compareBytes]
        rw [h1, h2]
        unfold Sgn3
        omega
      | cons z c =>
        have hi := ih b c
        have e : ∀ (p q : UInt8) (l m : List UInt8), Lib.compareBytes (p :: l) (q :: m) = or2 (cmpI p.toNat q.toNat) (Lib.compareBytes l m) := by
          intro p q l m
          rw [Lib.compareBytes, or2, cmpI]
          by_cases h1 : p < q
          · have h1' : (p.toNat : Int) < (q.toNat : Int) := by have := UInt8.lt_iff_toNat_lt.1 h1; omega
            simp [h1, h1']
          · by_cases h2 : q < p
            · have h2' : (q.toNat : Int) < (p.toNat : Int) := by have := UInt8.lt_iff_toNat_lt.1 h2; omega
              have h1' : ¬ (p.toNat : Int) < (q.toNat : Int) := by omega
              simp [h1, h2, h1', h2']
            · have h1' : ¬ (p.toNat : Int) < (q.toNat : Int) := by have := mt UInt8.lt_iff_toNat_lt.2 h1; omega
              have h2' : ¬ (q.toNat : Int) < (p.toNat : Int) := by have := mt UInt8.lt_iff_toNat_lt.2 h2; omega
              simp [h1, h2, h1', h2']
        rw [e, e, e]
        exact (sgn_int _ _ _).or hi
theorem cmpG_or2 (a b : GVal) : cmpG a b = or2 (cmpI a.kind b.kind) (or2 (cmpI a.n b.n) (Lib.compareBytes a.s.data.toList b.s.data.toList)) := by
  rw [← cmpG_or]
  simp only [orL, or2]
  split
  · split
    · split
      · rename_i h; rw [h]
      · rfl
    · rfl
  · rfl
theorem sgn_val (a b c : GVal) : Sgn3 (cmpG a b) (cmpG b c) (cmpG a c) := by
  rw [cmpG_or2, cmpG_or2, cmpG_or2]
  exact (sgn_int _ _ _).or ((sgn_int _ _ _).or (sgn_bytes _ _ _))
theorem cmpI_swap (a b : Int) : cmpI b a = - cmpI a b := by unfold cmpI; split <;> split <;> (try split) <;> omega
theorem cmpG_swap (a b : GVal) : cmpG b a = - cmpG a b := by
  rw [cmpG_or2, cmpG_or2, cmpI_swap a.kind b.kind, cmpI_swap a.n b.n, cb_swap a.s.data.toList b.s.data.toList]
  unfold or2
  split <;> split <;> (try split) <;> (try split) <;> omega
theorem cmpG_same (a b : GVal) : (cmpG a b == 0) = sameG a b := by
  have h := (sgn_val a b b).1
  unfold cmpG at *
  split at h
  · rename_i hl
    rw [if_pos hl]
    have : sameG a b = false := by
      cases hs : sameG a b with
      | false => rfl
      | true =>
        simp only [sameG, Bool.and_eq_true, beq_iff_eq] at hs
        simp only [lessG, hs.1.1, hs.1.2, hs.2] at hl
        simp [bytesLess_irrefl] at hl
    rw [this]; rfl
  · rename_i hl
    rw [if_neg hl]
    cases hs : sameG a b <;> simp
theorem bytes_mk_o (s : ByteArray) : (ByteArray.mk s.data.toList.toArray) = s := by
  obtain ⟨⟨l⟩⟩ := s; rfl
theorem gv_ext {a b : GVal} (h : sameG a b = true) : a = b := by
  obtain ⟨k1, n1, s1⟩ := a
  obtain ⟨k2, n2, s2⟩ := b
  simp only [sameG, Bool.and_eq_true, beq_iff_eq] at h
  obtain ⟨⟨rfl, rfl⟩, h3⟩ := h
  have : s1 = s2 := by
    rw [Lib.toList_data, Lib.toList_data] at h3
    rw [← bytes_mk_o s1, h3, bytes_mk_o]
  rw [this]
theorem cmpG_zero {a b : GVal} : cmpG a b = 0 ↔ a = b := by
  constructor
  · intro h
    refine gv_ext ?_
    rw [← cmpG_same, h]; rfl
  · rintro rfl
    have := cmpG_same a a
    rw [sameG_refl] at this
    simpa using this
theorem cmpRows_zero (l m : List GVal) : cmpRows l m = 0 ↔ l = m := by
  induction l generalizing m with
  | nil => cases m <;> simp [cmpRows]
  | cons a l ih =>
    cases m with
    | nil => simp [cmpRows]
    | cons b m =>
      rw [cmpRows]
      by_cases h : cmpG a b = 0
      · rw [if_pos h, ih]
        have := cmpG_zero.1 h
        simp [this]
      · rw [if_neg h]
        have h2 : ¬ a = b := fun e => h (cmpG_zero.2 e)
        simp [h, h2]
theorem cmpRows_swap (l m : List GVal) : cmpRows m l = - cmpRows l m := by
  induction l generalizing m with
  | nil => cases m <;> simp [cmpRows]
  | cons a l ih =>
    cases m with
    | nil => simp [cmpRows]
    | cons b m =>
      rw [cmpRows, cmpRows, cmpG_swap a b]
      by_cases h : cmpG a b = 0
      · rw [if_pos h, if_pos (by omega), ih]
      · rw [if_neg h, if_neg (by omega)]
theorem cmpRows_cons (x y : GVal) (l m : List GVal) : cmpRows (x :: l) (y :: m) = or2 (cmpG x y) (cmpRows l m) := by rw [cmpRows]; rfl
theorem cmpInts_or (x y : Int) (l m : List Int) : cmpInts (x :: l) (y :: m) = or2 (cmpI x y) (cmpInts l m) := by rw [cmpInts_cons]; rfl
theorem rows_three (l m : List GVal) : cmpRows l m = -1 ∨ cmpRows l m = 0 ∨ cmpRows l m = 1 := by
  induction l generalizing m with
  | nil => cases m <;> simp [cmpRows]
  | cons a l ih =>
    cases m with
    | nil => simp [cmpRows]
    | cons b m =>
      rw [cmpRows_cons]
      have h := (sgn_val a b b).1
      have h2 := ih m
      unfold or2
      split <;> omega
theorem ints_three (l m : List Int) : cmpInts l m = -1 ∨ cmpInts l m = 0 ∨ cmpInts l m = 1 := by
  induction l generalizing m with
  | nil => cases m <;> simp [cmpInts]
  | cons a l ih =>
    cases m with
    | nil => simp [cmpInts]
    | cons b m =>
      rw [cmpInts_or]
      have h := (sgn_int a b b).1
      have h2 := ih m
      unfold or2
      split <;> omega
theorem sgn_rows (l m n : List GVal) : Sgn3 (cmpRows l m) (cmpRows m n) (cmpRows l n) := by
  induction l generalizing m n with
  | nil =>
    cases m with
    | nil => cases n <;> simp [cmpRows, Sgn3]
    | cons b m =>
      cases n with
      | nil => simp [cmpRows, Sgn3]
      | cons c n =>
        show Sgn3 (-1) (cmpRows (b :: m) (c :: n)) (-1)
        have h := rows_three (b :: m) (c :: n)
        unfold Sgn3
        omega
  | cons a l ih =>
    cases m with
    | nil =>
      cases n with
      | nil => simp [cmpRows, Sgn3]
      | cons c n =>
        show Sgn3 1 (-1) (cmpRows (a :: l) (c :: n))
        have h := rows_three (a :: l) (c :: n)
        unfold Sgn3
        omega
    | cons b m =>
      cases n with
      | nil =>
        show Sgn3 (cmpRows (a :: l) (b :: m)) 1 1
        have h := rows_three (a :: l) (b :: m)
        unfold Sgn3
        omega
      | cons c n => rw [cmpRows_cons, cmpRows_cons, cmpRows_cons]; exact (sgn_val a b c).or (ih m n)
theorem sgn_ints (l m n : List Int) : Sgn3 (cmpInts l m) (cmpInts m n) (cmpInts l n) := by
  induction l generalizing m n with
  | nil =>
    cases m with
    | nil => cases n <;> simp [cmpInts, Sgn3]
    | cons b m =>
      cases n with
      | nil => simp [cmpInts, Sgn3]
      | cons c n =>
        show Sgn3 (-1) (cmpInts (b :: m) (c :: n)) (-1)
        have h := ints_three (b :: m) (c :: n)
        unfold Sgn3
        omega
  | cons a l ih =>
    cases m with
    | nil =>
      cases n with
      | nil => simp [cmpInts, Sgn3]
      | cons c n =>
        show Sgn3 1 (-1) (cmpInts (a :: l) (c :: n))
        have h := ints_three (a :: l) (c :: n)
        unfold Sgn3
        omega
    | cons b m =>
      cases n with
      | nil =>
        show Sgn3 (cmpInts (a :: l) (b :: m)) 1 1
        have h := ints_three (a :: l) (b :: m)
        unfold Sgn3
        omega
      | cons c n => rw [cmpInts_or, cmpInts_or, cmpInts_or]; exact (sgn_int a b c).or (ih m n)
theorem cmpI_zero {a b : Int} : cmpI a b = 0 ↔ a = b := by unfold cmpI; split <;> (try split) <;> omega
theorem cmpInts_zero (l m : List Int) : cmpInts l m = 0 ↔ l = m := by
  induction l generalizing m with
  | nil => cases m <;> simp [cmpInts]
  | cons a l ih =>
    cases m with
    | nil => simp [cmpInts]
    | cons b m =>
      rw [cmpInts_cons]
      by_cases h : cmpI a b = 0
      · rw [if_pos h, ih]
        have := cmpI_zero.1 h
        simp [this]
      · rw [if_neg h]
        have h2 : ¬ a = b := fun e => h (cmpI_zero.2 e)
        simp [h, h2]
theorem cmpInts_swap (l m : List Int) : cmpInts m l = - cmpInts l m := by
  induction l generalizing m with
  | nil => cases m <;> simp [cmpInts]
  | cons a l ih =>
    cases m with
    | nil => simp [cmpInts]
    | cons b m =>
      rw [cmpInts_cons, cmpInts_cons, cmpI_swap a b]
      by_cases h : cmpI a b = 0
      · rw [if_pos h, if_pos (by omega), ih]
      · rw [if_neg h, if_neg (by omega)]
theorem cmpRow_or (a b : GRow) : cmpRow a b = or2 (cmpRows a.vals b.vals) (cmpInts a.lin b.lin) := rfl
theorem sgn_row (a b c : GRow) : Sgn3 (cmpRow a b) (cmpRow b c) (cmpRow a c) := by
  rw [cmpRow_or, cmpRow_or, cmpRow_or]
  exact (sgn_rows _ _ _).or (sgn_ints _ _ _)
theorem cmpRow_zero {a b : GRow} : cmpRow a b = 0 ↔ a = b := by
  obtain ⟨v1, l1⟩ := a
  obtain ⟨v2, l2⟩ := b
  unfold cmpRow
  dsimp only
  by_cases h : cmpRows v1 v2 = 0
  · rw [if_pos h, cmpInts_zero, (cmpRows_zero _ _).1 h]
    simp
  · rw [if_neg h]
    have h2 : ¬ v1 = v2 := fun e => h ((cmpRows_zero _ _).2 e)
    simp [h, h2]
theorem cmpRow_swap (a b : GRow) : cmpRow b a = - cmpRow a b := by
  unfold cmpRow
  rw [cmpRows_swap a.vals b.vals, cmpInts_swap a.lin b.lin]
  by_cases h : cmpRows a.vals b.vals = 0
  · rw [if_pos h, if_pos (by omega)]
  · rw [if_neg h, if_neg (by omega)]
/-- Rows in order. -/
def sortR (l : List GRow) : List GRow := l.mergeSort fun a b => decide (cmpRow a b ≤ 0)
theorem sortR_perm (l : List GRow) : (sortR l).Perm l := List.mergeSort_perm _ _
theorem sortR_length (l : List GRow) : (sortR l).length = l.length := (sortR_perm l).length_eq
theorem sortR_pairwise (l : List GRow) : (sortR l).Pairwise fun a b => cmpRow a b ≤ 0 := by
  have h := List.pairwise_mergeSort (le := fun a b : GRow => decide (cmpRow a b ≤ 0)) (fun a b c h1 h2 => by
    have h := sgn_row a b c
    unfold Sgn3 at h
    simp only [decide_eq_true_eq] at *
    omega) (fun a b => by
    have h := cmpRow_swap a b
    simp only [Bool.or_eq_true, decide_eq_true_eq]
    omega) l
  exact h.imp (by intro a b h; simpa using h)
/-- What is in order is the rows in order. -/
theorem sortR_unique {l m : List GRow} (h : m.Perm l) (hp : m.Pairwise fun a b => ¬ cmpRow b a < 0) : m = sortR l := by
  refine List.Perm.eq_of_pairwise (le := fun a b => cmpRow a b ≤ 0) (fun a b _ _ h1 h2 => ?_) (hp.imp (by intro a b h; have := cmpRow_swap a b; omega)) (sortR_pairwise l) (h.trans (sortR_perm l).symm)
  have := cmpRow_swap a b
  exact cmpRow_zero.1 (by omega)
theorem sortR_congr {l m : List GRow} (h : l.Perm m) : sortR l = sortR m :=
  sortR_unique ((sortR_perm l).trans h) ((sortR_pairwise l).imp (by intro a b h; have := cmpRow_swap a b; omega))
end Go.Proofs.YtngigmpaabmngaaGreatDoor

namespace Go.Proofs.YtngigmpaabmngaaGreatDoor
open Go.Shelf
def sh_sortRows_ren : Go.Shelf.Ren := ⟨fun | 6 => 102 | 15 => 84 | 14 => 133 | 28 => 124 | 29 => 125 | 20 => 164 | 21 => 165 | 22 => 166 | 23 => 167 | 24 => 168 | 25 => 169 | 26 => 170 | 27 => 171 | 46 => 185 | 47 => 155 | 48 => 156 | 49 => 186 | 50 => 187 | 57 => 195 | n => n, fun | 22 => 35 | 24 => 39 | 25 => 116 | 3 => 3 | 39 => 92 | 0 => 0 | 53 => 157 | 55 => 159 | 4 => 4 | 46 => 151 | 45 => 150 | 50 => 60 | 5 => 5 | 9 => 9 | 66 => 180 | 70 => 184 | 76 => 207 | 77 => 208 | n => n, fun | n => n⟩
theorem sh_sortRows : Go.Proofs.SlLaysF0.n6 Tryz.prog sh_sortRows_ren := {
  mixed := by kernel_rfl
  f6 := ⟨Tryz.f102.name, by decide, Tryz.func102.trans (congrArg some (by kernel_rfl))⟩
  f14 := ⟨Tryz.f133.name, by decide, Tryz.func133.trans (congrArg some (by kernel_rfl))⟩
  f15 := Tryz.func84.trans (congrArg some (by kernel_rfl))
  f20 := ⟨Tryz.f164.name, by decide, Tryz.func164.trans (congrArg some (by kernel_rfl))⟩
  f21 := ⟨Tryz.f165.name, by decide, Tryz.func165.trans (congrArg some (by kernel_rfl))⟩
  f22 := ⟨Tryz.f166.name, by decide, Tryz.func166.trans (congrArg some (by kernel_rfl))⟩
  f23 := ⟨Tryz.f167.name, by decide, Tryz.func167.trans (congrArg some (by kernel_rfl))⟩
  f24 := ⟨Tryz.f168.name, by decide, Tryz.func168.trans (congrArg some (by kernel_rfl))⟩
  f25 := ⟨Tryz.f169.name, by decide, Tryz.func169.trans (congrArg some (by kernel_rfl))⟩
  f26 := ⟨Tryz.f170.name, by decide, Tryz.func170.trans (congrArg some (by kernel_rfl))⟩
  f27 := ⟨Tryz.f171.name, by decide, Tryz.func171.trans (congrArg some (by kernel_rfl))⟩
  f28 := Tryz.func124.trans (congrArg some (by kernel_rfl))
  f29 := Tryz.func125.trans (congrArg some (by kernel_rfl))
  f46 := ⟨Tryz.f185.name, by decide, Tryz.func185.trans (congrArg some (by kernel_rfl))⟩
  f47 := Tryz.func155.trans (congrArg some (by kernel_rfl))
  f48 := Tryz.func156.trans (congrArg some (by kernel_rfl))
  f49 := ⟨Tryz.f186.name, by decide, Tryz.func186.trans (congrArg some (by kernel_rfl))⟩
  f50 := ⟨Tryz.f187.name, by decide, Tryz.func187.trans (congrArg some (by kernel_rfl))⟩
  f57 := ⟨Tryz.f195.name, by decide, Tryz.func195.trans (congrArg some (by kernel_rfl))⟩
  t0 := Tryz.underlying0
  a0 := Tryz.isAgg0
  z0 := Tryz.sizeOf0
  v0 := Tryz.zeroValue0
  t3 := Tryz.underlying3
  a3 := Tryz.isAgg3
  z3 := Tryz.sizeOf3
  v3 := Tryz.zeroValue3
  t4 := Tryz.underlying4
  a4 := Tryz.isAgg4
  z4 := Tryz.sizeOf4
  v4 := Tryz.zeroValue4
  t5 := Tryz.underlying5
  a5 := Tryz.isAgg5
  z5 := Tryz.sizeOf5
  v5 := Tryz.zeroValue5
  t9 := Tryz.underlying9
  a9 := Tryz.isAgg9
  z9 := Tryz.sizeOf9
  v9 := Tryz.zeroValue9
  t22 := Tryz.underlying35
  a22 := Tryz.isAgg35
  z22 := Tryz.sizeOf35
  v22 := Tryz.zeroValue35
  t25 := Tryz.underlying116
  a25 := Tryz.isAgg116
  z25 := Tryz.sizeOf116
  v25 := Tryz.zeroValue116
  t39 := Tryz.underlying92
  a39 := Tryz.isAgg92
  z39 := Tryz.sizeOf92
  v39 := Tryz.zeroValue92
  t45 := Tryz.underlying150
  a45 := Tryz.isAgg150
  z45 := Tryz.sizeOf150
  v45 := Tryz.zeroValue150
  t46 := Tryz.underlying151
  a46 := Tryz.isAgg151
  z46 := Tryz.sizeOf151
  v46 := Tryz.zeroValue151
  t50 := Tryz.underlying60
  a50 := Tryz.isAgg60
  z50 := Tryz.sizeOf60
  v50 := Tryz.zeroValue60
  t53 := Tryz.underlying157
  a53 := Tryz.isAgg157
  z53 := Tryz.sizeOf157
  v53 := Tryz.zeroValue157
  t55 := Tryz.underlying159
  a55 := Tryz.isAgg159
  z55 := Tryz.sizeOf159
  v55 := Tryz.zeroValue159
  t66 := Tryz.underlying180
  a66 := Tryz.isAgg180
  z66 := Tryz.sizeOf180
  v66 := Tryz.zeroValue180
  t70 := Tryz.underlying184
  a70 := Tryz.isAgg184
  z70 := Tryz.sizeOf184
  v70 := Tryz.zeroValue184
  t76 := Tryz.underlying207
  a76 := Tryz.isAgg207
  z76 := Tryz.sizeOf207
  v76 := Tryz.zeroValue207
  t77 := Tryz.underlying208
  a77 := Tryz.isAgg208
  z77 := Tryz.sizeOf208
  v77 := Tryz.zeroValue208 }
end Go.Proofs.YtngigmpaabmngaaGreatDoor

namespace Go.Proofs.YtngigmpaabmngaaGreatDoor
open Go.RowKit Go.Lib Go.Shelf Go.Sort

theorem swo_row {β : Type} (f : β → GRow) : SWO (ltOf fun x y : β => cmpRow (f x) (f y)) where
  irrefl x := by
    show decide (cmpRow (f x) (f x) < 0) = false
    rw [cmpRow_zero.2 rfl]
    rfl
  trans x y z h1 h2 := by
    have h := sgn_row (f x) (f y) (f z)
    have h1' : decide (cmpRow (f x) (f y) < 0) = true := h1
    have h2' : decide (cmpRow (f y) (f z) < 0) = true := h2
    show decide (cmpRow (f x) (f z) < 0) = true
    unfold Sgn3 at h
    rw [decide_eq_true_eq] at h1' h2' ⊢
    omega
  ntrans x y z h1 h2 := by
    have h := sgn_row (f z) (f y) (f x)
    rw [cmpRow_swap (f y) (f z), cmpRow_swap (f x) (f y), cmpRow_swap (f x) (f z)] at h
    have h1' : decide (cmpRow (f x) (f y) < 0) = false := h1
    have h2' : decide (cmpRow (f y) (f z) < 0) = false := h2
    show decide (cmpRow (f x) (f z) < 0) = false
    unfold Sgn3 at h
    rw [decide_eq_false_iff_not] at h1' h2' ⊢
    omega
theorem sortRows_any (v : Value) (l : List GRow) (B : Nat) (w : World) (hO : Own rowE w B v l) (hl : l.length ≤ 1000000) :
    Calls Tryz.prog 102 #[v, .func (.func 86) #[] #[]] w fun e w' => e = .returned (.tuple #[]) ∧ Own rowE w' B v (sortR l) ∧ RowKit.Below B w w' := by
  rcases Nat.eq_zero_or_pos l.length with h0 | hpos
  · have hl0 : l = [] := List.eq_nil_of_length_eq_zero h0
    subst hl0
    obtain ⟨a, c, rfl⟩ := hO.shape
    refine (AnyF.slices_SortFunc_none sh_sortRows a c _ w).mono ?_
    rintro _ w' ⟨rfl, rfl⟩
    exact ⟨rfl, (by simpa [sortR] using hO), .refl _ _⟩
  · obtain ⟨g, c, rfl⟩ := Own.shape_lt hO hpos
    have hgl := (hO.lt g rfl).2
    refine (own_sorted cmpRow hO rfl hpos fun d hd hH hK => ?_).mono ?_
    · have eg : ∀ args w, (callFunc 86 args).run Tryz.prog w = .ok (.enter 86 args) w := enters_of Tryz.func86 (by kernel_rfl) rfl
      have hcmp : CmpLays Tryz.prog 86 #[] (Cel.cells (E := rowE) (w := w) (g := g)) 2 (fun x y => cmpRow x.val y.val) g 0 d.size w := fun m os dk hdk x y => by
        obtain ⟨v1, u1, e1, p1, q1⟩ := x.is
        obtain ⟨v2, u2, e2, p2, q2⟩ := y.is
        have hk := hK m os dk (hdk.trans hd)
        rw [e1, e2]
        exact bagCmp_g x.val y.val v1 u1 v2 u2 _ (p1.kept hk).free (q1.kept hk).free (p2.kept hk).free (q2.kept hk).free
      have := AnyQ.slices_SortFunc sh_sortRows 2 (fun w => Tryz.isAgg39 w) (fun w => Tryz.sizeOf39 w) (Cel.cells (E := rowE) (w := w) (g := g)) Cel.len Cel.one (fun x y => cmpRow x.val y.val) (swo_row Cel.val) 86 #[] g 0 c d w eg hcmp hH hgl (by omega)
      have e : Value.slice (some ⟨g, 0, none⟩) d.size c = .slice (some ⟨g, 0, none⟩) l.length c := by rw [hd]
      rw [e] at this
      exact this
    · rintro _ w' ⟨rfl, l', hp, hs, hO', _, hb⟩
      rw [sortR_unique hp hs] at hO'
      exact ⟨rfl, hO', hb⟩
set_option maxHeartbeats 4000000 in
set_option maxRecDepth 100000 in
theorem bagSort_any (v : Value) (l : List GRow) (w : World) (hv : Sl rowE w free v l) (hl : l.length ≤ 100000) (hs : ∀ x ∈ l, x.vals.length ≤ 1000 ∧ x.lin.length ≤ 1000) :
    Calls Tryz.prog 61 #[v] w (RetOwn rowE w (sortR l)) := by
  obtain ⟨a, c, rfl⟩ := hv.shape
  have h63 := hv.1
  have HV := Lib.hid hv
  have HS := Lib.hid hs
  obtain ⟨n, hn⟩ : ∃ n, n = l.length := ⟨_, rfl⟩
  have HN := Lib.hid hn
  rw [← hn] at HV h63 hl ⊢
  clear hv hn hs
  go_enter Tryz.func61, Tryz.ntmps61
  go_wp2_with fail
  go_loopw [8, 3] (fun i o wr => ∃ k : Nat, k ≤ n ∧ i = .int .i64 k ∧ Own rowE wr w.heap.size o (l.take k) ∧ Hid (RowKit.Below w.heap.size w wr)) (fun i _ _ => n - (RowKit.intOf i).toNat)
  case atStart => exact ⟨0, Nat.zero_le _, rfl, Own.nil _ _ _, Lib.hid (.refl _ _)⟩
  case round =>
    obtain ⟨k, hk, rfl, hO, HB⟩ := hrel
    obtain ⟨wo, rfl⟩ : ∃ wo : World, wo = wr := ⟨_, rfl⟩
    by_cases hlt : k < n
    · obtain ⟨x, hx⟩ := lget_some l k (by rw [← HN.out]; exact hlt)
      obtain ⟨b, o, a1, n1, e1, m1, rfl, hvv, hll, p0, p1⟩ := rows_at HV.out hx
      replace p0 := cell_keep HB.out p0
      replace p1 := cell_keep HB.out p1
      obtain ⟨hz1, hz2⟩ := HS.out x (List.mem_of_getElem? hx)
      have HT : Hid (l.take (k + 1) = l.take k ++ [x]) := Lib.hid (take_get hx)
      have hlk : (l.take k).length = k := by rw [List.length_take, ← HN.out]; omega
      obtain ⟨lk, hlke⟩ : ∃ lk, lk = l.take k := ⟨_, rfl⟩
      rw [← hlke] at hO HT hlk
      obtain ⟨ao, co, rfl⟩ := hO.shape
      rw [hlk] at hO ⊢
      obtain ⟨xv, xl⟩ := x
      dsimp only at p0 p1 hvv hll hz1 hz2
      have HVV := Lib.hid hvv
      have HLL := Lib.hid hll
      have HO := Lib.hid hO
      have HLK := Lib.hid hlk
      have HB1 : Hid (RowKit.Below w.heap.size w (wo.alloc (.cells #[.slice a1 xv.length n1, .slice e1 xl.length m1] 39))) := Lib.hid (below_alloc_keep HB.out)
      have HO1 := Lib.hid (hO.below (below_alloc wo (.cells #[.slice a1 xv.length n1, .slice e1 xl.length m1] 39)))
      clear hx hvv hll hO hlk hlke
      go_wp2_with fail
      refine (bagClone_any _ _ xv xl _ (HVV.out.below HB1.out).vals (HLL.out.below HB1.out).ints hz1 hz2).mono ?_
      rintro _ w3 ⟨v', u', rfl, hC1, hC2⟩
      obtain ⟨a', c', rfl⟩ := reads_shape hC1.reads
      obtain ⟨b', d', rfl⟩ := reads_shape hC2.reads
      have HB3 : Hid (RowKit.Below w.heap.size w w3) := Lib.hid (below_keep HB1.out hC1.below)
      have HO3 := Lib.hid (HO1.out.below hC1.below)
      have hnv : ∀ j, (Value.slice a' xv.length c').ownBlock = some j → ¬ some j = (Value.slice ao k co).ownBlock := fun j h1 h2 => by
        have h3 := hC1.newer j h1
        have h4 := (HO1.out.lt j h2.symm).2
        omega
      have hnu : ∀ j, (Value.slice b' xl.length d').ownBlock = some j → ¬ some j = (Value.slice ao k co).ownBlock := fun j h1 h2 => by
        have h3 := hC2.newer j h1
        have h4 := (HO1.out.lt j h2.symm).2
        omega
      have HIS : Hid (Els rowE w3 (fun j => some j = (Value.slice ao k co).ownBlock) [⟨xv, xl⟩] [.slice a' xv.length c', .slice b' xl.length d']) := Lib.hid (Els.one ⟨_, _, rfl, Sl.of_vals hC1.reads hnv, Sl.of_ints hC2.reads hnu⟩)
      clear hC1 hC2 hnv hnu HB1 HO1
      go_wp2_with (at_builtin; refine wpList_push rfl (.tmp 12) (.tmp 15) 35 rfl rowE Tryz.underlying35 w.heap.size (.slice ao k co) lk rfl HO3.out [⟨xv, xl⟩] #[.slice a' xv.length c', .slice b' xl.length d'] HIS.out 1 1 rfl rfl (by decide) (by have := HLK.out; unfold maxLen; omega) (by have := HLK.out; show _ * 48 ≤ _; omega) HB3.out.size ?_; intro g cap w5 hP hPa)
      go_roundw
      case rel => exact ⟨k + 1, by omega, by go_num, by rw [HT.out]; exact hP.own' (by simp [HLK.out]), Lib.hid (HB3.out.trans hP.below)⟩
      case measure => simp [RowKit.intOf]; omega
    · have hkk : l.take k = l := List.take_of_length_le (by rw [← HN.out]; omega)
      rw [hkk] at hO
      obtain ⟨ao, co, rfl⟩ := hO.shape
      have HO := Lib.hid hO
      clear hO hkk
      have HSR := Lib.hid (sortRows_any _ l w.heap.size wo HO.out (by have := HN.out; omega))
      go_wp2_with fail
      refine HSR.out.mono ?_
      rintro _ w2 ⟨rfl, hO2, hb2⟩
      have HO2 := Lib.hid hO2
      have HB2 := Lib.hid (HB.out.trans hb2)
      clear hO2 hb2
      go_wp2_with fail
      go_ret
      exact ⟨_, rfl, HO2.out, HB2.out⟩
end Go.Proofs.YtngigmpaabmngaaGreatDoor

namespace Go.Proofs.YtngigmpaabmngaaGreatDoor
open Go.RowKit Go.Lib Go.Shelf

def pincl (lo hi t : Int) : Bool := pvalid lo hi && (decide (lo ≤ t) && decide (t < hi))
set_option maxHeartbeats 1000000 in
theorem incl_any (lo hi t : Int) (w : World) : Calls Tryz.prog 60 #[.agg #[.int .i64 lo, .int .i64 hi], .int .i64 t] w fun e w' => e = .returned (.bool (pincl lo hi t)) ∧ Below w.heap.size w w' := by
  have HR : Hid (pincl lo hi t = (pvalid lo hi && (decide (lo ≤ t) && decide (t < hi)))) := Lib.hid rfl
  have HV := fun W => Lib.hid (pvalid_any lo hi W)
  generalize pvalid lo hi = q at HR HV
  generalize pincl lo hi t = r at HR ⊢
  have hg := World.alloc_heap_new w (.cells #[.int .i64 lo, .int .i64 hi] 50)
  go_enter Tryz.func60, Tryz.ntmps60
  go_wp2_with fail
  refine (HV _).out.mono ?_
  rintro _ w2 ⟨rfl, hb⟩
  have hk := box_kept hg hb
  obtain ⟨d0, d1, _, _⟩ := box_two hk
  have HB := Lib.hid (below_alloc2' hb)
  clear hb hk hg
  cases q
  · go_wp2_with fail
    go_ret
    exact ⟨ret_bool (by rw [HR.out]; rfl), HB.out⟩
  · by_cases h1 : lo ≤ t
    · by_cases h2 : t < hi
      · go_wp2_with fail
        go_ret
        exact ⟨ret_bool (by rw [HR.out]; simp; omega), HB.out⟩
      · go_wp2_with fail
        go_ret
        exact ⟨ret_bool (by rw [HR.out]; simp; omega), HB.out⟩
    · go_wp2_with fail
      go_ret
      exact ⟨ret_bool (by rw [HR.out]; simp; omega), HB.out⟩
/-- The rows that hold on a day. -/
def atDay (l : List Tup) (t : Int) : List GRow := (l.filter fun x => pincl x.lo x.hi t).map fun x => ⟨x.vals, x.lin⟩
theorem atDay_snoc (l : List Tup) (x : Tup) (t : Int) : atDay (l ++ [x]) t = atDay l t ++ if pincl x.lo x.hi t = true then [⟨x.vals, x.lin⟩] else [] := by
  unfold atDay
  rw [List.filter_append, List.map_append]
  congr 1
  rw [List.filter_cons, List.filter_nil]
  split <;> rfl
theorem atDay_len (l : List Tup) (t : Int) : (atDay l t).length ≤ l.length := by unfold atDay; rw [List.length_map]; exact List.length_filter_le _ _
theorem atDay_small {l : List Tup} (h : ∀ x ∈ l, x.vals.length ≤ 1000 ∧ x.lin.length ≤ 1000) (t : Int) : ∀ x ∈ atDay l t, x.vals.length ≤ 1000 ∧ x.lin.length ≤ 1000 := by
  intro x hx
  unfold atDay at hx
  obtain ⟨y, hy, rfl⟩ := List.mem_map.1 hx
  exact h y (List.mem_filter.1 hy).1
set_option maxHeartbeats 4000000 in
set_option maxRecDepth 100000 in
theorem timeslice_any (v : Value) (l : List Tup) (t : Int) (w : World) (hv : Tups w v l) (hl : l.length ≤ 100000) (hs : ∀ x ∈ l, x.vals.length ≤ 1000 ∧ x.lin.length ≤ 1000) :
    Calls Tryz.prog 24 #[v, .int .i64 t] w (RetOwn rowE w (sortR (atDay l t))) := by
  obtain ⟨a, c, rfl⟩ := hv.shape
  have h63 := hv.1
  have HV := Lib.hid hv
  have HS := Lib.hid (atDay_small hs t)
  obtain ⟨n, hn⟩ : ∃ n, n = l.length := ⟨_, rfl⟩
  have HN := Lib.hid hn
  rw [← hn] at HV h63 hl ⊢
  clear hv hn hs
  go_enter Tryz.func24, Tryz.ntmps24
  go_wp2_with fail
  go_loopw [10, 5] (fun i o wr => ∃ k : Nat, k ≤ n ∧ i = .int .i64 k ∧ Own rowE wr w.heap.size o (atDay (l.take k) t) ∧ Hid (Below w.heap.size w wr)) (fun i _ _ => n - (RowKit.intOf i).toNat)
  case atStart => exact ⟨0, Nat.zero_le _, rfl, Own.nil _ _ _, Lib.hid (.refl _ _)⟩
  case round =>
    obtain ⟨k, hk, rfl, hO, HB⟩ := hrel
    obtain ⟨wo, rfl⟩ : ∃ wo : World, wo = wr := ⟨_, rfl⟩
    by_cases hlt : k < n
    · obtain ⟨x, hx⟩ := lget_some l k (by rw [← HN.out]; exact hlt)
      obtain ⟨b, o, a1, n1, e1, m1, rfl, hvv, hll, p0, p1, p2, p3⟩ := tups_at HV.out hx
      replace p0 := cell_keep HB.out p0
      replace p1 := cell_keep HB.out p1
      replace p2 := cell_keep HB.out p2
      replace p3 := cell_keep HB.out p3
      have HT : Hid (atDay (l.take (k + 1)) t = atDay (l.take k) t ++ if pincl x.lo x.hi t = true then [⟨x.vals, x.lin⟩] else []) := by show _ = _; rw [take_get hx, atDay_snoc]
      obtain ⟨lk, hlke⟩ : ∃ lk, lk = atDay (l.take k) t := ⟨_, rfl⟩
      have hlk : lk.length ≤ 100000 := by rw [hlke]; exact Nat.le_trans (atDay_len _ _) (by rw [List.length_take]; omega)
      rw [← hlke] at hO HT
      obtain ⟨ao, co, rfl⟩ := hO.shape
      obtain ⟨xv, xlo, xhi, xl⟩ := x
      dsimp only at p0 p1 p2 p3 hvv hll HT
      obtain ⟨q, hq⟩ : ∃ q, q = pincl xlo xhi t := ⟨_, rfl⟩
      have HI := fun W => Lib.hid (incl_any xlo xhi t W)
      rw [← hq] at HT HI
      have HVV := Lib.hid hvv
      have HLL := Lib.hid hll
      have hg := World.alloc_heap_new wo (.cells #[.slice a1 xv.length n1, .int .i64 xlo, .int .i64 xhi, .slice e1 xl.length m1] 52)
      have HB1 : Hid (Below w.heap.size w (wo.alloc (.cells #[.slice a1 xv.length n1, .int .i64 xlo, .int .i64 xhi, .slice e1 xl.length m1] 52))) := Lib.hid (below_alloc_keep HB.out)
      have HO1 := Lib.hid (hO.below (below_alloc wo (.cells #[.slice a1 xv.length n1, .int .i64 xlo, .int .i64 xhi, .slice e1 xl.length m1] 52)))
      have HG := Lib.hid hg
      clear hx hvv hll hO hlke hq hg
      go_wp2_with fail
      refine (HI _).out.mono ?_
      rintro _ w3 ⟨rfl, hb3⟩
      obtain ⟨⟨d0, d1, d2, d3⟩, _, _, _, _⟩ := box_four (box_kept HG.out hb3)
      have HB3 : Hid (Below w.heap.size w w3) := Lib.hid (below_keep HB1.out hb3)
      have HO3 := Lib.hid (HO1.out.below hb3)
      clear hb3 HG HB1 HO1 HI
      cases q
      · have HT' : Hid (atDay (l.take (k + 1)) t = lk) := by show _ = _; rw [HT.out, if_neg (by decide), List.append_nil]
        go_wp2_with fail
        go_roundw
        case rel => exact ⟨k + 1, by omega, by go_num, by rw [HT'.out]; exact HO3.out, HB3⟩
        case measure => simp [RowKit.intOf]; omega
      · have HT' : Hid (atDay (l.take (k + 1)) t = lk ++ [⟨xv, xl⟩]) := by show _ = _; rw [HT.out, if_pos rfl]
        go_wp2_with fail
        refine (tupleRow_any _ _ _ _ _ _ _ _ _ _ _ rfl rfl).mono ?_
        rintro _ w4 ⟨rfl, hb4⟩
        have HB4 : Hid (Below w.heap.size w w4) := Lib.hid (below_keep HB3.out hb4)
        have HO4 := Lib.hid (HO3.out.below hb4)
        have HIS : Hid (Els rowE w4 (fun j => some j = (Value.slice ao lk.length co).ownBlock) [⟨xv, xl⟩] [.slice a1 xv.length n1, .slice e1 xl.length m1]) := Lib.hid (Els.one ⟨_, _, rfl, ((HVV.out.old (Nat.le_refl _)).below HB4.out).mono (fun j _ hj => (HO4.out.lt j hj.symm).1), ((HLL.out.old (Nat.le_refl _)).below HB4.out).mono (fun j _ hj => (HO4.out.lt j hj.symm).1)⟩)
        clear hb4
        go_wp2_with (at_builtin; refine wpList_push rfl (.tmp 18) (.tmp 21) 35 rfl rowE Tryz.underlying35 w.heap.size (.slice ao lk.length co) lk rfl HO4.out [⟨xv, xl⟩] #[.slice a1 xv.length n1, .slice e1 xl.length m1] HIS.out 1 1 rfl rfl (by decide) (by unfold maxLen; omega) (by show _ * 48 ≤ _; omega) HB4.out.size ?_; intro g cap w5 hP hPa)
        go_roundw
        case rel => exact ⟨k + 1, by omega, by go_num, by rw [HT'.out]; exact hP.own' (by simp), Lib.hid (HB4.out.trans hP.below)⟩
        case measure => simp [RowKit.intOf]; omega
    · have hkk : l.take k = l := List.take_of_length_le (by rw [← HN.out]; omega)
      rw [hkk] at hO
      obtain ⟨ao, co, rfl⟩ := hO.shape
      have HSR := Lib.hid (bagSort_any _ (atDay l t) wo hO.sl (Nat.le_trans (atDay_len _ _) (by rw [← HN.out]; exact hl)) HS.out)
      clear hO hkk
      go_wp2_with fail
      refine HSR.out.mono ?_
      rintro _ w2 ⟨vo, rfl, hO2, hb2⟩
      obtain ⟨ao2, co2, rfl⟩ := hO2.shape
      have HO2 := Lib.hid (hO2.mono HB.out.size)
      have HB2 := Lib.hid (below_keep HB.out hb2)
      clear hO2 hb2
      go_wp2_with fail
      go_ret
      exact ⟨_, rfl, HO2.out, HB2.out⟩
theorem sameRow_refl (x : GRow) : sameRowL x.vals x.vals x.lin x.lin = true := by
  unfold sameRowL
  rw [(cmpRows_zero _ _).2 rfl, (cmpInts_zero _ _).2 rfl]
  rfl
end Go.Proofs.YtngigmpaabmngaaGreatDoor

namespace Go.Proofs.YtngigmpaabmngaaGreatDoor
open Go.RowKit

def Tup.row (x : Tup) : GRow := ⟨x.vals, x.lin⟩
theorem tup_ext {p q : Tup} (h : p.row = q.row) (h1 : p.lo = q.lo) (h2 : p.hi = q.hi) : p = q := by
  obtain ⟨v, a, b, l⟩ := p
  obtain ⟨v', a', b', l'⟩ := q
  dsimp only at h1 h2
  subst h1 h2
  unfold Tup.row at h
  cases h
  rfl
theorem pvalid_iff {lo hi : Int} : pvalid lo hi = true ↔ 0 ≤ lo ∧ lo < hi ∧ hi ≤ 1099511627776 := by unfold pvalid; rw [decide_eq_true_eq]
theorem pincl_iff {lo hi t : Int} : pincl lo hi t = true ↔ pvalid lo hi = true ∧ lo ≤ t ∧ t < hi := by unfold pincl; simp
/-- Two periods of one row are apart (they do not touch), or one lies in the other. -/
def Lam (p q : Tup) : Prop := p.row = q.row → p.hi < q.lo ∨ q.hi < p.lo ∨ (p.lo ≤ q.lo ∧ q.hi ≤ p.hi) ∨ (q.lo ≤ p.lo ∧ p.hi ≤ q.hi)
theorem Lam.symm {p q : Tup} (h : Lam p q) : Lam q p := fun e => by have := h e.symm; omega
theorem Lam.refl (p : Tup) : Lam p p := fun _ => .inr (.inr (.inl ⟨Int.le_refl _, Int.le_refl _⟩))
theorem pw_all {α : Type} {R : α → α → Prop} (hs : ∀ a b, R a b → R b a) (hr : ∀ a, R a a) : ∀ {l : List α}, l.Pairwise R → ∀ x ∈ l, ∀ y ∈ l, R x y
  | [], _ => fun x hx => by simp at hx
  | a :: l, h => by
    obtain ⟨h1, h2⟩ := List.pairwise_cons.1 h
    intro x hx y hy
    rcases List.mem_cons.1 hx with e | hx
    · rcases List.mem_cons.1 hy with e' | hy
      · rw [e, e']; exact hr _
      · rw [e]; exact h1 _ hy
    · rcases List.mem_cons.1 hy with e' | hy
      · rw [e']; exact hs _ _ (h1 _ hx)
      · exact pw_all hs hr h2 x hx y hy
/-- Valid periods, laid one in the other or apart. -/
structure Lev (T : List Tup) : Prop where
  valid : ∀ x ∈ T, pvalid x.lo x.hi = true
  lam : T.Pairwise Lam
theorem Lev.nil : Lev [] := ⟨by simp, .nil⟩
theorem Lev.perm {S T : List Tup} (h : Lev S) (hp : S.Perm T) : Lev T := ⟨fun x hx => h.valid x (hp.mem_iff.2 hx), hp.pairwise h.lam (fun h => Lam.symm h)⟩
theorem Lev.sub {S T : List Tup} (h : Lev T) (hp : S.Sublist T) : Lev S := ⟨fun x hx => h.valid x (hp.subset hx), h.lam.sublist hp⟩
theorem atDay_cons (x : Tup) (l : List Tup) (t : Int) : atDay (x :: l) t = if pincl x.lo x.hi t = true then x.row :: atDay l t else atDay l t := by
  unfold atDay
  rw [List.filter_cons]
  split
  · rw [List.map_cons]; rfl
  · rfl
theorem atDay_append (l m : List Tup) (t : Int) : atDay (l ++ m) t = atDay l t ++ atDay m t := by unfold atDay; rw [List.filter_append, List.map_append]
theorem atDay_perm {l m : List Tup} (h : l.Perm m) (t : Int) : (atDay l t).Perm (atDay m t) := (h.filter _).map _
theorem mem_atDay {l : List Tup} {t : Int} {r : GRow} : r ∈ atDay l t ↔ ∃ x ∈ l, x.row = r ∧ pincl x.lo x.hi t = true := by
  unfold atDay
  rw [List.mem_map]
  constructor
  · rintro ⟨x, hx, rfl⟩
    obtain ⟨h1, h2⟩ := List.mem_filter.1 hx
    exact ⟨x, h1, rfl, h2⟩
  · rintro ⟨x, hx, rfl, h⟩
    exact ⟨x, List.mem_filter.2 ⟨hx, h⟩, rfl⟩
/-- The period of a row that starts first, and among those the longest. -/
theorem best_of (r : GRow) : ∀ (T : List Tup), (∃ x ∈ T, x.row = r) → ∃ p ∈ T, p.row = r ∧ ∀ x ∈ T, x.row = r → p.lo < x.lo ∨ (p.lo = x.lo ∧ x.hi ≤ p.hi)
  | [], h => by obtain ⟨x, hx, _⟩ := h; simp at hx
  | a :: T, h => by
    by_cases hT : ∃ x ∈ T, x.row = r
    · obtain ⟨p, hp, hr, hb⟩ := best_of r T hT
      by_cases hc : a.row = r ∧ ¬ (p.lo < a.lo ∨ (p.lo = a.lo ∧ a.hi ≤ p.hi))
      · refine ⟨a, .head _, hc.1, fun x hx hxr => ?_⟩
        rcases List.mem_cons.1 hx with rfl | hx
        · exact .inr ⟨rfl, Int.le_refl _⟩
        · have := hb x hx hxr
          have := hc.2
          omega
      · refine ⟨p, .tail _ hp, hr, fun x hx hxr => ?_⟩
        rcases List.mem_cons.1 hx with rfl | hx
        · exact Classical.byContradiction fun hn => hc ⟨hxr, hn⟩
        · exact hb x hx hxr
    · obtain ⟨x, hx, hxr⟩ := h
      rcases List.mem_cons.1 hx with rfl | hx
      · refine ⟨x, .head _, hxr, fun y hy hyr => ?_⟩
        rcases List.mem_cons.1 hy with rfl | hy
        · exact .inr ⟨rfl, Int.le_refl _⟩
        · exact absurd ⟨y, hy, hyr⟩ hT
      · exact absurd ⟨x, hx, hxr⟩ hT
theorem best_hi {S T : List Tup} {p q : Tup} (hS : Lev S) (hT : Lev T) (hd : ∀ t r, r ∈ atDay T t → r ∈ atDay S t) (hp : p ∈ S) (hpb : ∀ x ∈ S, x.row = p.row → p.lo < x.lo ∨ (p.lo = x.lo ∧ x.hi ≤ p.hi)) (hq : q ∈ T) (hr : q.row = p.row) (hlo : p.lo = q.lo) : q.hi ≤ p.hi := by
  refine Classical.byContradiction fun hn => ?_
  have hpv := pvalid_iff.1 (hS.valid p hp)
  have hqv := hT.valid q hq
  obtain ⟨x, hx, hxr, hxi⟩ := mem_atDay.1 (hd p.hi q.row (mem_atDay.2 ⟨q, hq, rfl, pincl_iff.2 ⟨hqv, by omega, by omega⟩⟩))
  obtain ⟨_, h1, h2⟩ := pincl_iff.1 hxi
  have h3 := hpb x hx (hxr.trans hr)
  have h4 := pw_all (R := Lam) (fun _ _ h => Lam.symm h) Lam.refl hS.lam p hp x hx (hr.symm.trans hxr.symm)
  omega
theorem lev_perm : ∀ (n : Nat) {S T : List Tup}, S.length = n → Lev S → Lev T → (∀ t, (atDay S t).Perm (atDay T t)) → S.Perm T
  | 0, S, T, hn, hS, hT, hd => by
    have hS0 := List.eq_nil_of_length_eq_zero hn
    subst hS0
    cases T with
    | nil => exact .refl _
    | cons x T =>
      have hv := hT.valid x (.head _)
      have := (hd x.lo).mem_iff.2 (mem_atDay.2 ⟨x, .head _, rfl, pincl_iff.2 ⟨hv, by omega, (pvalid_iff.1 hv).2.1⟩⟩)
      simp [atDay] at this
  | n + 1, S, T, hn, hS, hT, hd => by
    cases S with
    | nil => simp at hn
    | cons a S0 =>
      obtain ⟨p, hp, hpr, hpb⟩ := best_of a.row (a :: S0) ⟨a, .head _, rfl⟩
      have hpv := hS.valid p hp
      obtain ⟨y, hy, hyr, hyi⟩ := mem_atDay.1 ((hd p.lo).mem_iff.1 (mem_atDay.2 ⟨p, hp, rfl, pincl_iff.2 ⟨hpv, by omega, (pvalid_iff.1 hpv).2.1⟩⟩))
      obtain ⟨q, hq, hqr, hqb⟩ := best_of a.row T ⟨y, hy, hyr.trans hpr⟩
      have hqv := hT.valid q hq
      have h1 := hqb y hy (hyr.trans hpr)
      obtain ⟨_, h2, _⟩ := pincl_iff.1 hyi
      obtain ⟨x, hx, hxr, hxi⟩ := mem_atDay.1 ((hd q.lo).mem_iff.2 (mem_atDay.2 ⟨q, hq, rfl, pincl_iff.2 ⟨hqv, by omega, (pvalid_iff.1 hqv).2.1⟩⟩))
      have h3 := hpb x hx (hxr.trans hqr)
      obtain ⟨_, h4, _⟩ := pincl_iff.1 hxi
      have hlo : p.lo = q.lo := by omega
      have hrr : q.row = p.row := hqr.trans hpr.symm
      have hhi1 := best_hi hS hT (fun t r h => (hd t).mem_iff.2 h) hp (by rw [hpr]; exact hpb) hq hrr hlo
      have hhi2 := best_hi hT hS (fun t r h => (hd t).mem_iff.1 h) hq (by rw [hqr]; exact hqb) hp hrr.symm hlo.symm
      have e : p = q := tup_ext hrr.symm hlo (by omega)
      subst e
      obtain ⟨s1, s2, es⟩ := List.append_of_mem hp
      obtain ⟨t1, t2, et⟩ := List.append_of_mem hq
      rw [es] at hS hd hn ⊢
      rw [et] at hT hd ⊢
      refine (List.perm_middle).trans (((lev_perm n (S := s1 ++ s2) (T := t1 ++ t2) (by simp at hn ⊢; omega) (hS.sub ((List.sublist_cons_self p s2).append_left s1)) (hT.sub ((List.sublist_cons_self p t2).append_left t1)) fun t => ?_).cons p).trans List.perm_middle.symm)
      have h5 := ((atDay_perm (List.perm_middle (a := p) (l₁ := s1) (l₂ := s2)) t).symm.trans (hd t)).trans (atDay_perm (List.perm_middle (a := p) (l₁ := t1) (l₂ := t2)) t)
      rw [atDay_cons, atDay_cons] at h5
      split at h5
      · exact h5.cons_inv
      · exact h5
/-- The order of tuples: by rows, then by periods. -/
def cmpTup (a b : Tup) : Int := or2 (cmpRow a.row b.row) (or2 (cmpI a.lo b.lo) (cmpI a.hi b.hi))
theorem sgn_tup (a b c : Tup) : Sgn3 (cmpTup a b) (cmpTup b c) (cmpTup a c) := (sgn_row _ _ _).or ((sgn_int _ _ _).or (sgn_int _ _ _))
theorem cmpTup_zero {a b : Tup} : cmpTup a b = 0 ↔ a = b := by
  unfold cmpTup or2
  constructor
  · intro h
    split at h
    · rename_i h1
      split at h
      · rename_i h2
        exact tup_ext (cmpRow_zero.1 h1) (cmpI_zero.1 h2) (cmpI_zero.1 h)
      · omega
    · omega
  · rintro rfl
    rw [if_pos (cmpRow_zero.2 rfl), if_pos (cmpI_zero.2 rfl), cmpI_zero.2 rfl]
theorem cmpTup_swap (a b : Tup) : cmpTup b a = - cmpTup a b := by
  unfold cmpTup or2
  rw [cmpRow_swap a.row b.row, cmpI_swap a.lo b.lo, cmpI_swap a.hi b.hi]
  split <;> split <;> (try split) <;> (try split) <;> omega
/-- T is the normal form of l. -/
structure IsNF (l T : List Tup) : Prop where
  lev : Lev T
  sorted : T.Pairwise fun a b => ¬ cmpTup b a < 0
  day : ∀ t, (atDay T t).Perm (atDay l t)
theorem IsNF.unique {l S T : List Tup} (h : IsNF l S) (k : IsNF l T) : S = T := by
  refine List.Perm.eq_of_pairwise (le := fun a b => cmpTup a b ≤ 0) (fun a b _ _ h1 h2 => ?_) (h.sorted.imp (by intro a b h; have := cmpTup_swap a b; omega)) (k.sorted.imp (by intro a b h; have := cmpTup_swap a b; omega)) (lev_perm _ rfl h.lev k.lev fun t => (h.day t).trans (k.day t).symm)
  have := cmpTup_swap a b
  exact cmpTup_zero.1 (by omega)
theorem IsNF.congr {l m T : List Tup} (h : IsNF l T) (hd : ∀ t, (atDay l t).Perm (atDay m t)) : IsNF m T := ⟨h.lev, h.sorted, fun t => (h.day t).trans (hd t)⟩
theorem IsNF.self {l T : List Tup} (h : IsNF l T) : IsNF T T := ⟨h.lev, h.sorted, fun _ => .refl _⟩
theorem IsNF.same {l m S T : List Tup} (h : IsNF l S) (k : IsNF m T) (hd : ∀ t, (atDay l t).Perm (atDay m t)) : S = T := (h.congr hd).unique k
theorem IsNF.iff {l m S T : List Tup} (h : IsNF l S) (k : IsNF m T) : S = T ↔ ∀ t, (atDay l t).Perm (atDay m t) :=
  ⟨fun e t => (h.day t).symm.trans (e ▸ k.day t), fun hd => h.same k hd⟩
theorem sortR_day {l m : List Tup} (h : ∀ t, (atDay l t).Perm (atDay m t)) (t : Int) : sortR (atDay l t) = sortR (atDay m t) := sortR_congr (h t)
theorem sortR_inj {l m : List GRow} (h : sortR l = sortR m) : l.Perm m := (sortR_perm l).symm.trans (h ▸ sortR_perm m)
theorem IsNF.vals {l T : List Tup} (h : IsNF l T) : ∀ x ∈ T, ∃ y ∈ l, y.row = x.row ∧ pvalid y.lo y.hi = true := by
  intro x hx
  have hv := h.lev.valid x hx
  obtain ⟨y, hy, hr, hi⟩ := mem_atDay.1 ((h.day x.lo).mem_iff.1 (mem_atDay.2 ⟨x, hx, rfl, pincl_iff.2 ⟨hv, by omega, (pvalid_iff.1 hv).2.1⟩⟩))
  exact ⟨y, hy, hr, (pincl_iff.1 hi).1⟩
end Go.Proofs.YtngigmpaabmngaaGreatDoor

namespace Go.Proofs.YtngigmpaabmngaaGreatDoor
open Go.RowKit Go.Lib Go.Shelf

theorem per_held : Tryz.prog.stoodInHeld 50 = false := by kernel_rfl
theorem per_guard : Tryz.prog.eqGuardType Tryz.prog.depth 50 = false := by kernel_rfl
theorem per_fields : Tryz.prog.underlying 50 = some (.struct (Tryz.prog.fieldsOf 50)) := by kernel_rfl
theorem per_eqIn (d : Nat) (k p k' p' : Int) (w : World) :
    (Op.equalIn (d + 2) 50 (.agg #[.int .i64 k, .int .i64 p]) (.agg #[.int .i64 k', .int .i64 p'])).run Tryz.prog w = .ok (k == k' && p == p') w := by
  rw [run_equalIn_struct w _ _ _ _ per_fields per_held]
  simp [go_sem]
  by_cases h1 : k = k' <;> by_cases h2 : p = p' <;> simp [*]
theorem per_eql (k p k' p' : Int) (w : World) :
    (binOp .eql 50 (.agg #[.int .i64 k, .int .i64 p]) (.agg #[.int .i64 k', .int .i64 p'])).run Tryz.prog w = .ok (.bool (k == k' && p == p')) w := by
  rw [run_eql_struct, per_eqIn]; rfl
theorem per_neq (k p k' p' : Int) (w : World) :
    (binOp .neq 50 (.agg #[.int .i64 k, .int .i64 p]) (.agg #[.int .i64 k', .int .i64 p'])).run Tryz.prog w = .ok (.bool !(k == k' && p == p')) w := by
  rw [run_neq_struct, per_eqIn]; rfl
def sameTup (a b : Tup) : Bool := (a.lo == b.lo && a.hi == b.hi) && sameRowL a.vals b.vals a.lin b.lin
def sameTups : List Tup → List Tup → Bool
  | [], [] => true
  | a :: l, b :: m => sameTup a b && sameTups l m
  | _, _ => false
end Go.Proofs.YtngigmpaabmngaaGreatDoor

namespace Go.Proofs.YtngigmpaabmngaaGreatDoor
open Go.RowKit Go.Lib Go.Shelf

set_option maxHeartbeats 4000000 in
set_option maxRecDepth 100000 in
theorem sameTups_len (n : Nat) (a a2 : Option Addr) (c c2 : Nat) (l m : List Tup) (w : World) (hl : l.length = n) (hm : m.length = n)
    (hp : Tups w (.slice a n c) l) (hp2 : Tups w (.slice a2 n c2) m) :
    Calls Tryz.prog 15 #[.slice a n c, .slice a2 n c2] w fun e w' => e = .returned (.bool (sameTups l m)) ∧ Below w.heap.size w w' := by
  have h63 : n ≤ 9223372036854775807 := hl ▸ hp.1
  have HP := Lib.hid hp
  have HP2 := Lib.hid hp2
  have HL := Lib.hid hl
  have HM := Lib.hid hm
  clear hp hp2 hl hm
  go_enter Tryz.func15, Tryz.ntmps15
  go_wp2_with fail
  go_loopw [5] (fun i wr => ∃ k : Nat, k ≤ n ∧ i = .int .i64 k ∧ Hid (sameTups (l.drop k) (m.drop k) = sameTups l m) ∧ Below w.heap.size w wr) (fun i _ => n - (intOf i).toNat)
  case atStart => exact ⟨0, Nat.zero_le _, rfl, Lib.hid rfl, Below.refl _ _⟩
  case round =>
    obtain ⟨k, hk, rfl, HR, hB⟩ := hrel
    by_cases hlt : k < n
    · obtain ⟨x, hx⟩ := lget_some l k (by rw [HL.out]; exact hlt)
      obtain ⟨y, hy⟩ := lget_some m k (by rw [HM.out]; exact hlt)
      obtain ⟨b, o, a1, n1, e1, m1, rfl, hv1, hu1, p0, p1, p2, p3⟩ := tups_at HP.out hx
      obtain ⟨b2, o2, a2, n2, e2, m2, rfl, hv2, hu2, q0, q1, q2, q3⟩ := tups_at HP2.out hy
      replace p0 := cell_keep hB p0
      replace p1 := cell_keep hB p1
      replace p2 := cell_keep hB p2
      replace p3 := cell_keep hB p3
      replace q0 := cell_keep hB q0
      replace q1 := cell_keep hB q1
      replace q2 := cell_keep hB q2
      replace q3 := cell_keep hB q3
      have HS : Hid (sameTups (l.drop k) (m.drop k) = (sameTup x y && sameTups (l.drop (k + 1)) (m.drop (k + 1)))) := by rw [drop_get hx, drop_get hy]; exact Lib.hid rfl
      have HV1 := Lib.hid hv1
      have HV2 := Lib.hid hv2
      have HU1 := Lib.hid hu1
      have HU2 := Lib.hid hu2
      have hgd := per_guard
      have heq : ∀ W : World, (binOp .neq 50 (.agg #[.int .i64 x.lo, .int .i64 x.hi]) (.agg #[.int .i64 y.lo, .int .i64 y.hi])).run Tryz.prog W = .ok (.bool !(x.lo == y.lo && x.hi == y.hi)) W := per_neq _ _ _ _
      clear hx hy hv1 hv2 hu1 hu2
      cases hper : (x.lo == y.lo && x.hi == y.hi)
      · have HPER := Lib.hid hper
        rw [hper, Bool.not_false] at heq
        clear hper
        have HF : Hid (sameTups l m = false) := by show _ = _; rw [← HR.out, HS.out, sameTup, HPER.out]; rfl
        go_wp2_with fail
        go_quiet (fail)
        go_wp2_with fail
        go_ret
        exact ⟨ret_bool (by rw [HF.out]), below_drewN hB _⟩
      · have HPER := Lib.hid hper
        rw [hper, Bool.not_true] at heq
        clear hper
        have HT : Hid (sameTups l m = (sameRowL x.vals y.vals x.lin y.lin && sameTups (l.drop (k + 1)) (m.drop (k + 1)))) := by show _ = _; rw [← HR.out, HS.out, sameTup, HPER.out]; rfl
        obtain ⟨r, hr⟩ : ∃ r, r = sameRowL x.vals y.vals x.lin y.lin := ⟨_, rfl⟩
        have HRR := Lib.hid hr
        rw [← hr] at HT
        clear hr
        go_wp2_with fail
        go_region_held3 (fun W => Below w.heap.size w W ∧ W.cell? ⟨b, o + k * 4, none⟩ = some (.slice a1 x.vals.length n1) ∧ W.cell? ⟨b, o + k * 4 + 1, none⟩ = some (.int .i64 x.lo) ∧ W.cell? ⟨b, o + k * 4 + 2, none⟩ = some (.int .i64 x.hi) ∧ W.cell? ⟨b, o + k * 4 + 3, none⟩ = some (.slice e1 x.lin.length m1)
            ∧ W.cell? ⟨b2, o2 + k * 4, none⟩ = some (.slice a2 y.vals.length n2) ∧ W.cell? ⟨b2, o2 + k * 4 + 1, none⟩ = some (.int .i64 y.lo) ∧ W.cell? ⟨b2, o2 + k * 4 + 2, none⟩ = some (.int .i64 y.hi) ∧ W.cell? ⟨b2, o2 + k * 4 + 3, none⟩ = some (.slice e2 y.lin.length m2))
          ((go_split_ands; refine ⟨?_, ?_, ?_, ?_, ?_, ?_, ?_, ?_, ?_⟩ <;> (first | assumption | exact Below.drew (by assumption) | exact cell_drew (by assumption) | exact below_keep (by assumption) (by assumption) | exact cell_keep (by assumption) (by assumption))))
          (first
            | (go_at_call 39; (with_reducible refine (refRow_any _ _ _ _ _ _ _ _ _ _ _ rfl rfl).mono ?_); rintro e w3 ⟨rfl, hb3⟩)
            | (go_at_call 38; go_split_ands; refine (sameRow_any _ _ _ _ x.vals y.vals x.lin y.lin _ (HV1.out.below (by assumption)).vals (HU1.out.below (by assumption)).ints (HV2.out.below (by assumption)).vals (HU2.out.below (by assumption)).ints).mono ?_; rw [← HRR.out]; rintro e w3 ⟨rfl, hb3⟩))
        go_split_ands
        cases hrb : r
        · have HF : Hid (sameTups l m = false) := by show _ = _; rw [HT.out, hrb]; rfl
          go_wp2_with fail
          go_ret
          exact ⟨ret_bool (by rw [HF.out]), by assumption⟩
        · have HF : Hid (sameTups (l.drop (k + 1)) (m.drop (k + 1)) = sameTups l m) := by show _ = _; rw [HT.out, hrb]; rfl
          go_wp2_with fail
          go_roundw
          case rel => exact ⟨k + 1, by omega, by go_num, HF, by assumption⟩
          case measure => simp [intOf]; omega
    · go_wp2_with fail
      go_ret
      exact ⟨ret_bool (by rw [← HR.out, List.drop_of_length_le (by rw [HL.out]; omega), List.drop_of_length_le (l := m) (by rw [HM.out]; omega)]; rfl), hB⟩
theorem sameTups_ne (l m : List Tup) (h : l.length ≠ m.length) : sameTups l m = false := by
  induction l generalizing m with
  | nil => cases m with
    | nil => simp at h
    | cons => rfl
  | cons x l ih => cases m with
    | nil => rfl
    | cons y m => rw [sameTups, ih m (by simpa using h), Bool.and_false]
set_option maxHeartbeats 1000000 in
theorem sameTups_any (v u : Value) (l m : List Tup) (w : World) (hp : Tups w v l) (hp2 : Tups w u m) :
    Calls Tryz.prog 15 #[v, u] w fun e w' => e = .returned (.bool (sameTups l m)) ∧ Below w.heap.size w w' := by
  obtain ⟨a, c, rfl⟩ := hp.shape
  obtain ⟨a2, c2, rfl⟩ := hp2.shape
  by_cases hlen : l.length = m.length
  · rw [← hlen] at hp2 ⊢
    exact sameTups_len l.length a a2 c c2 l m w rfl hlen.symm hp hp2
  · have hne : ((l.length : Int) != (m.length : Int)) = true := by simpa using fun h => hlen (by omega)
    have HF : Hid (sameTups l m = false) := sameTups_ne l m hlen
    clear hp hp2 hlen
    go_enter Tryz.func15, Tryz.ntmps15
    go_wp2_with fail
    go_ret
    exact ⟨ret_bool (by rw [HF.out]), Below.refl _ _⟩
end Go.Proofs.YtngigmpaabmngaaGreatDoor

namespace Go.Proofs.YtngigmpaabmngaaGreatDoor
open Go.RowKit Go.Lib

/-- One tuple from 'lo' on, cut at these points, which ascend. -/
def cutAt (vals : List GVal) (lin : List Int) (hi : Int) : Int → List Int → List Tup
  | lo, [] => [⟨vals, lo, hi, lin⟩]
  | lo, p :: ps => if hi ≤ p then [⟨vals, lo, hi, lin⟩] else if lo < p then ⟨vals, lo, p, lin⟩ :: cutAt vals lin hi p ps else cutAt vals lin hi lo ps
def splitOne (ps : List Int) (t : Tup) : List Tup := if pvalid t.lo t.hi = true then cutAt t.vals t.lin t.hi t.lo (ps.drop (ps.countP (· < t.lo + 1))) else []
def splitAt (l : List Tup) (points : List Int) : List Tup := l.flatMap (splitOne (srt points))
theorem cutAt_length (vals : List GVal) (lin : List Int) (hi : Int) (ps : List Int) : ∀ lo, (cutAt vals lin hi lo ps).length ≤ ps.length + 1 := by
  induction ps with
  | nil => intro lo; simp [cutAt]
  | cons p ps ih =>
    intro lo
    rw [cutAt]
    split
    · simp
    · split
      · have := ih p; simp; omega
      · have := ih lo; simp; omega
theorem splitOne_length (ps : List Int) (t : Tup) : (splitOne ps t).length ≤ ps.length + 1 := by
  unfold splitOne
  split
  · exact Nat.le_trans (cutAt_length _ _ _ _ _) (by rw [List.length_drop]; omega)
  · simp
theorem flatMap_len_le {α β : Type} (f : α → List β) (m : Nat) (hf : ∀ x, (f x).length ≤ m) (l : List α) : (l.flatMap f).length ≤ l.length * m := by
  induction l with
  | nil => simp
  | cons a l ih => rw [List.flatMap_cons, List.length_append, List.length_cons, Nat.add_mul, Nat.one_mul]; have := hf a; omega
theorem splitAt_length (l : List Tup) (points : List Int) : (splitAt l points).length ≤ l.length * (points.length + 1) := by
  have h : (srt points).length = points.length := List.length_mergeSort _
  rw [← h]
  exact flatMap_len_le _ _ (splitOne_length _) l
theorem splitAt_snoc (l : List Tup) (points : List Int) (k : Nat) (t : Tup) (h : l[k]? = some t) : splitAt (l.take (k + 1)) points = splitAt (l.take k) points ++ splitOne (srt points) t := by
  rw [take_get h, splitAt, List.flatMap_append]; simp [splitAt]
theorem splitAt_take_length (l : List Tup) (points : List Int) (k : Nat) : (splitAt (l.take k) points).length ≤ l.length * (points.length + 1) :=
  Nat.le_trans (splitAt_length _ _) (Nat.mul_le_mul_right _ (List.length_take_le' _ _))
theorem srt_sorted (zs : List Int) : (srt zs).Pairwise (· ≤ ·) := by
  have := List.pairwise_mergeSort (le := fun x y : Int => decide (x ≤ y)) (fun a b c h1 h2 => by simp at *; omega) (fun a b => by simp; omega) zs
  exact this.imp (fun h => by simpa using h)
end Go.Proofs.YtngigmpaabmngaaGreatDoor
