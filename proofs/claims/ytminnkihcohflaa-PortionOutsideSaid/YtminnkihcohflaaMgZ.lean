/- A part of the proofs of the laws of chapter 19: Pdc. No condition beside sizes. -/
import Derived.Test.YtminnkihcohflaaMgL
import Derived.Test.YtminnkihcohflaaMgR
import Derived.Deep.DeepCutAuto
namespace Go.Proofs.Ytminnkihcohflaa
open Go.RowKit Go.Lib

set_option maxHeartbeats 1000000 in
theorem pick_any (k n : Nat) (_hk : k < 65536) (hn : 0 < n) (hn2 : n < 65536) (w : World) : Calls Try.prog 72 #[.int .i64 (k : Int), .int .i64 (n : Int)] w fun e w' => e = .returned (.int .i64 ((k % n : Nat) : Int)) ∧ w = w' := by
  have hz : ¬ (n : Int) ≤ 0 := by omega
  have hne : (n : Int) ≠ 0 := by omega
  have e1 : Int.tmod (k : Int) (n : Int) = ((k % n : Nat) : Int) := by rw [Int.ofNat_tmod]
  have hlt : k % n < n := Nat.mod_lt _ hn
  have e2 : Int.tmod (((k % n : Nat) : Int) + (n : Int)) (n : Int) = ((k % n : Nat) : Int) := by
    rw [show ((k % n : Nat) : Int) + (n : Int) = ((k % n + n : Nat) : Int) by omega, ← Int.ofNat_tmod, Nat.add_mod_right, Nat.mod_mod]
  go_enter Try.func72, Try.ntmps72
  go_wp2_with fail
  go_ret
  exact ⟨ret_int (by first | rfl | simp), rfl⟩
set_option maxHeartbeats 1000000 in
theorem kinds_any (w : World) : Calls Try.prog 40 #[] w fun e w' => ∃ v, e = .returned v ∧ Sl intE w' free v [1, 2] ∧ Below w.heap.size w w' := by
  go_enter Try.func40, Try.ntmps40
  go_wp2_with fail
  go_ret
  exact ⟨_, rfl, Sl.of_block (n := 2) (m := 2) (World.alloc_heap_new w _) (Els.cons (cs := [.int .i64 1]) rfl (Els.one (cs := [.int .i64 2]) rfl)) id rfl (by simp) (by simp), below_alloc _ _⟩
theorem gval0_in (x : Nat) : In64 (gval0 x).n := by
  unfold gval0
  split
  · constructor <;> decide
  · have h : (gint (((x % 3 : Nat) : Int) - 1)).n = ((x % 3 : Nat) : Int) - 1 := rfl
    rw [h]
    constructor <;> omega
theorem gval1_in (x : Nat) : In64 (gval1 x).n := by
  unfold gval1
  split
  · constructor <;> decide
  · exact ⟨by show (-9223372036854775808 : Int) ≤ 0; decide, by show (0 : Int) ≤ 9223372036854775807; decide⟩
set_option maxHeartbeats 2000000 in
theorem const_any (k x : Nat) (hk : k < 2) (hx : x < 65536) (w : World) : Calls Try.prog 73 #[.int .i64 (1 + (k : Int)), .int .u16 (x : Int)] w fun e w' => (∃ g, e = .returned (aggG g) ∧ In64 g.n) ∧ Below w.heap.size w w' := by
  have h6 : x % 6 < 65536 := by omega
  rcases (by omega : k = 0 ∨ k = 1) with rfl | rfl
  · have HC := fun W => Lib.hid (value0_any (x % 6) h6 W)
    have hz := gval0_in (x % 6)
    obtain ⟨g, hg⟩ : ∃ g, g = gval0 (x % 6) := ⟨_, rfl⟩
    rw [← hg] at HC hz
    obtain ⟨gk, gn, gs⟩ := g
    have HZ := Lib.hid hz
    clear hg hz hk
    go_enter Try.func73, Try.ntmps73
    go_wp2_with fail
    refine (HC _).out.mono ?_
    rintro e w1 ⟨rfl, hb1⟩
    obtain ⟨⟨c0, c1, c2⟩, f0, f1, f2⟩ := box_three (box_kept (World.alloc_heap_new w (.cells #[.int .i64 0, .int .i64 0, .string ⟨#[]⟩] 79)) hb1)
    have hb := below_alloc2' hb1
    clear hb1
    unfold aggG
    dsimp only
    go_wp2_with fail
    exact bodyPost_ret (v := aggG ⟨gk, gn, gs⟩) (by simp [aggG, results, Try.results73, go_sem, c0, c1, c2]) rfl ⟨⟨_, rfl, HZ.out⟩, ((hb.setCell (Nat.le_refl _) _).setCell (Nat.le_refl _) _).setCell (Nat.le_refl _) _⟩
  · have HC := fun W => Lib.hid (value1_any (x % 6) h6 W)
    have hz := gval1_in (x % 6)
    obtain ⟨g, hg⟩ : ∃ g, g = gval1 (x % 6) := ⟨_, rfl⟩
    rw [← hg] at HC hz
    obtain ⟨gk, gn, gs⟩ := g
    have HZ := Lib.hid hz
    clear hg hz hk
    go_enter Try.func73, Try.ntmps73
    go_wp2_with fail
    refine (HC _).out.mono ?_
    rintro e w1 ⟨rfl, hb1⟩
    obtain ⟨⟨c0, c1, c2⟩, f0, f1, f2⟩ := box_three (box_kept (World.alloc_heap_new w (.cells #[.int .i64 0, .int .i64 0, .string ⟨#[]⟩] 79)) hb1)
    have hb := below_alloc2' hb1
    clear hb1
    unfold aggG
    dsimp only
    go_wp2_with fail
    exact bodyPost_ret (v := aggG ⟨gk, gn, gs⟩) (by simp [aggG, results, Try.results73, go_sem, c0, c1, c2]) rfl ⟨⟨_, rfl, HZ.out⟩, ((hb.setCell (Nat.le_refl _) _).setCell (Nat.le_refl _) _).setCell (Nat.le_refl _) _⟩
/-- What the laws' predicates are like. -/
def PredOk (e : List GExp) : Prop := (∀ x ∈ e, In64 x.c.n) ∧ e.length ≤ 4
theorem in64_null : In64 gnull.n := by constructor <;> decide
/-- A row under construction: it is the call's own and new; some cells are as they were. -/
structure Bld (w : World) (M : Nat) (F : List (Addr × Value)) (W : World) (s : Value) (ex : List GExp) : Prop where
  own : Own expE W w.heap.size s ex
  below : Below w.heap.size w W
  new : ∀ k, s.ownBlock = some k → M ≤ k
  size : M ≤ W.heap.size
  cells : ∀ p ∈ F, p.1.block < M ∧ W.cell? p.1 = some p.2
theorem Bld.push {w : World} {M : Nat} {F : List (Addr × Value)} {W W' : World} {s : Value} {ex ys : List GExp} {g cap n : Nat} (h : Bld w M F W s ex) (hP : Pushed expE w.heap.size W W' s (ex ++ ys) g cap) (hn : (ex ++ ys).length = n) : Bld w M F W' (.slice (some ⟨g, 0, none⟩) n cap) (ex ++ ys) := by
  refine ⟨hP.own' hn, h.below.trans hP.below, fun k hk => ?_, Nat.le_trans h.size hP.kept.1, fun p hp => ?_⟩
  · have hk' : some g = some k := hk
    cases hk'
    rcases hP.place with h1 | h1
    · exact h.new _ h1
    · exact Nat.le_trans h.size h1
  · obtain ⟨h1, h2⟩ := h.cells p hp
    exact ⟨h1, hP.cell (fun e => by have := h.new _ e.symm; omega) h2⟩
theorem Bld.keep {w : World} {M : Nat} {F : List (Addr × Value)} {W W' : World} {s : Value} {ex : List GExp} (h : Bld w M F W s ex) (hb : Below W.heap.size W W') : Bld w M F W' s ex :=
  ⟨h.own.below hb, h.below.trans (hb.mono h.below.size), h.new, Nat.le_trans h.size hb.size, fun p hp => ⟨(h.cells p hp).1, cell_keep hb (h.cells p hp).2⟩⟩
theorem Bld.four {w : World} {M : Nat} {a0 a1 a2 a3 : Addr} {v0 v1 v2 v3 : Value} {W : World} {s : Value} {ex : List GExp} (h : Bld w M [(a0, v0), (a1, v1), (a2, v2), (a3, v3)] W s ex) : W.cell? a0 = some v0 ∧ W.cell? a1 = some v1 ∧ W.cell? a2 = some v2 ∧ W.cell? a3 = some v3 :=
  ⟨(h.cells (a0, v0) (by simp)).2, (h.cells (a1, v1) (by simp)).2, (h.cells (a2, v2) (by simp)).2, (h.cells (a3, v3) (by simp)).2⟩
set_option maxHeartbeats 8000000 in
set_option maxRecDepth 100000 in
theorem pred_any (vk : Value) (x0 x1 x2 x3 : Nat) (h0 : x0 < 65536) (h1 : x1 < 65536) (h2 : x2 < 65536) (h3 : x3 < 65536) (w : World) (hk : Sl intE w free vk [1, 2]) :
    Calls Try.prog 39 #[.slice none 0 0, vk, .agg #[.int .u16 (x0 : Int), .int .u16 (x1 : Int), .int .u16 (x2 : Int), .int .u16 (x3 : Int)]] w fun e w' => ∃ ve ex, e = .returned (.tuple #[ve, .int .i64 ((ex.length : Int) - 1)]) ∧ Own expE w' w.heap.size ve ex ∧ PredOk ex ∧ Below w.heap.size w w' := by
  obtain ⟨a, c, rfl⟩ := hk.shape
  change Sl intE w free (.slice a 2 c) [1, 2] at hk
  change Calls _ _ #[_, .slice a 2 c, _] _ _
  obtain ⟨i, hi⟩ : ∃ i, i = x0 % 2 := ⟨_, rfl⟩
  obtain ⟨k, hkk⟩ : ∃ k, k = x1 % 2 := ⟨_, rfl⟩
  have hi2 : i < 2 := by omega
  have hk2 : k < 2 := by omega
  have P0 : ∀ W, Hid (Calls Try.prog 72 #[.int .i64 (x0 : Int), .int .i64 2] W fun e w' => e = .returned (.int .i64 (i : Int)) ∧ W = w') := fun W => hi ▸ pick_any x0 2 h0 (by decide) (by decide) W
  have P1 : ∀ W, Hid (Calls Try.prog 72 #[.int .i64 (x1 : Int), .int .i64 2] W fun e w' => e = .returned (.int .i64 (k : Int)) ∧ W = w') := fun W => hkk ▸ pick_any x1 2 h1 (by decide) (by decide) W
  have HCN := fun W => Lib.hid (const_any i x3 hi2 h3 W)
  have hgi : ([1, 2] : List Int)[i]? = some (1 + (i : Int)) := by rcases (by omega : i = 0 ∨ i = 1) with rfl | rfl <;> rfl
  have hgk : ([1, 2] : List Int)[k]? = some (1 + (k : Int)) := by rcases (by omega : k = 0 ∨ k = 1) with rfl | rfl <;> rfl
  obtain ⟨b, o, rfl, pi⟩ := ints_at' hk hgi
  obtain ⟨b', o', e', pk⟩ := ints_at' hk hgk
  cases e'
  have hbx := World.alloc_heap_new w (.cells #[.int .u16 (x0 : Int), .int .u16 (x1 : Int), .int .u16 (x2 : Int), .int .u16 (x3 : Int)] 74)
  obtain ⟨⟨c0, c1, c2, c3⟩, _, _, _, _⟩ := box_four hbx
  have hb0 := below_alloc w (.cells #[.int .u16 (x0 : Int), .int .u16 (x1 : Int), .int .u16 (x2 : Int), .int .u16 (x3 : Int)] 74)
  have pi0 := cell_keep hb0 pi
  have pk0 := cell_keep hb0 pk
  have hsz : w.heap.size < (w.alloc (.cells #[.int .u16 (x0 : Int), .int .u16 (x1 : Int), .int .u16 (x2 : Int), .int .u16 (x3 : Int)] 74)).heap.size := World.block_lt_of_cell? _ _ c0
  obtain ⟨w1, hw1⟩ : ∃ w1, w1 = w.alloc (.cells #[.int .u16 (x0 : Int), .int .u16 (x1 : Int), .int .u16 (x2 : Int), .int .u16 (x3 : Int)] 74) := ⟨_, rfl⟩
  rw [← hw1] at c0 c1 c2 c3 pi0 pk0 hb0 hsz
  have HW := Lib.hid hw1
  have HB0 := Lib.hid hb0
  clear hi hkk hgi hgk hk hbx hb0 pi pk hw1
  go_enter Try.func39, Try.ntmps39
  go_upto_region 1 with fail
  rw [← HW.out]
  have hbb : Below w1.heap.size w1 w1 := .refl _ _
  have e0 : IntKind.i64.wrap (x0 : Int) = x0 := IntWalk.i64_in _ (by omega)
  have e1 : IntKind.i64.wrap (x1 : Int) = x1 := IntWalk.i64_in _ (by omega)
  clear HW
  go_region_held3 (fun W => Below w1.heap.size w1 W ∧ W.cell? ⟨w.heap.size, 0, none⟩ = some (.int .u16 (x0 : Int)) ∧ W.cell? ⟨w.heap.size, 1, none⟩ = some (.int .u16 (x1 : Int)))
    ((go_split_ands; refine ⟨?_, ?_, ?_⟩ <;> (first | with_reducible assumption | with_reducible exact Below.drew (by assumption) | with_reducible exact cell_drew (by assumption))))
    (first
      | (go_at_call 72; with_reducible refine (P0 _).out.mono ?_; rintro e' wP ⟨rfl, rfl⟩)
      | (go_at_call 72; with_reducible refine (P1 _).out.mono ?_; rintro e' wQ ⟨rfl, rfl⟩))
  all_goals (
    have q2 : w1.drew.cell? ⟨w.heap.size, 2, none⟩ = some (.int .u16 (x2 : Int)) := c2
    have q3 : w1.drew.cell? ⟨w.heap.size, 3, none⟩ = some (.int .u16 (x3 : Int)) := c3
    have qi : w1.drew.cell? ⟨b, o + i, none⟩ = some (.int .i64 (1 + (i : Int))) := pi0
    have qk : w1.drew.cell? ⟨b, o + k, none⟩ = some (.int .i64 (1 + (k : Int))) := pk0
    have HD0 : Hid (Bld w w1.drew.heap.size [(⟨w.heap.size, 2, none⟩, .int .u16 (x2 : Int)), (⟨w.heap.size, 3, none⟩, .int .u16 (x3 : Int)), (⟨b, o + i, none⟩, .int .i64 (1 + (i : Int))), (⟨b, o + k, none⟩, .int .i64 (1 + (k : Int)))] w1.drew (.slice none 0 0) []) := Lib.hid ⟨Own.nil _ _ _, HB0.out.drew, (by intro k hk; cases hk), Nat.le_refl _, (by
      intro p hp
      simp only [List.mem_cons, List.not_mem_nil, or_false] at hp
      rcases hp with rfl | rfl | rfl | rfl
      · exact ⟨hsz, q2⟩
      · exact ⟨hsz, q3⟩
      · exact ⟨World.block_lt_of_cell? _ _ qi, qi⟩
      · exact ⟨World.block_lt_of_cell? _ _ qk, qk⟩)⟩
    go_split_ands
    clear hbb c0 c1 c2 c3 pi0 pk0 hsz HB0 P0 P1 q2 q3 qi qk
    generalize w1.drew = wz at *
    obtain ⟨M, hM⟩ : ∃ M, M = wz.heap.size := ⟨_, rfl⟩
    rw [← hM] at HD0
    clear hM
    by_cases h5 : x2 % 5 = 0
    · have h5' : (((x2 : Int) % 5) == 0) = true := by rw [beq_iff_eq]; omega
      go_wp2_with (first
        | (at_builtin; refine wpList_push rfl (.tmp 24) (.tmp 27) 32 rfl expE Try.underlying32 w.heap.size (.slice none 0 0) [] rfl HD0.out.own [⟨2, 0, 0, i, gnull⟩] #[.int .i64 2, .int .i64 0, .int .i64 0, .int .i64 (i : Int), .int .i64 0, .int .i64 0, .string ⟨#[]⟩] (Els.one rfl) 1 1 rfl rfl (by decide) (by show 0 + 1 ≤ 9223372036854775807; decide) (by show (0 + 1) * 64 ≤ 140737488355328; decide) HD0.out.below.size ?_; intro g1 cap1 wp1 hP1 hPa1; have HD1 := Lib.hid (Bld.push HD0.out hP1 (n := 1) rfl); clear hP1 hPa1; obtain ⟨p2, p3, pi, pk⟩ := HD1.out.four)
        | (at_builtin; refine wpList_push rfl (.tmp 36) (.tmp 39) 32 rfl expE Try.underlying32 w.heap.size (.slice (some ⟨g1, 0, none⟩) 1 cap1) [⟨2, 0, 0, i, gnull⟩] rfl HD1.out.own [⟨11, 0, 0, 0, gnull⟩] #[.int .i64 11, .int .i64 0, .int .i64 0, .int .i64 0, .int .i64 0, .int .i64 0, .string ⟨#[]⟩] (Els.one rfl) 1 1 rfl rfl (by decide) (by show 1 + 1 ≤ 9223372036854775807; decide) (by show (1 + 1) * 64 ≤ 140737488355328; decide) HD1.out.below.size ?_; intro g2 cap2 wp2 hP2 hPa2; have HD2 := Lib.hid (Bld.push HD1.out hP2 (n := 2) rfl); clear hP2 hPa2; obtain ⟨p2, p3, pi, pk⟩ := HD2.out.four)
        | fail)
      refine bodyPost_ret (v := .tuple #[.slice (some ⟨g2, 0, none⟩) 2 cap2, .int .i64 1]) (by simp [results, Try.results39, go_sem]) rfl ?_
      exact ⟨_, [⟨2, 0, 0, i, gnull⟩, ⟨11, 0, 0, 0, gnull⟩], rfl, HD2.out.own, ⟨(by intro x hx; simp at hx; rcases hx with rfl | rfl <;> exact in64_null), (by simp)⟩, HD2.out.below⟩
    · have h5' : (((x2 : Int) % 5) == 0) = false := by rw [beq_eq_false_iff_ne]; omega
      have hi2' : (i : Int) < 2 := by omega
      have hk2' : (k : Int) < 2 := by omega
      go_upto_region 7 with (first
        | (at_builtin; refine wpList_push rfl (.tmp 24) (.tmp 27) 32 rfl expE Try.underlying32 w.heap.size (.slice none 0 0) [] rfl HD0.out.own [⟨2, 0, 0, i, gnull⟩] #[.int .i64 2, .int .i64 0, .int .i64 0, .int .i64 (i : Int), .int .i64 0, .int .i64 0, .string ⟨#[]⟩] (Els.one rfl) 1 1 rfl rfl (by decide) (by show 0 + 1 ≤ 9223372036854775807; decide) (by show (0 + 1) * 64 ≤ 140737488355328; decide) HD0.out.below.size ?_; intro g1 cap1 wp1 hP1 hPa1; have HD1 := Lib.hid (Bld.push HD0.out hP1 (n := 1) rfl); clear hP1 hPa1; obtain ⟨p2, p3, pi, pk⟩ := HD1.out.four)
        | fail)
      go_cut [59] (fun s59 wx => ∃ q : Bool, s59 = .bool q ∧ Hid (Bld w M [(⟨w.heap.size, 2, none⟩, .int .u16 (x2 : Int)), (⟨w.heap.size, 3, none⟩, .int .u16 (x3 : Int)), (⟨b, o + i, none⟩, .int .i64 (1 + (i : Int))), (⟨b, o + k, none⟩, .int .i64 (1 + (k : Int)))] wx (.slice (some ⟨g1, 0, none⟩) 1 cap1) [⟨2, 0, 0, i, gnull⟩]))
      case first =>
        by_cases hik : i = k
        · subst hik
          by_cases h53 : x2 % 5 < 3
          · have g53 : (x2 : Int) % 5 < 3 := by omega
            go_region
            all_goals (
              go_wp2_with fail
              go_meet
              first
                | exact ⟨_, rfl, HD1⟩
                | exact ⟨_, rfl, Lib.hid (HD1.out.keep (Below.refl _ _).drew)⟩
                | exact ⟨_, rfl, Lib.hid (HD1.out.keep (below_drewN (Below.refl _ _) _))⟩)
          · have g53 : ¬ (x2 : Int) % 5 < 3 := by omega
            go_region
            all_goals (
              go_wp2_with fail
              go_meet
              first
                | exact ⟨_, rfl, HD1⟩
                | exact ⟨_, rfl, Lib.hid (HD1.out.keep (Below.refl _ _).drew)⟩
                | exact ⟨_, rfl, Lib.hid (HD1.out.keep (below_drewN (Below.refl _ _) _))⟩)
        · have gik : (1 + (i : Int) == 1 + (k : Int)) = false := by rw [beq_eq_false_iff_ne]; omega
          go_region
          all_goals (
            go_wp2_with fail
            go_meet
            first
              | exact ⟨_, rfl, HD1⟩
              | exact ⟨_, rfl, Lib.hid (HD1.out.keep (Below.refl _ _).drew)⟩
              | exact ⟨_, rfl, Lib.hid (HD1.out.keep (below_drewN (Below.refl _ _) _))⟩)
      case rest =>
        obtain ⟨q, rfl, HE1⟩ := hcut
        clear HD0 HD1 p2 p3 pi pk
        obtain ⟨p2, p3, pi, pk⟩ := HE1.out.four
        have hbS := HE1.out.below
        go_upto_if 59 with fail
        go_cut [0] (fun s0 wx => ∃ g2 cap2 e1, s0 = .slice (some ⟨g2, 0, none⟩) 2 cap2 ∧ In64 (GExp.c e1).n ∧ Hid (Bld w M [(⟨w.heap.size, 2, none⟩, .int .u16 (x2 : Int)), (⟨w.heap.size, 3, none⟩, .int .u16 (x3 : Int)), (⟨b, o + i, none⟩, .int .i64 (1 + (i : Int))), (⟨b, o + k, none⟩, .int .i64 (1 + (k : Int)))] wx (.slice (some ⟨g2, 0, none⟩) 2 cap2) [⟨2, 0, 0, i, gnull⟩, e1]))
        case first =>
          cases q
          · go_wp2_with fail
            go_region_held3 (fun W => Below w.heap.size w W ∧ W.cell? ⟨w.heap.size, 3, none⟩ = some (.int .u16 (x3 : Int)) ∧ W.cell? ⟨b, o + i, none⟩ = some (.int .i64 (1 + (i : Int))))
              ((go_split_ands; refine ⟨?_, ?_, ?_⟩ <;> (first | with_reducible assumption | with_reducible exact Below.drew (by assumption) | with_reducible exact cell_drew (by assumption) | with_reducible exact below_keep (by assumption) (by assumption) | with_reducible exact cell_keep (by assumption) (by assumption) | with_reducible exact below_alloc_keep (by assumption) | with_reducible exact cell_alloc (by assumption) | with_reducible exact below_alloc_drew (by assumption) | with_reducible exact cell_alloc_drew (by assumption))))
              (first
                | (go_at_call 73; go_split_ands; refine (HCN _).out.mono ?_; rintro e' wC ⟨⟨⟨gk, gn, gs⟩, rfl, hgc⟩, hbC⟩; dsimp only [aggG]; have hbw2 : Below wc.heap.size wc wC := (by first | exact hbC | exact (Below.refl _ _).drew.trans hbC); have HEC := Lib.hid (HE1.out.keep hbw2))
                | (refine step_push rfl (.tmp 65) (.tmp 74) 32 rfl expE Try.underlying32 w.heap.size (.slice (some ⟨g1, 0, none⟩) 1 cap1) [⟨2, 0, 0, i, gnull⟩] rfl HEC.out.own [⟨1, 0, 0, 0, ⟨gk, gn, gs⟩⟩] #[.int .i64 1, .int .i64 0, .int .i64 0, .int .i64 0, .int .i64 gk, .int .i64 gn, .string gs] (Els.one rfl) 1 1 rfl rfl (by decide) (by show 1 + 1 ≤ 9223372036854775807; decide) (by show (1 + 1) * 64 ≤ 140737488355328; decide) HEC.out.below.size ?_; intro g2 cap2 wp2 hP2 hPa2; have HD2 := Lib.hid (Bld.push HEC.out hP2 (n := 2) rfl); clear hP2 hPa2; have hS2 := HD2.out.below; obtain ⟨r2, r3, ri, rk⟩ := HD2.out.four))
            all_goals (
              go_wp2_with fail
              go_meet
              exact ⟨g2, cap2, _, rfl, hgc, HD2⟩)
          · go_wp2_with (first
              | (at_builtin; refine wpList_push rfl (.tmp 60) (.tmp 63) 32 rfl expE Try.underlying32 w.heap.size (.slice (some ⟨g1, 0, none⟩) 1 cap1) [⟨2, 0, 0, i, gnull⟩] rfl HE1.out.own [⟨2, 0, 0, k, gnull⟩] #[.int .i64 2, .int .i64 0, .int .i64 0, .int .i64 (k : Int), .int .i64 0, .int .i64 0, .string ⟨#[]⟩] (Els.one rfl) 1 1 rfl rfl (by decide) (by show 1 + 1 ≤ 9223372036854775807; decide) (by show (1 + 1) * 64 ≤ 140737488355328; decide) HE1.out.below.size ?_; intro g2 cap2 wp2 hP2 hPa2; have HD2 := Lib.hid (Bld.push HE1.out hP2 (n := 2) rfl); clear hP2 hPa2; obtain ⟨p2, p3, pi, pk⟩ := HD2.out.four)
              | fail)
            go_meet
            exact ⟨g2, cap2, _, rfl, in64_null, HD2⟩
        case rest =>
          clear HE1 p2 p3 pi pk hbS
          obtain ⟨g2, cap2, e1, rfl, hc1, HE2⟩ := hcut
          obtain ⟨p2, p3, pi, pk⟩ := HE2.out.four
          have hcM : ∀ x ∈ [⟨2, 0, 0, i, gnull⟩, e1], In64 (GExp.c x).n := (by intro x hx; simp at hx; rcases hx with rfl | rfl <;> first | exact in64_null | exact hc1)
          clear hc1
          go_upto_if 79 with fail
          go_cut [11] (fun s11 wx => ∃ op : Int, s11 = .int .i64 op ∧ Hid (Bld w M [(⟨w.heap.size, 2, none⟩, .int .u16 (x2 : Int)), (⟨w.heap.size, 3, none⟩, .int .u16 (x3 : Int)), (⟨b, o + i, none⟩, .int .i64 (1 + (i : Int))), (⟨b, o + k, none⟩, .int .i64 (1 + (k : Int)))] wx (.slice (some ⟨g2, 0, none⟩) 2 cap2) [⟨2, 0, 0, i, gnull⟩, e1]))
          case first =>
            by_cases h22 : x2 % 2 = 0
            · have h22' : (((x2 : Int) % 2) == 0) = true := by rw [beq_iff_eq]; omega
              go_wp2_with fail
              go_meet
              exact ⟨_, rfl, HE2⟩
            · have h22' : (((x2 : Int) % 2) == 0) = false := by rw [beq_eq_false_iff_ne]; omega
              go_wp2_with fail
              go_meet
              exact ⟨_, rfl, HE2⟩
          case rest =>
            clear HE2 p2 p3 pi pk
            obtain ⟨op, rfl, HE2⟩ := hcut
            obtain ⟨p2, p3, pi, pk⟩ := HE2.out.four
            by_cases h34 : x3 % 4 = 0
            · have h34' : (((x3 : Int) % 4) == 0) = true := by rw [beq_iff_eq]; omega
              go_wp2_with (first
                | (at_builtin; refine wpList_push rfl (.tmp 80) (.tmp 86) 32 rfl expE Try.underlying32 w.heap.size (.slice (some ⟨g2, 0, none⟩) 2 cap2) [⟨2, 0, 0, i, gnull⟩, e1] rfl HE2.out.own [⟨op, 0, 1, 0, gnull⟩] #[.int .i64 op, .int .i64 0, .int .i64 1, .int .i64 0, .int .i64 0, .int .i64 0, .string ⟨#[]⟩] (Els.one rfl) 1 1 rfl rfl (by decide) (by show 2 + 1 ≤ 9223372036854775807; decide) (by show (2 + 1) * 64 ≤ 140737488355328; decide) HE2.out.below.size ?_; intro g3 cap3 wp3 hP3 hPa3; have HD3 := Lib.hid (Bld.push HE2.out hP3 (n := 3) rfl); clear hP3 hPa3; obtain ⟨p2, p3, pi, pk⟩ := HD3.out.four)
                | (at_builtin; refine wpList_push rfl (.tmp 92) (.tmp 97) 32 rfl expE Try.underlying32 w.heap.size (.slice (some ⟨g3, 0, none⟩) 3 cap3) [⟨2, 0, 0, i, gnull⟩, e1, ⟨op, 0, 1, 0, gnull⟩] rfl HD3.out.own [⟨10, 2, 0, 0, gnull⟩] #[.int .i64 10, .int .i64 2, .int .i64 0, .int .i64 0, .int .i64 0, .int .i64 0, .string ⟨#[]⟩] (Els.one rfl) 1 1 rfl rfl (by decide) (by show 3 + 1 ≤ 9223372036854775807; decide) (by show (3 + 1) * 64 ≤ 140737488355328; decide) HD3.out.below.size ?_; intro g4 cap4 wp4 hP4 hPa4; have HD4 := Lib.hid (Bld.push HD3.out hP4 (n := 4) rfl); clear hP4 hPa4; obtain ⟨p2, p3, pi, pk⟩ := HD4.out.four)
                | fail)
              refine bodyPost_ret (v := .tuple #[.slice (some ⟨g4, 0, none⟩) 4 cap4, .int .i64 3]) (by simp [results, Try.results39, go_sem]) rfl ?_
              exact ⟨_, [⟨2, 0, 0, i, gnull⟩, e1, ⟨op, 0, 1, 0, gnull⟩, ⟨10, 2, 0, 0, gnull⟩], rfl, HD4.out.own, ⟨(by intro x hx; simp at hx; rcases hx with rfl | rfl | rfl | rfl <;> first | exact in64_null | exact hcM _ (by simp)), (by simp)⟩, HD4.out.below⟩
            · have h34' : (((x3 : Int) % 4) == 0) = false := by rw [beq_eq_false_iff_ne]; omega
              go_wp2_with (first
                | (at_builtin; refine wpList_push rfl (.tmp 80) (.tmp 86) 32 rfl expE Try.underlying32 w.heap.size (.slice (some ⟨g2, 0, none⟩) 2 cap2) [⟨2, 0, 0, i, gnull⟩, e1] rfl HE2.out.own [⟨op, 0, 1, 0, gnull⟩] #[.int .i64 op, .int .i64 0, .int .i64 1, .int .i64 0, .int .i64 0, .int .i64 0, .string ⟨#[]⟩] (Els.one rfl) 1 1 rfl rfl (by decide) (by show 2 + 1 ≤ 9223372036854775807; decide) (by show (2 + 1) * 64 ≤ 140737488355328; decide) HE2.out.below.size ?_; intro g3 cap3 wp3 hP3 hPa3; have HD3 := Lib.hid (Bld.push HE2.out hP3 (n := 3) rfl); clear hP3 hPa3; obtain ⟨p2, p3, pi, pk⟩ := HD3.out.four)
                | fail)
              refine bodyPost_ret (v := .tuple #[.slice (some ⟨g3, 0, none⟩) 3 cap3, .int .i64 2]) (by simp [results, Try.results39, go_sem]) rfl ?_
              exact ⟨_, [⟨2, 0, 0, i, gnull⟩, e1, ⟨op, 0, 1, 0, gnull⟩], rfl, HD3.out.own, ⟨(by intro x hx; simp at hx; rcases hx with rfl | rfl | rfl <;> first | exact in64_null | exact hcM _ (by simp)), (by simp)⟩, HD3.out.below⟩)
end Go.Proofs.Ytminnkihcohflaa
