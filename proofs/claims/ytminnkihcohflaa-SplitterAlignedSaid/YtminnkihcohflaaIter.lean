/- slices.Sorted(slices.Values(p)) at []int: a new slice that holds p's numbers, sorted. The closure of slices.Values reads p's cells between the rounds: so its contract asks that the loop's body keeps what lay before; the loop of slices.AppendSeq does. -/
import Derived.RangeFuncBox
import Derived.RangeFuncLeaves
import Derived.RangeFuncFrom
import Derived.Shelf.Abstract
import Derived.WalkKit
import Derived.OwnWalkIn
import Derived.TacticsInMore
import Derived.LoopNIn
import Derived.LoopIn
import Derived.Test.YtminnkihcohflaaShSl
import Derived.Test.YtminnkihcohflaaTup
namespace Go.Proofs.Ytminnkihcohflaa
open Go.RowKit Go.Maps Go.Sort Go.Shelf Go.Lib

section
attribute [local go_sem] Oper.semAt_some

set_option maxRecDepth 100000 in
set_option maxHeartbeats 2000000 in
/-- The closure of slices.Values, for a loop's body that keeps what lay below m0. -/
theorem values1_any (n : Nat) (hn : 1 ≤ n) (l Bs m0 b off cap : Nat) (hb : b < m0) (zs : List Int) (J Jx : List Int → World → Prop)
    (hY : ∀ pre x W, J pre W → pre.length < zs.length → YieldAt Fence.wide (n - 1) Try.prog l #[.int .i64 x] W fun e W' => (e = .returned (.bool true) ∧ J (pre ++ [x]) W' ∧ Below m0 W W') ∨ (e = .returned (.bool false) ∧ Jx (pre ++ [x]) W'))
    (hlen : zs.length ≤ 9223372036854775807) (W : World) (hBs : W.cell? ⟨Bs, 0, none⟩ = some (.slice (some ⟨b, off, none⟩) zs.length cap)) (hc : ∀ j u, (numCells zs)[j]? = some u → W.cell? ⟨b, off + j, none⟩ = some u) (h0 : J [] W) :
    CallsIn Fence.wide n Try.prog 78 #[.func (.yield l) #[] #[], .pointer (some ⟨Bs, 0, none⟩)] W fun e W' => (∃ v, e = .returned v) ∧ (J zs W' ∨ ∃ pre, Jx pre W') := by
  have HC := Lib.hid hc
  have HY := Lib.hid hY
  obtain ⟨m, hm⟩ : ∃ m, m = zs.length := ⟨_, rfl⟩
  have HM := Lib.hid hm
  rw [← hm] at hBs hlen
  clear hc hY hm
  refine callsIn_of_wp Try.func78 rfl trivial ?_ rfl
  simp only [Try.ntmps78, List.size_toArray, List.length_cons, List.length_nil, Nat.reduceAdd, Nat.reduceSub, Array.replicate_succ, Array.replicate_zero, List.push_toArray, List.append_toArray, List.nil_append, List.cons_append]
  gi_wp2
  gi_loopw [7] (fun i wr => ∃ k : Nat, k ≤ m ∧ i = .int .i64 k ∧ J (zs.take k) wr ∧ Below m0 W wr) (fun i _ => m - (intOf i).toNat)
  case atStart => exact ⟨0, Nat.zero_le _, rfl, h0, Below.refl _ _⟩
  case round =>
    obtain ⟨k, hk, rfl, hJs, hnx⟩ := hrel
    have HN := Lib.hid hnx
    clear hnx
    by_cases hlt : k < m
    · obtain ⟨x, hx⟩ := lget_some zs k (by rw [← HM.out]; exact hlt)
      have a2 : wr.cell? ⟨b, off + k, none⟩ = some (.int .i64 x) := (HN.out.cell (p := ⟨b, off + k, none⟩) hb).trans (HC.out k _ (numCells_at zs k x hx))
      obtain ⟨fn, tmps, assign, body, hy, hR⟩ := HY.out _ x wr hJs (by rw [List.length_take, ← HM.out]; omega)
      have HX := Lib.hid hx
      clear hx
      gi_wp2
      refine hR.mono ?_
      rintro e W3 (⟨rfl, hJ3, hk3⟩ | ⟨rfl, hJx3⟩)
      · gi_wp2
        go_roundw
        case rel => exact ⟨k + 1, by omega, by simp, by rw [take_get HX.out]; exact hJ3, HN.out.trans hk3⟩
        case measure => simp [intOf]; omega
      · gi_wp2
        refine bodyPost_ret (results_none rfl _ _ _) rfl ?_
        exact ⟨⟨_, rfl⟩, .inr ⟨_, hJx3⟩⟩
    · gi_wp2
      go_end0
      exact ⟨⟨_, rfl⟩, .inl (by rw [List.take_of_length_le (by rw [← HM.out]; omega)] at hJs; exact hJs)⟩

set_option maxRecDepth 100000 in
set_option maxHeartbeats 2000000 in
/-- The same at the empty slice. -/
theorem values1_none (n : Nat) (l Bs : Nat) (a : Option Addr) (cap : Nat) (J : List Int → World → Prop) (W : World) (hBs : W.cell? ⟨Bs, 0, none⟩ = some (.slice a 0 cap)) (h0 : J [] W) :
    CallsIn Fence.wide n Try.prog 78 #[.func (.yield l) #[] #[], .pointer (some ⟨Bs, 0, none⟩)] W fun e W' => (∃ v, e = .returned v) ∧ J [] W' := by
  refine callsIn_of_wp Try.func78 rfl trivial ?_ rfl
  simp only [Try.ntmps78, List.size_toArray, List.length_cons, List.length_nil, Nat.reduceAdd, Nat.reduceSub, Array.replicate_succ, Array.replicate_zero, List.push_toArray, List.append_toArray, List.nil_append, List.cons_append]
  gi_wp2
  gi_loopw [7] (fun i wr => i = .int .i64 0 ∧ J [] wr) (fun _ _ => 0)
  case atStart => exact ⟨rfl, h0⟩
  case round =>
    obtain ⟨rfl, hJs⟩ := hrel
    gi_wp2
    go_end0
    exact ⟨⟨_, rfl⟩, hJs⟩
end

/-- slices.Values(p), its closure's box at block Bs: an iterator that gives p's numbers to a loop that keeps what lay below m0. -/
theorem values_stops (n : Nat) (hn : 1 ≤ n) (Bs m0 : Nat) (v : Value) (zs : List Int) (w w1 : World) (hm0 : m0 = w.heap.size) (hb1 : Below w.heap.size w w1) (hBs : w1.cell? ⟨Bs, 0, none⟩ = some v) (hr : Reads w 1 v zs.length (numCells zs)) :
    SeqStopsK Fence.wide n Try.prog 78 #[.pointer (some ⟨Bs, 0, none⟩)] (fun x : Int => #[Value.int .i64 x]) (Below m0) (fun ys => ys = zs) (fun _ => True) zs.length w1 := by
  subst hm0
  intro l J Jx W hW _ _ hY h0
  have hc' := (hW.cell (World.block_lt_of_cell? w1 _ hBs)).trans hBs
  have hW0 : Below w.heap.size w W := hb1.trans (hW.mono hb1.size)
  obtain ⟨_, hm, a, c, rfl, _, hp⟩ := hr
  rcases Nat.eq_zero_or_pos zs.length with hz | hz
  · have hzs : zs = [] := List.eq_nil_of_length_eq_zero hz
    subst hzs
    exact (values1_none n l Bs a c J W hc' h0).mono fun e W' ⟨he, hj⟩ => ⟨he, .inl ⟨_, rfl, hj⟩⟩
  · obtain ⟨b, o, rfl, hc⟩ := hp hz
    have hb : b < w.heap.size := by
      obtain ⟨x, hx⟩ := lget_some zs 0 hz
      exact World.block_lt_of_cell? w _ (hc 0 _ (numCells_at zs 0 x hx))
    refine (values1_any n hn l Bs w.heap.size b o c hb zs J Jx hY hm W hc' (fun j u hu => (hW0.cell (World.block_lt_of_cell? w _ (hc j u hu))).trans (hc j u hu)) h0).mono ?_
    rintro e W' ⟨he, hj | ⟨pre, hj⟩⟩
    · exact ⟨he, .inl ⟨_, rfl, hj⟩⟩
    · exact ⟨he, .inr ⟨_, trivial, hj⟩⟩


section
attribute [local go_sem] Oper.semAt_some
/-- What AppendSeq's loop keeps: its box holds a row of its own with what has come. -/
structure ApAt (B : Nat) (w : World) (pre : List Int) (W : World) : Prop where
  box : ∃ v, W.heap[B]? = some (.cells #[v] 23 (0, 0)) ∧ W.ownsRow w.heap.size 3 1 v pre.length (numCells pre)
theorem apAt_own (B : Nat) (w : World) : OwnFrom w.heap.size (ApAt B w) := by
  intro s W W' row h hg hr
  obtain ⟨v, hv, ho⟩ := h.box
  have hne : ∀ (j : Nat) (o : Obj), W.heap[j]? = some o → o.isCells = true → some j ≠ row := by
    intro j o hj ho e
    obtain ⟨_, o', ho', hc⟩ := hr j e.symm
    rw [hj] at ho'; cases ho'; rw [ho] at hc; cases hc
  refine ⟨v, (hg.block B (Array.getElem?_eq_some_iff.1 hv).1 (hne _ _ hv rfl)).trans hv, ?_⟩
  refine ho.kept hg ?_
  rcases ho.2 with ⟨rfl, _⟩ | ⟨g, cap, cur, rfl, _, hgb, _⟩
  · exact .inl rfl
  · exact .inr (hne _ _ hgb rfl)
set_option maxRecDepth 100000 in
set_option maxHeartbeats 2000000 in
theorem appendSeq_any (n : Nat) (hn : 3 ≤ n) (Bs : Nat) (v : Value) (zs : List Int) (hN : zs.length ≤ maxLen) (hNb : zs.length * 8 ≤ 140737488355328) (w : World) (hBs : w.cell? ⟨Bs, 0, none⟩ = some v) (hr : Reads w 1 v zs.length (numCells zs)) :
    CallsIn Fence.wide n Try.prog 108 #[.slice none 0 0, .func (.func 78) #[] #[.pointer (some ⟨Bs, 0, none⟩)]] w fun e w' => ∃ v', e = .returned v' ∧ w'.ownsRow w.heap.size 3 1 v' zs.length (numCells zs) ∧ Below w.heap.size w w' := by
  have h1 : 1 ≤ n := by omega
  refine callsIn_of_wp_marks Try.func108 rfl trivial ?_ rfl
  simp only [Try.ntmps108, List.size_toArray, List.length_cons, List.length_nil, Nat.reduceAdd, Nat.reduceSub, Array.replicate_succ, Array.replicate_zero, List.push_toArray, List.append_toArray, List.nil_append, List.cons_append]
  gi_wp2
  have hb1 : Below w.heap.size w (w.alloc (.cells #[.slice none 0 0] 23)) := (Below.refl _ w).alloc (Nat.le_refl _) _
  refine wpIn_rangeFunc_ownF rfl h1 (gf := 78) (lb := #[.pointer (some ⟨Bs, 0, none⟩)]) rfl trivial (enters_of Try.func78 (by kernel_rfl) rfl)
    (values_stops (n - 1) (by omega) Bs w.heap.size v zs w _ rfl hb1 ((hb1.cell (World.block_lt_of_cell? w _ hBs)).trans hBs) hr) belowK_t (belowK_b (by simp)) (Below.refl _ _) (fun _ => rfl)
    (fun pre W => ApAt w.heap.size w pre W ∧ Below w.heap.size w W)
    (fun _ _ _ => False)
    (OwnFrom.and (fun s A B row hs hg hr => apAt_own _ _ s A B row hs hg (fun r e => ⟨by have := (hr r e).1; simp at this; omega, (hr r e).2⟩)) (ownFrom_below (Nat.le_refl _) (by simp)))
    (fun _ _ _ _ _ hs _ _ => hs)
    ⟨⟨_, World.alloc_heap_new w _, World.ownsRow_nil _ _ _ _⟩, hb1⟩
    (fun x => { tmps := #[.slice none 0 0, .func (.func 78) #[] #[.pointer (some ⟨Bs, 0, none⟩)], .pointer (some ⟨w.heap.size, 0, none⟩), undef, .slice none 0 0, .int .i64 x, .func (.func 78) #[] #[.pointer (some ⟨Bs, 0, none⟩)], .int .i64 x, undef, undef, undef, undef, undef], defers := [] }) ?assign ?body ?done ?stop
  case assign =>
    intro l x W K hK
    gi_wp2
    exact hK
  case body =>
    rintro l pre x W ⟨hA, hB⟩ hlt
    obtain ⟨v1, hv, hrow⟩ := hA.box
    obtain ⟨hc1, hf1⟩ := cell_of_box_a hv
    obtain ⟨i0, hi, hz0, hz1, hz2⟩ := info_parts sh_sorted66.i26
    have hwl : w.heap.size ≤ W.heap.size := hB.size
    have hBlt : w.heap.size < W.heap.size := (Array.getElem?_eq_some_iff.1 hv).1
    have hnB : some w.heap.size ≠ v1.ownBlock := by
      rcases ownsRow_ne_a hrow hv (fun cur e => by cases e) with e | e
      · rw [e]; simp
      · exact fun e' => e e'.symm
    have hrow2 := (hrow.alloc (.cells #[.int .i64 x] 3))
    have HV := Lib.hid hv
    have HR := Lib.hid hrow
    have HB := Lib.hid hB
    have HA := Lib.hid hA
    clear hv hrow hB hA
    gi_wp2_with (
        gi_at_builtin
        refine wpListIn_append_own _ rfl _ _ 23 rfl w.heap.size 3 i0 (.int .i64 0) 1 8 Try.underlying23 hi hz0 hz1 hz2 rfl (by decide) _ _ _ rfl hrow2 ⟨W.heap.size, 0, none⟩ 1 1 [.int .i64 x] rfl rfl (cell_one_new _ _ _) (by simp [Value.oneCell']) (by omega) (by omega) (by simp; omega) ?_
        intro v' w3 hown' hg3 _
        have hg4 : (W.alloc (.cells #[.int .i64 x] 3)).grownBy w3 v1.ownBlock := hg3
        have hv3 : w3.heap[w.heap.size]? = some (.cells #[v1] 23 (0, 0)) := (hg4.block w.heap.size (by simp; omega) hnB).trans ((Below.heap_alloc _ _ w.heap.size hBlt).trans HV.out)
        obtain ⟨hc3, hf3⟩ := cell_of_box_a hv3
        obtain ⟨a3, c3, rfl⟩ := own_shape hown'
        have HG4 := Lib.hid hg4
        have HV3 := Lib.hid hv3
        have HO3 := Lib.hid hown'
        clear hg3 hg4 hv3 hown'
        go_frame)
    have hkeep : KeepsOthers W w3 := (KeepsOthers.alloc W _).trans (KeepsOthers.of_grownBy HG4.out (fun j o hj ho => by
      rcases hrow2.2 with ⟨rfl, _⟩ | ⟨g, cap, cur, rfl, _, hgb, _⟩
      · cases hj
      · cases hj; rw [hgb] at ho; cases ho; rfl))
    have hbel : Below w.heap.size W w3 := ((Below.refl w.heap.size W).alloc hwl _).grown HG4.out (by simp; omega) (fun k e => (HR.out.lt k e).1)
    have hset := (Below.refl w.heap.size w3).setCell (p := ⟨w.heap.size, 0, none⟩) (Nat.le_refl _) (.slice a3 (pre.length + 1) c3)
    refine ⟨hkeep.trans (KeepsOthers.setCell _ _ _), hbel.trans hset, ⟨⟨_, heap_setCell_box_a _ HV3.out, ?_⟩⟩, (HB.out.trans hbel).trans hset⟩
    have := HO3.out.kept (grownBy_setCell0_a w3 w.heap.size (.slice a3 (pre.length + 1) c3)) (ownsRow_ne_a HO3.out HV3.out (fun cur e => by cases e))
    rw [List.length_append, show numCells (pre ++ [x]) = numCells pre ++ [.int .i64 x] by simp [numCells]]
    exact this
  case done =>
    rintro D ys W hD rfl ⟨hA, hB⟩ hK
    obtain ⟨v1, hv, hrow⟩ := hA.box
    obtain ⟨hc1, hf1⟩ := cell_of_box_a hv
    gi_wp2
    refine ⟨by simp, .inl ⟨_, _, rfl, run_takeDeferred hK, ?_⟩⟩
    exact ⟨_, results_tmp rfl _ _ _, v1, rfl, hrow.kept (grownBy_putObj_a _ _ _) (ownsRow_ne_a hrow hK (fun cur e => by cases e)), hB.trans (belowK_b (w := w) (Nat.le_refl _) W D _ _ (by simp at hD; omega) hK rfl rfl)⟩
  case stop =>
    rintro D c pre W _ _ h _
    exact h.elim
end

set_option maxHeartbeats 1000000 in
theorem collect_any (Bs : Nat) (v : Value) (zs : List Int) (hN : zs.length ≤ maxLen) (hNb : zs.length * 8 ≤ 140737488355328) (w : World) (hBs : w.cell? ⟨Bs, 0, none⟩ = some v) (hr : Reads w 1 v zs.length (numCells zs)) :
    Calls Try.prog 76 #[.func (.func 78) #[] #[.pointer (some ⟨Bs, 0, none⟩)]] w fun e w' => ∃ v', e = .returned v' ∧ w'.ownsRow w.heap.size 3 1 v' zs.length (numCells zs) ∧ Below w.heap.size w w' := by
  have HA := Lib.hid (callsIn_wide.1 (appendSeq_any 3 (by omega) Bs v zs hN hNb w hBs hr))
  clear hr hBs
  go_enter Try.func76, Try.ntmps76
  go_wp2_with (go_at_call 108; refine HA.out.mono ?_; rintro e w' ⟨v', rfl, ho, hb⟩)
  go_ret
  exact ⟨v', rfl, ho, hb⟩

/-- The numbers in order. -/
def srt (zs : List Int) : List Int := zs.mergeSort fun x y => decide (x ≤ y)
set_option maxHeartbeats 1000000 in
theorem sorted_any (Bs : Nat) (v : Value) (zs : List Int) (hN : zs.length ≤ maxLen) (hNb : zs.length * 8 ≤ 140737488355328) (w : World) (hBs : w.cell? ⟨Bs, 0, none⟩ = some v) (hr : Reads w 1 v zs.length (numCells zs)) :
    Calls Try.prog 43 #[.func (.func 78) #[] #[.pointer (some ⟨Bs, 0, none⟩)]] w fun e w' => ∃ v', e = .returned v' ∧ w'.ownsRow w.heap.size 3 1 v' zs.length (numCells (srt zs)) ∧ Below w.heap.size w w' := by
  have HA := Lib.hid (collect_any Bs v zs hN hNb w hBs hr)
  clear hr hBs
  go_enter Try.func43, Try.ntmps43
  go_wp2_with (go_at_call 76; refine HA.out.mono ?_; rintro e w1 ⟨v', rfl, ho, hb⟩)
  rcases ho.2 with ⟨rfl, hz⟩ | ⟨gb, cap, cur, rfl, hbase, hgb, r1, r2, r3, r4⟩
  · have hzs : zs = [] := List.eq_nil_of_length_eq_zero hz
    subst hzs
    go_wp2_with (go_at_call 77; refine (sh_slices_Sort_int_none none 0 w1).mono ?_; rintro e w' ⟨rfl, rfl⟩)
    go_ret
    exact ⟨_, rfl, by simpa [srt] using ho, hb⟩
  · have hH : Holds (Value.int .i64) w1 gb 0 zs.toArray := holds_of_block_i hgb (by simpa [numCells] using r4)
    have hgl : gb < w1.heap.size := (Array.getElem?_eq_some_iff.1 hgb).1
    have hsz : zs.length < 4611686018427387904 := by unfold maxLen at hN; omega
    have HS := Lib.hid (sh_slices_Sort_int gb 0 cap zs w1 hH hgl hsz)
    clear hH
    go_wp2_with (go_at_call 77; refine HS.out.mono ?_; rintro e w' ⟨rfl, nn, os, rfl⟩)
    go_ret
    have hlen : (srt zs).length = zs.length := List.length_mergeSort _
    refine ⟨_, rfl, ?_, hb.grown (grownBy_sorted_i _) hb.size (fun j hj => by cases hj; exact hbase)⟩
    exact ownsRow_sorted_i (ts := srt zs) hlen hbase hgb r1 r2 r3

set_option maxHeartbeats 1000000 in
theorem values_any (v : Value) (a : Option Addr) (n c : Nat) (hv : v = .slice a n c) (w : World) :
    Calls Try.prog 44 #[v] w fun e w' => e = .returned (.func (.func 78) #[] #[.pointer (some ⟨w.heap.size, 0, none⟩)]) ∧ w' = w.alloc (.cells #[v] 23) := by
  subst hv
  go_enter Try.func44, Try.ntmps44
  go_wp2
  go_ret
  exact ⟨rfl, rfl⟩
end Go.Proofs.Ytminnkihcohflaa
