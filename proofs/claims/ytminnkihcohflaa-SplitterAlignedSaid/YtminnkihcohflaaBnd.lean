/- Boundaries: the program's and the definition's; Align. No condition beside sizes. -/
import Derived.Test.YtminnkihcohflaaRSpl
import Derived.Test.YtminnkihcohflaaSplJ
import Derived.Test.YtminnkihcohflaaBndP
import Derived.Test.YtminnkihcohflaaShCp
namespace Go.Proofs.Ytminnkihcohflaa
open Go.RowKit Go.Lib Go.Shelf Go.Sort

theorem sort_own (v : Value) (l : List Int) (B : Nat) (w : World) (h : Own intE w B v l) (hB : B ≤ w.heap.size) (hs : l.length ≤ 1000000000) :
    Calls Try.prog 77 #[v] w fun e w' => e = .returned (.tuple #[]) ∧ Own intE w' B v (srt l) ∧ Below B w w' := by
  have ho := h.ints
  rcases ho.2 with ⟨rfl, hz⟩ | ⟨gb, cap, cur, rfl, hbase, hgb, r1, r2, r3, r4⟩
  · have hzs : l = [] := List.eq_nil_of_length_eq_zero hz
    subst hzs
    refine (sh_slices_Sort_int_none none 0 w).mono ?_
    rintro e w' ⟨rfl, rfl⟩
    exact ⟨rfl, by simpa [srt] using h, Below.refl _ _⟩
  · have hH : Holds (Value.int .i64) w gb 0 l.toArray := holds_of_block_i hgb (by simpa [numCells] using r4)
    have hgl : gb < w.heap.size := (Array.getElem?_eq_some_iff.1 hgb).1
    refine (sh_slices_Sort_int gb 0 cap l w hH hgl (by omega)).mono ?_
    rintro e w' ⟨rfl, nn, os, rfl⟩
    have hlen : (srt l).length = l.length := List.length_mergeSort _
    refine ⟨rfl, Own.of_ints ?_, (Below.refl _ _).grown (grownBy_sorted_i _) hB (fun j hj => by cases hj; exact hbase)⟩
    have := ownsRow_sorted_i (e := 3) (n := nn) (os := os) (ts := srt l) hlen hbase hgb r1 r2 r3
    rw [hlen]; exact this
theorem compact_own (v : Value) (l : List Int) (B : Nat) (w : World) (h : Own intE w B v l) (hB : B ≤ w.heap.size) (hs : l.length ≤ 1000000000) :
    Calls Try.prog 100 #[v] w fun e w' => ∃ v', e = .returned v' ∧ Own intE w' B v' (Lib.compact l) ∧ Below B w w' := by
  have ho := h.ints
  rcases ho.2 with ⟨rfl, hz⟩ | ⟨gb, cap, cur, rfl, hbase, hgb, r1, r2, r3, r4⟩
  · have hzs : l = [] := List.eq_nil_of_length_eq_zero hz
    subst hzs
    refine (sh_slices_Compact_int_empty none 0 w).mono ?_
    rintro e w' ⟨rfl, rfl⟩
    exact ⟨_, rfl, h, Below.refl _ _⟩
  · have hH : Holds (Value.int .i64) w gb 0 l.toArray := holds_of_block_i hgb (by simpa [numCells] using r4)
    refine (sh_slices_Compact_int gb 0 cap l w hH (by omega) r1).mono ?_
    rintro e w' ⟨rfl, nn, rfl⟩
    have hle := Lib.compact_length_le l
    have hlen : (Lib.compact l ++ List.replicate (l.length - (Lib.compact l).length) 0).length = l.length := by simp; omega
    have ho' := ownsRow_sorted_i (e := 3) (n := nn) (os := #[]) hlen hbase hgb r1 r2 r3
    have hg : w.grownBy (grow (putRow (Value.int .i64) (Sort.ahead w nn) gb 0 (Lib.compact l ++ List.replicate (l.length - (Lib.compact l).length) 0).toArray) #[]) (some gb) := grownBy_sorted_i _
    rw [grow_empty] at ho' hg
    refine ⟨_, rfl, Own.of_ints ?_, (Below.refl _ _).grown hg hB (fun j hj => by cases hj; exact hbase)⟩
    rcases ho'.2 with ⟨e, _⟩ | ⟨g, cap', cur', e, q1, q2, q3, q4, q5, q6⟩
    · cases e
    · cases e
      refine ⟨by simp [numCells], .inr ⟨_, _, cur', rfl, q1, q2, by omega, q4, q5, ?_⟩⟩
      have h7 := congrArg (List.take (Lib.compact l).length) q6
      rw [List.take_take, Nat.mul_one, Nat.min_eq_left hle, List.map_append, List.take_left' (by simp)] at h7
      rw [Nat.mul_one]; exact h7

set_option maxHeartbeats 4000000 in
set_option maxRecDepth 100000 in
theorem bnds_any (v : Value) (l : List Tup) (w : World) (hv : Tups w v l) (hsz : l.length ≤ 100000000) :
    Calls Try.prog 68 #[v] w (RetOwn intE w (bnds l)) := by
  obtain ⟨a, c, rfl⟩ := hv.shape
  have HV := Lib.hid hv
  obtain ⟨n, hn⟩ : ∃ n, n = l.length := ⟨_, rfl⟩
  have HN := Lib.hid hn
  rw [← hn] at hsz HV ⊢
  clear hv hn
  go_enter Try.func68, Try.ntmps68
  go_wp2_with fail
  go_loopw [8, 3] (fun i o wr => ∃ k : Nat, k ≤ n ∧ i = .int .i64 k ∧ Own intE wr w.heap.size o (allEnds (l.take k)) ∧ Below w.heap.size w wr) (fun i _ _ => n - (intOf i).toNat)
  case atStart => exact ⟨0, Nat.zero_le _, rfl, Own.nil _ _ _, Below.refl _ _⟩
  case round =>
    obtain ⟨k, hk, rfl, hO, hB⟩ := hrel
    have hle : (allEnds (l.take k)).length ≤ n * 2 := by rw [HN.out]; exact allEnds_take_length l k
    by_cases hlt : k < n
    · obtain ⟨x, hx⟩ := lget_some l k (by rw [← HN.out]; exact hlt)
      obtain ⟨b, o, a3, n3, e3, m3, rfl, hv1, hu1, p0, p1, p2, p3⟩ := tups_at HV.out hx
      replace p0 := cell_keep hB p0
      replace p1 := cell_keep hB p1
      replace p2 := cell_keep hB p2
      replace p3 := cell_keep hB p3
      have HT : Hid (allEnds (l.take (k + 1)) = allEnds (l.take k) ++ ends x) := allEnds_snoc l k x hx
      obtain ⟨acc, hacc⟩ : ∃ acc, acc = allEnds (l.take k) := ⟨_, rfl⟩
      rw [← hacc] at HT hO hle
      obtain ⟨oa, oc, rfl⟩ := hO.shape
      clear hx hacc
      go_wp2_with fail
      refine (pvalid_any _ _ _).mono ?_
      rintro e w2 ⟨rfl, hb2⟩
      have hbx := box_kept (World.alloc_heap_new wr (.cells #[.slice a3 x.vals.length n3, .int .i64 x.lo, .int .i64 x.hi, .slice e3 x.lin.length m3] 67)) hb2
      have hB2 : Below wr.heap.size wr w2 := below_alloc2' hb2
      have hO2 := hO.below hB2
      have hB2' : Below w.heap.size w w2 := below_keep hB hB2
      clear hb2 p0 p1 p2 p3 hO hB2
      obtain ⟨⟨p0, p1, p2, p3⟩, f0, f1, f2, f3⟩ := box_four hbx
      clear hbx
      cases hval : pvalid x.lo x.hi
      · have HT' : Hid (allEnds (l.take (k + 1)) = acc) := by show _ = _; rw [HT.out, ends, hval]; simp
        clear hval
        go_wp2_with fail
        go_roundw
        case rel => exact ⟨k + 1, by omega, by go_num, by rw [HT'.out]; exact hO2, hB2'⟩
        case measure => simp [intOf]; omega
      · have HT' : Hid (allEnds (l.take (k + 1)) = acc ++ [x.lo, x.hi]) := by show _ = _; rw [HT.out, ends, hval, if_pos rfl]
        clear hval
        go_wp2_with (at_builtin; refine wpList_push rfl _ _ 23 rfl intE Try.underlying23 w.heap.size (.slice oa acc.length oc) acc rfl hO2 [x.lo, x.hi] #[.int .i64 x.lo, .int .i64 x.hi] (Els.cons (cs := [.int .i64 x.lo]) rfl (Els.one (cs := [.int .i64 x.hi]) rfl)) 2 2 rfl rfl (by decide) (by unfold maxLen; omega) (by show _ * 8 ≤ _; omega) hB2'.size ?_; intro g cap w5 hP hPa)
        go_roundw
        case rel => exact ⟨k + 1, by omega, by go_num, by rw [HT'.out]; exact hP.own' (by simp), hB2'.trans hP.below⟩
        case measure => simp [intOf]; omega
    · have HT : Hid (allEnds (l.take k) = allEnds l) := by show _ = _; rw [List.take_of_length_le (by rw [← HN.out]; omega)]
      rw [HT.out] at hO hle
      obtain ⟨oa, oc, rfl⟩ := hO.shape
      go_wp2_with fail
      refine (sort_own _ _ w.heap.size _ hO hB.size (by omega)).mono ?_
      rintro e w2 ⟨rfl, hO2, hb2⟩
      go_wp2_with fail
      have hl2 : (srt (allEnds l)).length = (allEnds l).length := List.length_mergeSort _
      refine (compact_own _ _ w.heap.size _ hO2 (Nat.le_trans hB.size hb2.size) (by omega)).mono ?_
      rintro e w3 ⟨v3, rfl, hO3, hb3⟩
      clear hl2
      obtain ⟨a4, c4, rfl⟩ := hO3.shape
      go_wp2_with fail
      go_ret
      exact ⟨_, rfl, hO3, (hB.trans hb2).trans hb3⟩

set_option maxHeartbeats 4000000 in
set_option maxRecDepth 100000 in
theorem refBnd_any (v : Value) (l : List Tup) (w : World) (hv : Tups w v l) (hsz : l.length ≤ 100000000) :
    Calls Try.prog 35 #[v] w (RetOwn intE w (refBnd l)) := by
  obtain ⟨a, c, rfl⟩ := hv.shape
  have HV := Lib.hid hv
  obtain ⟨n, hn⟩ : ∃ n, n = l.length := ⟨_, rfl⟩
  have HN := Lib.hid hn
  rw [← hn] at hsz HV ⊢
  clear hv hn
  go_enter Try.func35, Try.ntmps35
  go_wp2_with fail
  go_loopw [8, 3] (fun i o wr => ∃ k : Nat, k ≤ n ∧ i = .int .i64 k ∧ Own intE wr w.heap.size o (refBnd (l.take k)) ∧ Below w.heap.size w wr) (fun i _ _ => n - (intOf i).toNat)
  case atStart => exact ⟨0, Nat.zero_le _, rfl, Own.nil _ _ _, Below.refl _ _⟩
  case round =>
    obtain ⟨k, hk, rfl, hO, hB⟩ := hrel
    have hle : (refBnd (l.take k)).length ≤ n * 2 := Nat.le_trans (refBnd_length _) (Nat.mul_le_mul_right _ (by rw [List.length_take, HN.out]; omega))
    by_cases hlt : k < n
    · obtain ⟨x, hx⟩ := lget_some l k (by rw [← HN.out]; exact hlt)
      obtain ⟨b, o, a3, n3, e3, m3, rfl, hv1, hu1, p0, p1, p2, p3⟩ := tups_at HV.out hx
      replace p0 := cell_keep hB p0
      replace p1 := cell_keep hB p1
      replace p2 := cell_keep hB p2
      replace p3 := cell_keep hB p3
      have HT : Hid (refBnd (l.take (k + 1)) = if pvalid x.lo x.hi = true then mergeL (refBnd (l.take k)) [x.lo, x.hi] else refBnd (l.take k)) := refBnd_snoc l k x hx
      obtain ⟨acc, hacc⟩ : ∃ acc, acc = refBnd (l.take k) := ⟨_, rfl⟩
      rw [← hacc] at HT hO hle
      obtain ⟨oa, oc, rfl⟩ := hO.shape
      clear hx hacc
      go_wp2_with fail
      refine (rvalid_any _ _ _).mono ?_
      rintro e w2 ⟨rfl, hb2⟩
      have hbx := box_kept (World.alloc_heap_new wr (.cells #[.slice a3 x.vals.length n3, .int .i64 x.lo, .int .i64 x.hi, .slice e3 x.lin.length m3] 67)) hb2
      have hB2 : Below wr.heap.size wr w2 := below_alloc2' hb2
      have hO2 := hO.below hB2
      have hB2' : Below w.heap.size w w2 := below_keep hB hB2
      clear hb2 p0 p1 p2 p3 hO hB2
      obtain ⟨⟨p0, p1, p2, p3⟩, f0, f1, f2, f3⟩ := box_four hbx
      clear hbx
      cases hval : pvalid x.lo x.hi
      · have HT' : Hid (refBnd (l.take (k + 1)) = acc) := by show _ = _; rw [HT.out, hval]; simp
        clear hval
        go_wp2_with fail
        go_roundw
        case rel => exact ⟨k + 1, by omega, by go_num, by rw [HT'.out]; exact hO2, hB2'⟩
        case measure => simp [intOf]; omega
      · have HT' : Hid (refBnd (l.take (k + 1)) = mergeL acc [x.lo, x.hi]) := by show _ = _; rw [HT.out, hval, if_pos rfl]
        clear hval
        go_wp2_with fail
        have hS2 : Sl intE (w2.alloc (.cells #[.int .i64 x.lo, .int .i64 x.hi] 3)) free (.slice (some ⟨w2.heap.size, 0, none⟩) 2 2) [x.lo, x.hi] := Sl.of_block (World.alloc_heap_new w2 _) (Els.cons (cs := [.int .i64 x.lo]) rfl (Els.one (cs := [.int .i64 x.hi]) rfl)) id rfl (by decide) (by decide)
        refine (merge_any _ _ acc [x.lo, x.hi] _ (hO2.sl.below (below_alloc _ _)) hS2 (by simp; omega)).mono ?_
        rintro e w3 ⟨v3, rfl, hO3, hb3⟩
        obtain ⟨a4, c4, rfl⟩ := hO3.shape
        have hb3' : Below w.heap.size w w3 := below_keep (below_alloc_keep hB2') hb3
        go_wp2_with fail
        go_roundw
        case rel => exact ⟨k + 1, by omega, by go_num, by rw [HT'.out]; exact hO3.mono (by simp; have := hB2'.size; omega), hb3'⟩
        case measure => simp [intOf]; omega
    · have HT : Hid (refBnd (l.take k) = refBnd l) := by show _ = _; rw [List.take_of_length_le (by rw [← HN.out]; omega)]
      rw [HT.out] at hO hle
      obtain ⟨oa, oc, rfl⟩ := hO.shape
      go_wp2_with fail
      go_ret
      exact ⟨_, rfl, hO, hB⟩

set_option maxHeartbeats 1000000 in
theorem align_any (v u : Value) (l m : List Tup) (w : World) (hv : Tups w v l) (hu : Tups w u m) (hsm : ∀ t ∈ l, t.vals.length ≤ 1000 ∧ t.lin.length ≤ 1000)
    (hsz : l.length * (m.length * 2 + 1) ≤ 1000000000) (hsm2 : m.length ≤ 100000000) :
    Calls Try.prog 34 #[v, u] w (RetOwn tupE w (splitAt l (bnds m))) := by
  obtain ⟨a, c, rfl⟩ := hv.shape
  obtain ⟨a2, c2, rfl⟩ := hu.shape
  have HV := Lib.hid hv
  have HU := Lib.hid hu
  have HSM := Lib.hid hsm
  clear hv hu hsm
  go_enter Try.func34, Try.ntmps34
  go_wp2_with fail
  refine (bnds_any _ m w HU.out hsm2).mono ?_
  rintro e w1 ⟨v1, rfl, hO, hb1⟩
  have hl := bnds_length m
  have HO := Lib.hid hO
  obtain ⟨a3, c3, rfl⟩ := hO.shape
  clear hO
  go_wp2_with fail
  refine (splitAt_any _ _ l (bnds m) w1 (HV.out.below hb1) HO.out.sl HSM.out (Nat.le_trans (Nat.mul_le_mul_left _ (Nat.succ_le_succ hl)) hsz) (by omega)).mono ?_
  rintro e w2 ⟨v2, rfl, hO2, hb2⟩
  obtain ⟨a4, c4, rfl⟩ := hO2.shape
  have HO2 := Lib.hid hO2
  clear hO2
  go_wp2_with fail
  go_ret
  exact ⟨_, rfl, HO2.out.mono hb1.size, below_keep hb1 hb2⟩
end Go.Proofs.Ytminnkihcohflaa
