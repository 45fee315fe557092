/- The program's SplitAt. No condition beside sizes. -/
import Derived.Test.YtminnkihcohflaaSplP
namespace Go.Proofs.Ytminnkihcohflaa
open Go.RowKit Go.Lib Go.Shelf

theorem bs_any (v : Value) (zs : List Int) (x : Int) (w : World) (hr : Reads w 1 v zs.length (numCells zs)) (hs : zs.Pairwise (· ≤ ·)) (hbig : zs.length ≤ 1000000000) :
    Calls Try.prog 46 #[v, .int .i64 x] w fun e w' => e = .returned (.tuple #[.int .i64 (zs.countP (· < x) : Nat), .bool (zs.contains x)]) ∧ ∃ q, w' = w.drewN q := by
  obtain ⟨_, _, a, c, rfl, _, hp⟩ := hr
  rcases Nat.eq_zero_or_pos zs.length with hz | hz
  · have : zs = [] := List.eq_nil_of_length_eq_zero hz
    subst this
    refine (sh_slices_BinarySearch_int_empty a c x w).mono ?_
    rintro e w' ⟨rfl, rfl⟩
    exact ⟨rfl, 0, rfl⟩
  · obtain ⟨b, o, rfl, hc⟩ := hp hz
    have := sh_slices_BinarySearch_int b o zs.length c zs x w (Nat.le_refl _) (by omega) (fun j hj => by
      rw [hc j _ (numCells_at zs j _ (List.getElem?_eq_getElem hj))]; simp [List.getD, List.getElem?_eq_getElem hj]) (by rw [List.take_length]; exact hs)
    rw [List.take_length] at this
    exact this

set_option maxHeartbeats 4000000 in
set_option maxRecDepth 100000 in
theorem splitAt_any (v u : Value) (l : List Tup) (ps : List Int) (w : World) (hv : Tups w v l) (hu : Sl intE w free u ps) (hsm : ∀ t ∈ l, t.vals.length ≤ 1000 ∧ t.lin.length ≤ 1000)
    (hsz : l.length * (ps.length + 1) ≤ 1000000000) (hps : ps.length ≤ 1000000000) :
    Calls Try.prog 14 #[v, u] w (RetOwn tupE w (splitAt l ps)) := by
  obtain ⟨a, c, rfl⟩ := hv.shape
  obtain ⟨a2, c2, rfl⟩ := hu.shape
  have HV := Lib.hid hv
  have HU := Lib.hid hu
  have HSM := Lib.hid hsm
  obtain ⟨n, hn⟩ : ∃ n, n = l.length := ⟨_, rfl⟩
  have HN := Lib.hid hn
  have h63 := hv.1
  rw [← hn] at h63 hsz HV ⊢
  clear hv hu hsm hn
  go_enter Try.func14, Try.ntmps14
  go_wp2_with fail
  refine (values_any _ a2 ps.length c2 rfl _).mono ?_
  rintro e w1 ⟨rfl, rfl⟩
  go_wp2_with fail
  have hb0 : Below w.heap.size w (w.alloc (.cells #[.slice a2 ps.length c2] 23)) := below_alloc _ _
  refine (sorted_any w.heap.size (.slice a2 ps.length c2) ps (by unfold maxLen; omega) (by omega) _ (by simp [go_sem]) (HU.out.ints.below hb0)).mono ?_
  rintro e w1 ⟨v1, rfl, hS, hb1⟩
  obtain ⟨q, hq⟩ : ∃ q, q = srt ps := ⟨_, rfl⟩
  have hql : q.length = ps.length := by rw [hq]; exact List.length_mergeSort _
  have hqs : q.Pairwise (· ≤ ·) := by rw [hq]; exact srt_sorted _
  rw [← hq, ← hql] at hS
  have HQ := Lib.hid hq
  have HQL := Lib.hid hql
  have HQS := Lib.hid hqs
  have hr1 : Reads w1 1 v1 q.length (numCells q) := own_reads hS
  obtain ⟨b1, c1, rfl⟩ := reads_shape hr1
  have HR1 := Lib.hid hr1
  have hB1 : Below w.heap.size w w1 := hb0.trans (hb1.mono hb0.size)
  clear hq hql hqs hS hb1 hb0 hr1
  go_wp2_with fail
  go_loopw [18, 5] (fun i o wr => ∃ k : Nat, k ≤ n ∧ i = .int .i64 k ∧ Own tupE wr w1.heap.size o (splitAt (l.take k) ps) ∧ Below w1.heap.size w1 wr) (fun i _ _ => n - (intOf i).toNat)
  case atStart => exact ⟨0, Nat.zero_le _, rfl, Own.nil _ _ _, Below.refl _ _⟩
  case round =>
    obtain ⟨k, hk, rfl, hO, hB⟩ := hrel
    obtain ⟨wo, rfl⟩ : ∃ wo : World, wo = wr := ⟨_, rfl⟩
    obtain ⟨oa, oc, rfl⟩ := hO.shape
    by_cases hlt : k < n
    · obtain ⟨x, hx⟩ := lget_some l k (by rw [← HN.out]; exact hlt)
      obtain ⟨b, o, a3, n3, e3, m3, rfl, hv1, hu1, p0, p1, p2, p3⟩ := tups_at HV.out hx
      replace p0 := cell_keep hB (cell_keep hB1 p0)
      replace p1 := cell_keep hB (cell_keep hB1 p1)
      replace p2 := cell_keep hB (cell_keep hB1 p2)
      replace p3 := cell_keep hB (cell_keep hB1 p3)
      have HX := Lib.hid hx
      clear hx
      go_wp2_with fail
      refine (pvalid_any _ _ _).mono ?_
      rintro e w2 ⟨rfl, hb2⟩
      have hbx := box_kept (World.alloc_heap_new wo (.cells #[.slice a3 x.vals.length n3, .int .i64 x.lo, .int .i64 x.hi, .slice e3 x.lin.length m3] 67)) hb2
      have hB2 : Below wo.heap.size wo w2 := below_alloc2' hb2
      have hz2 : wo.heap.size < w2.heap.size := (Array.getElem?_eq_some_iff.1 hbx).1
      have hO2 := hO.below hB2
      have hne2 : ∀ g, (Value.slice oa (splitAt (l.take k) ps).length oc).ownBlock = some g → g < wo.heap.size := fun g hg => (hO.lt g hg).2
      have hB2' : Below w1.heap.size w1 w2 := below_keep hB hB2
      clear hb2 p0 p1 p2 p3 hO hB2
      obtain ⟨⟨p0, p1, p2, p3⟩, f0, f1, f2, f3⟩ := box_four hbx
      have HBX := Lib.hid hbx
      clear hbx
      cases hval : pvalid x.lo x.hi
      · have HT : Hid (splitAt (l.take (k + 1)) ps = splitAt (l.take k) ps) := by show _ = _; rw [splitAt_snoc l ps k x HX.out, splitOne, hval]; simp
        clear hval
        go_wp2_with fail
        go_roundw
        case rel => exact ⟨k + 1, by omega, by go_num, by rw [HT.out]; exact hO2, hB2'⟩
        case measure => simp [intOf]; omega
      · have hv' : 0 ≤ x.lo ∧ x.lo < x.hi ∧ x.hi ≤ 1099511627776 := by simpa [pvalid] using hval
        obtain ⟨hv1', hv2', hv3'⟩ := hv'
        obtain ⟨j0, hj0⟩ : ∃ j0, j0 = q.countP (· < x.lo + 1) := ⟨_, rfl⟩
        have hj0l : j0 ≤ q.length := by rw [hj0]; exact List.countP_le_length
        have HT : Hid (splitAt (l.take (k + 1)) ps = splitAt (l.take k) ps ++ cutAt x.vals x.lin x.hi x.lo (q.drop j0)) := by show _ = _; rw [splitAt_snoc l ps k x HX.out, splitOne, hval, if_pos rfl, ← HQ.out, ← hj0]
        clear hval
        go_wp2_with fail
        refine (bs_any (.slice b1 q.length c1) q (x.lo + 1) _ (HR1.out.below hB2') HQS.out (by rw [HQL.out]; exact hps)).mono ?_
        rw [← hj0]
        rintro e w3 ⟨rfl, q3, rfl⟩
        clear hj0
        have hRd : Reads w1 1 (.slice (b1.map fun x => x.add j0) (q.length - j0) (c1 - j0)) (q.length - j0) (numCells (q.drop j0)) := by
          have := HR1.out.drop1 j0 hj0l
          rwa [show (numCells q).drop j0 = numCells (q.drop j0) by simp [numCells]] at this
        have hqd : (q.drop j0).length = q.length - j0 := List.length_drop
        obtain ⟨nq, hnq⟩ : ∃ nq, nq = q.length - j0 := ⟨_, rfl⟩
        have hnqb : nq ≤ 1000000000 := by have := HQL.out; omega
        obtain ⟨qs, hqs⟩ : ∃ qs, qs = q.drop j0 := ⟨_, rfl⟩
        rw [← hqs] at HT hRd hqd
        rw [← hnq] at hRd hqd
        have hn0 : c1 = j0 → nq = 0 := fun e => by
          have h1 : q.length ≤ c1 := by obtain ⟨_, _, _, _, e, h, _⟩ := HR1.out; cases e; exact h
          omega
        obtain ⟨B1', C1', HQD, HRq, HN0⟩ : ∃ (B1' : Option Addr) (C1' : Nat), Hid (qs.length = nq) ∧ Hid (Reads w1 1 (.slice B1' nq C1') nq (numCells qs)) ∧ Hid (B1' = (if c1 = j0 then b1 else b1.map fun x => x.add j0) ∧ C1' = c1 - j0 ∧ nq = q.length - j0) := by
          by_cases hcj : c1 = j0
          · have h0 := hn0 hcj
            subst h0
            refine ⟨b1, c1 - j0, hqd, ?_, by rw [if_pos hcj], rfl, hnq⟩
            have : qs = [] := List.eq_nil_of_length_eq_zero hqd
            subst this
            exact ⟨rfl, by omega, _, _, rfl, by omega, fun h => absurd h (by omega)⟩
          · exact ⟨_, _, hqd, hRd, by rw [if_neg hcj], rfl, hnq⟩
        obtain ⟨hs1, hs2⟩ := HSM.out x (List.mem_of_getElem? HX.out)
        have hTl : ∀ acc t, acc ++ [t] = splitAt (l.take (k + 1)) ps → acc.length < 1000000000 := fun acc t h => by
          have := splitAt_take_length l ps (k + 1)
          rw [← HN.out, ← h, List.length_append] at this
          simp at this; omega
        have hTl' : ∀ acc r, acc ++ r = splitAt (l.take (k + 1)) ps → acc.length ≤ 1000000000 := fun acc r h => by
          have := splitAt_take_length l ps (k + 1)
          rw [← HN.out, ← h, List.length_append] at this
          omega
        obtain ⟨tgt, htgt⟩ : ∃ tgt, tgt = splitAt (l.take (k + 1)) ps := ⟨_, rfl⟩
        have HTG := Lib.hid htgt
        rw [← htgt] at HT hTl hTl'
        have HTL := Lib.hid hTl
        have HTL' := Lib.hid hTl'
        clear hqd hnq hqs hRd hn0 htgt hTl hTl'
        have hbs2 : w1.heap.size ≤ w2.heap.size := hB2'.size
        by_cases hcj : c1 = j0
        · have hBB : B1' = b1 := by have := HN0.out.1; rwa [if_pos hcj] at this
          have hNN := HN0.out.2.2
          subst hBB
          subst hcj
          have HNN := Lib.hid hNN
          clear hNN
          go_wp2_with fail
          rw [← HNN.out]
          go_loopw [40, 8, 5] (fun i f o w4 => ∃ (j : Nat) (fr : Int) (acc : List Tup), j ≤ nq ∧ i = .int .i64 j ∧ f = .int .i64 fr ∧ x.lo ≤ fr ∧ fr < x.hi ∧ Own tupE w4 w1.heap.size o acc ∧ Hid (acc ++ cutAt x.vals x.lin x.hi fr (qs.drop j) = tgt) ∧ w4.heap[wo.heap.size]? = some (.cells #[.slice a3 x.vals.length n3, .int .i64 x.lo, .int .i64 x.hi, .slice e3 x.lin.length m3] 67) ∧ Below w1.heap.size w1 w4 ∧ some wo.heap.size ≠ o.ownBlock) (fun i _ _ _ => nq - (intOf i).toNat)
          case atStart => exact ⟨0, x.lo, _, Nat.zero_le _, rfl, rfl, Int.le_refl _, hv2', hO2.drewN _, HT.out.symm, HBX.out, below_drewN hB2' _, fun h => by have := hne2 _ h.symm; omega⟩
          case round =>
            obtain ⟨j, fr, acc, hj, rfl, rfl, hf1, hf2, hO4, HACC, hbx, hB4, hne⟩ := hrel
            obtain ⟨ob, oc4, rfl⟩ := hO4.shape
            obtain ⟨⟨p0, p1, p2, p3⟩, f0, f1, f2, f3⟩ := box_four hbx
            have HBX4 := Lib.hid hbx
            clear hbx
            by_cases hlt4 : j < nq
            · obtain ⟨y, hy⟩ := lget_some qs j (by rw [HQD.out]; exact hlt4)
              obtain ⟨_, _, A, cA, eA, _, hcA⟩ := HRq.out
              obtain ⟨bA, oA, eB, hcB⟩ := hcA (by omega)
              injection eA with eA _ _
              subst eA eB
              have hat := cell_keep hB4 (hcB _ _ (numCells_at qs j y hy))
              have HCUT : Hid (cutAt x.vals x.lin x.hi fr (qs.drop j) = if x.hi ≤ y then [⟨x.vals, fr, x.hi, x.lin⟩] else if fr < y then ⟨x.vals, fr, y, x.lin⟩ :: cutAt x.vals x.lin x.hi y (qs.drop (j + 1)) else cutAt x.vals x.lin x.hi fr (qs.drop (j + 1))) := by rw [drop_get hy]; exact Lib.hid rfl
              clear hcA hcB hy
              by_cases hge : x.hi ≤ y
              · have HFIN : Hid (acc ++ [⟨x.vals, fr, x.hi, x.lin⟩] = tgt) := by show _ = _; rw [← HACC.out, HCUT.out, if_pos hge]
                have hlen := HTL.out _ _ HFIN.out
                go_wp2_with fail
                go_region_held3 (fun W => Below w1.heap.size w1 W ∧ W.cell? ⟨wo.heap.size, 0, none⟩ = some (.slice a3 x.vals.length n3) ∧ W.cell? ⟨wo.heap.size, 1, none⟩ = some (.int .i64 x.lo) ∧ W.cell? ⟨wo.heap.size, 2, none⟩ = some (.int .i64 x.hi) ∧ W.cell? ⟨wo.heap.size, 3, none⟩ = some (.slice e3 x.lin.length m3))
                  ((go_split_ands; refine ⟨?_, ?_, ?_, ?_, ?_⟩ <;> (first | assumption | exact Below.drew (by assumption) | exact cell_drew (by assumption) | exact below_keep (by assumption) (by assumption) | exact cell_keep (by assumption) (by assumption) | exact below_alloc_keep (by assumption) | exact cell_alloc (by assumption) | exact Below.trans (by assumption) (Pushed.below (by assumption)) | exact Pushed.cell (by assumption) hne (by assumption))))
                  (first
                    | (go_at_call 48; (with_reducible refine (tupleRow_any _ _ _ _ _ _ _ _ _ _ _ rfl rfl).mono ?_); rintro e wR ⟨rfl, hbR⟩)
                    | (go_at_call 47; refine (during_any _ _ ⟨x.vals, fr, x.hi, x.lin⟩ _ (hv1.below (below_keep (below_keep hB1 hB4.drew) hbR)).vals (hu1.below (below_keep (below_keep hB1 hB4.drew) hbR)).ints hs1 hs2).mono ?_; rintro e wD hN; obtain ⟨a4, c4, b4, d4, rfl, his⟩ := hN.cells; have hbD := hN.below; clear hN)
                    | (refine step_push rfl _ _ 22 rfl tupE Try.underlying22 w1.heap.size (.slice ob acc.length oc4) acc rfl ((hO4.drew.below hbR).below hbD) [⟨x.vals, fr, x.hi, x.lin⟩] #[.slice a4 x.vals.length c4, .int .i64 fr, .int .i64 x.hi, .slice b4 x.lin.length d4] (Els.one (tupE.mono his (fun k _ hk => Nat.lt_of_lt_of_le (hO4.drew.lt k hk.symm).2 hbR.size))) 1 1 rfl rfl (by decide) (by unfold maxLen; omega) (by show _ * 64 ≤ _; omega) (Nat.le_trans (Nat.le_trans hB4.drew.size hbR.size) hbD.size) ?_; intro g cap w5 hP hPa))
                go_split_ands
                go_wp2_with fail
                go_roundw
                case rel => exact ⟨k + 1, by omega, by go_num, by rw [← HTG.out, ← HFIN.out]; exact hP.own' (by simp), by assumption⟩
                case measure => simp [intOf]; omega
              · have hl := HTL'.out _ _ HACC.out
                by_cases hgt : fr < y
                · have HNX : Hid ((acc ++ [⟨x.vals, fr, y, x.lin⟩]) ++ cutAt x.vals x.lin x.hi y (qs.drop (j + 1)) = tgt) := by show _ = _; rw [← HACC.out, HCUT.out, if_neg hge, if_pos hgt, List.append_assoc]; rfl
                  go_wp2_with (first | (go_at_call 48; (with_reducible refine (tupleRow_any _ _ _ _ _ _ _ _ _ _ _ rfl rfl).mono ?_); rintro e wR ⟨rfl, hbR⟩) | (go_at_call 47; refine (during_any _ _ ⟨x.vals, fr, y, x.lin⟩ _ (hv1.below (below_keep (below_keep hB1 hB4) hbR)).vals (hu1.below (below_keep (below_keep hB1 hB4) hbR)).ints hs1 hs2).mono ?_; rintro e wD hN; obtain ⟨a4, c4, b4, d4, rfl, his⟩ := hN.cells; have hbD := hN.below; clear hN) | (at_builtin; (refine wpList_push rfl _ _ 22 rfl tupE Try.underlying22 w1.heap.size (.slice ob acc.length oc4) acc rfl ((hO4.below hbR).below hbD) [⟨x.vals, fr, y, x.lin⟩] #[.slice a4 x.vals.length c4, .int .i64 fr, .int .i64 y, .slice b4 x.lin.length d4] (Els.one (tupE.mono his (fun k _ hk => Nat.lt_of_lt_of_le (hO4.lt k hk.symm).2 hbR.size))) 1 1 rfl rfl (by decide) (by unfold maxLen; omega) (by show _ * 64 ≤ _; omega) (Nat.le_trans (Nat.le_trans hB4.size hbR.size) hbD.size) ?_; intro g cap w5 hP hPa)))
                  go_roundw
                  case rel => exact ⟨j + 1, y, _, by omega, by go_num, rfl, by omega, by omega, hP.own' (by simp), HNX, hP.block hne (box_kept (box_kept HBX4.out hbR) hbD), hB4.trans (((hbR.mono hB4.size).trans (hbD.mono (Nat.le_trans hB4.size hbR.size))).trans hP.below), hP.ne' hne (box_kept (box_kept HBX4.out hbR) hbD)⟩
                  case measure => simp [intOf]; omega
                · have HNX : Hid (acc ++ cutAt x.vals x.lin x.hi fr (qs.drop (j + 1)) = tgt) := by show _ = _; rw [← HACC.out, HCUT.out, if_neg hge, if_neg hgt]
                  go_wp2_with fail
                  go_roundw
                  case rel => exact ⟨j + 1, fr, _, by omega, by go_num, rfl, hf1, hf2, hO4, HNX, HBX4.out, hB4, hne⟩
                  case measure => simp [intOf]; omega
            · have HFIN : Hid (acc ++ [⟨x.vals, fr, x.hi, x.lin⟩] = tgt) := by show _ = _; rw [← HACC.out, List.drop_of_length_le (by rw [HQD.out]; omega)]; rfl
              have hlen := HTL.out _ _ HFIN.out
              go_wp2_with fail
              go_region_held3 (fun W => Below w1.heap.size w1 W ∧ W.cell? ⟨wo.heap.size, 0, none⟩ = some (.slice a3 x.vals.length n3) ∧ W.cell? ⟨wo.heap.size, 1, none⟩ = some (.int .i64 x.lo) ∧ W.cell? ⟨wo.heap.size, 2, none⟩ = some (.int .i64 x.hi) ∧ W.cell? ⟨wo.heap.size, 3, none⟩ = some (.slice e3 x.lin.length m3))
                ((go_split_ands; refine ⟨?_, ?_, ?_, ?_, ?_⟩ <;> (first | assumption | exact Below.drew (by assumption) | exact cell_drew (by assumption) | exact below_keep (by assumption) (by assumption) | exact cell_keep (by assumption) (by assumption) | exact below_alloc_keep (by assumption) | exact cell_alloc (by assumption) | exact Below.trans (by assumption) (Pushed.below (by assumption)) | exact Pushed.cell (by assumption) hne (by assumption))))
                (first
                  | (go_at_call 48; (with_reducible refine (tupleRow_any _ _ _ _ _ _ _ _ _ _ _ rfl rfl).mono ?_); rintro e wR ⟨rfl, hbR⟩)
                  | (go_at_call 47; refine (during_any _ _ ⟨x.vals, fr, x.hi, x.lin⟩ _ (hv1.below (below_keep (below_keep hB1 hB4.drew) hbR)).vals (hu1.below (below_keep (below_keep hB1 hB4.drew) hbR)).ints hs1 hs2).mono ?_; rintro e wD hN; obtain ⟨a4, c4, b4, d4, rfl, his⟩ := hN.cells; have hbD := hN.below; clear hN)
                  | (refine step_push rfl _ _ 22 rfl tupE Try.underlying22 w1.heap.size (.slice ob acc.length oc4) acc rfl ((hO4.drew.below hbR).below hbD) [⟨x.vals, fr, x.hi, x.lin⟩] #[.slice a4 x.vals.length c4, .int .i64 fr, .int .i64 x.hi, .slice b4 x.lin.length d4] (Els.one (tupE.mono his (fun k _ hk => Nat.lt_of_lt_of_le (hO4.drew.lt k hk.symm).2 hbR.size))) 1 1 rfl rfl (by decide) (by unfold maxLen; omega) (by show _ * 64 ≤ _; omega) (Nat.le_trans (Nat.le_trans hB4.drew.size hbR.size) hbD.size) ?_; intro g cap w5 hP hPa))
              go_split_ands
              go_wp2_with fail
              go_roundw
              case rel => exact ⟨k + 1, by omega, by go_num, by rw [← HTG.out, ← HFIN.out]; exact hP.own' (by simp), by assumption⟩
              case measure => simp [intOf]; omega
        · have hBB : B1' = b1.map fun x => x.add j0 := by have := HN0.out.1; rwa [if_neg hcj] at this
          have hNN := HN0.out.2.2
          have HBB := Lib.hid hBB
          have HNN := Lib.hid hNN
          clear hBB hNN
          go_wp2_with fail
          rw [← HBB.out, ← HNN.out]
          go_loopw [40, 8, 5] (fun i f o w4 => ∃ (j : Nat) (fr : Int) (acc : List Tup), j ≤ nq ∧ i = .int .i64 j ∧ f = .int .i64 fr ∧ x.lo ≤ fr ∧ fr < x.hi ∧ Own tupE w4 w1.heap.size o acc ∧ Hid (acc ++ cutAt x.vals x.lin x.hi fr (qs.drop j) = tgt) ∧ w4.heap[wo.heap.size]? = some (.cells #[.slice a3 x.vals.length n3, .int .i64 x.lo, .int .i64 x.hi, .slice e3 x.lin.length m3] 67) ∧ Below w1.heap.size w1 w4 ∧ some wo.heap.size ≠ o.ownBlock) (fun i _ _ _ => nq - (intOf i).toNat)
          case atStart => exact ⟨0, x.lo, _, Nat.zero_le _, rfl, rfl, Int.le_refl _, hv2', hO2.drewN _, HT.out.symm, HBX.out, below_drewN hB2' _, fun h => by have := hne2 _ h.symm; omega⟩
          case round =>
            obtain ⟨j, fr, acc, hj, rfl, rfl, hf1, hf2, hO4, HACC, hbx, hB4, hne⟩ := hrel
            obtain ⟨ob, oc4, rfl⟩ := hO4.shape
            obtain ⟨⟨p0, p1, p2, p3⟩, f0, f1, f2, f3⟩ := box_four hbx
            have HBX4 := Lib.hid hbx
            clear hbx
            by_cases hlt4 : j < nq
            · obtain ⟨y, hy⟩ := lget_some qs j (by rw [HQD.out]; exact hlt4)
              obtain ⟨_, _, A, cA, eA, _, hcA⟩ := HRq.out
              obtain ⟨bA, oA, eB, hcB⟩ := hcA (by omega)
              injection eA with eA _ _
              subst eA eB
              have hat := cell_keep hB4 (hcB _ _ (numCells_at qs j y hy))
              have HCUT : Hid (cutAt x.vals x.lin x.hi fr (qs.drop j) = if x.hi ≤ y then [⟨x.vals, fr, x.hi, x.lin⟩] else if fr < y then ⟨x.vals, fr, y, x.lin⟩ :: cutAt x.vals x.lin x.hi y (qs.drop (j + 1)) else cutAt x.vals x.lin x.hi fr (qs.drop (j + 1))) := by rw [drop_get hy]; exact Lib.hid rfl
              clear hcA hcB hy
              by_cases hge : x.hi ≤ y
              · have HFIN : Hid (acc ++ [⟨x.vals, fr, x.hi, x.lin⟩] = tgt) := by show _ = _; rw [← HACC.out, HCUT.out, if_pos hge]
                have hlen := HTL.out _ _ HFIN.out
                go_wp2_with fail
                go_region_held3 (fun W => Below w1.heap.size w1 W ∧ W.cell? ⟨wo.heap.size, 0, none⟩ = some (.slice a3 x.vals.length n3) ∧ W.cell? ⟨wo.heap.size, 1, none⟩ = some (.int .i64 x.lo) ∧ W.cell? ⟨wo.heap.size, 2, none⟩ = some (.int .i64 x.hi) ∧ W.cell? ⟨wo.heap.size, 3, none⟩ = some (.slice e3 x.lin.length m3))
                  ((go_split_ands; refine ⟨?_, ?_, ?_, ?_, ?_⟩ <;> (first | assumption | exact Below.drew (by assumption) | exact cell_drew (by assumption) | exact below_keep (by assumption) (by assumption) | exact cell_keep (by assumption) (by assumption) | exact below_alloc_keep (by assumption) | exact cell_alloc (by assumption) | exact Below.trans (by assumption) (Pushed.below (by assumption)) | exact Pushed.cell (by assumption) hne (by assumption))))
                  (first
                    | (go_at_call 48; (with_reducible refine (tupleRow_any _ _ _ _ _ _ _ _ _ _ _ rfl rfl).mono ?_); rintro e wR ⟨rfl, hbR⟩)
                    | (go_at_call 47; refine (during_any _ _ ⟨x.vals, fr, x.hi, x.lin⟩ _ (hv1.below (below_keep (below_keep hB1 hB4.drew) hbR)).vals (hu1.below (below_keep (below_keep hB1 hB4.drew) hbR)).ints hs1 hs2).mono ?_; rintro e wD hN; obtain ⟨a4, c4, b4, d4, rfl, his⟩ := hN.cells; have hbD := hN.below; clear hN)
                    | (refine step_push rfl _ _ 22 rfl tupE Try.underlying22 w1.heap.size (.slice ob acc.length oc4) acc rfl ((hO4.drew.below hbR).below hbD) [⟨x.vals, fr, x.hi, x.lin⟩] #[.slice a4 x.vals.length c4, .int .i64 fr, .int .i64 x.hi, .slice b4 x.lin.length d4] (Els.one (tupE.mono his (fun k _ hk => Nat.lt_of_lt_of_le (hO4.drew.lt k hk.symm).2 hbR.size))) 1 1 rfl rfl (by decide) (by unfold maxLen; omega) (by show _ * 64 ≤ _; omega) (Nat.le_trans (Nat.le_trans hB4.drew.size hbR.size) hbD.size) ?_; intro g cap w5 hP hPa))
                go_split_ands
                go_wp2_with fail
                go_roundw
                case rel => exact ⟨k + 1, by omega, by go_num, by rw [← HTG.out, ← HFIN.out]; exact hP.own' (by simp), by assumption⟩
                case measure => simp [intOf]; omega
              · have hl := HTL'.out _ _ HACC.out
                by_cases hgt : fr < y
                · have HNX : Hid ((acc ++ [⟨x.vals, fr, y, x.lin⟩]) ++ cutAt x.vals x.lin x.hi y (qs.drop (j + 1)) = tgt) := by show _ = _; rw [← HACC.out, HCUT.out, if_neg hge, if_pos hgt, List.append_assoc]; rfl
                  go_wp2_with (first | (go_at_call 48; (with_reducible refine (tupleRow_any _ _ _ _ _ _ _ _ _ _ _ rfl rfl).mono ?_); rintro e wR ⟨rfl, hbR⟩) | (go_at_call 47; refine (during_any _ _ ⟨x.vals, fr, y, x.lin⟩ _ (hv1.below (below_keep (below_keep hB1 hB4) hbR)).vals (hu1.below (below_keep (below_keep hB1 hB4) hbR)).ints hs1 hs2).mono ?_; rintro e wD hN; obtain ⟨a4, c4, b4, d4, rfl, his⟩ := hN.cells; have hbD := hN.below; clear hN) | (at_builtin; (refine wpList_push rfl _ _ 22 rfl tupE Try.underlying22 w1.heap.size (.slice ob acc.length oc4) acc rfl ((hO4.below hbR).below hbD) [⟨x.vals, fr, y, x.lin⟩] #[.slice a4 x.vals.length c4, .int .i64 fr, .int .i64 y, .slice b4 x.lin.length d4] (Els.one (tupE.mono his (fun k _ hk => Nat.lt_of_lt_of_le (hO4.lt k hk.symm).2 hbR.size))) 1 1 rfl rfl (by decide) (by unfold maxLen; omega) (by show _ * 64 ≤ _; omega) (Nat.le_trans (Nat.le_trans hB4.size hbR.size) hbD.size) ?_; intro g cap w5 hP hPa)))
                  go_roundw
                  case rel => exact ⟨j + 1, y, _, by omega, by go_num, rfl, by omega, by omega, hP.own' (by simp), HNX, hP.block hne (box_kept (box_kept HBX4.out hbR) hbD), hB4.trans (((hbR.mono hB4.size).trans (hbD.mono (Nat.le_trans hB4.size hbR.size))).trans hP.below), hP.ne' hne (box_kept (box_kept HBX4.out hbR) hbD)⟩
                  case measure => simp [intOf]; omega
                · have HNX : Hid (acc ++ cutAt x.vals x.lin x.hi fr (qs.drop (j + 1)) = tgt) := by show _ = _; rw [← HACC.out, HCUT.out, if_neg hge, if_neg hgt]
                  go_wp2_with fail
                  go_roundw
                  case rel => exact ⟨j + 1, fr, _, by omega, by go_num, rfl, hf1, hf2, hO4, HNX, HBX4.out, hB4, hne⟩
                  case measure => simp [intOf]; omega
            · have HFIN : Hid (acc ++ [⟨x.vals, fr, x.hi, x.lin⟩] = tgt) := by show _ = _; rw [← HACC.out, List.drop_of_length_le (by rw [HQD.out]; omega)]; rfl
              have hlen := HTL.out _ _ HFIN.out
              go_wp2_with fail
              go_region_held3 (fun W => Below w1.heap.size w1 W ∧ W.cell? ⟨wo.heap.size, 0, none⟩ = some (.slice a3 x.vals.length n3) ∧ W.cell? ⟨wo.heap.size, 1, none⟩ = some (.int .i64 x.lo) ∧ W.cell? ⟨wo.heap.size, 2, none⟩ = some (.int .i64 x.hi) ∧ W.cell? ⟨wo.heap.size, 3, none⟩ = some (.slice e3 x.lin.length m3))
                ((go_split_ands; refine ⟨?_, ?_, ?_, ?_, ?_⟩ <;> (first | assumption | exact Below.drew (by assumption) | exact cell_drew (by assumption) | exact below_keep (by assumption) (by assumption) | exact cell_keep (by assumption) (by assumption) | exact below_alloc_keep (by assumption) | exact cell_alloc (by assumption) | exact Below.trans (by assumption) (Pushed.below (by assumption)) | exact Pushed.cell (by assumption) hne (by assumption))))
                (first
                  | (go_at_call 48; (with_reducible refine (tupleRow_any _ _ _ _ _ _ _ _ _ _ _ rfl rfl).mono ?_); rintro e wR ⟨rfl, hbR⟩)
                  | (go_at_call 47; refine (during_any _ _ ⟨x.vals, fr, x.hi, x.lin⟩ _ (hv1.below (below_keep (below_keep hB1 hB4.drew) hbR)).vals (hu1.below (below_keep (below_keep hB1 hB4.drew) hbR)).ints hs1 hs2).mono ?_; rintro e wD hN; obtain ⟨a4, c4, b4, d4, rfl, his⟩ := hN.cells; have hbD := hN.below; clear hN)
                  | (refine step_push rfl _ _ 22 rfl tupE Try.underlying22 w1.heap.size (.slice ob acc.length oc4) acc rfl ((hO4.drew.below hbR).below hbD) [⟨x.vals, fr, x.hi, x.lin⟩] #[.slice a4 x.vals.length c4, .int .i64 fr, .int .i64 x.hi, .slice b4 x.lin.length d4] (Els.one (tupE.mono his (fun k _ hk => Nat.lt_of_lt_of_le (hO4.drew.lt k hk.symm).2 hbR.size))) 1 1 rfl rfl (by decide) (by unfold maxLen; omega) (by show _ * 64 ≤ _; omega) (Nat.le_trans (Nat.le_trans hB4.drew.size hbR.size) hbD.size) ?_; intro g cap w5 hP hPa))
              go_split_ands
              go_wp2_with fail
              go_roundw
              case rel => exact ⟨k + 1, by omega, by go_num, by rw [← HTG.out, ← HFIN.out]; exact hP.own' (by simp), by assumption⟩
              case measure => simp [intOf]; omega
    · have HT : Hid (splitAt (l.take k) ps = splitAt l ps) := by show _ = _; rw [List.take_of_length_le (by rw [← HN.out]; omega)]
      go_wp2_with fail
      go_ret
      exact ⟨_, rfl, by rw [← HT.out]; exact hO.mono hB1.size, hB1.trans (hB.mono hB1.size)⟩
end Go.Proofs.Ytminnkihcohflaa
