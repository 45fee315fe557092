/- The definition's SplitAt. No condition beside sizes. -/
import Derived.Test.YtminnkihcohflaaMrg
import Derived.Test.YtminnkihcohflaaRSplP
namespace Go.Proofs.Ytminnkihcohflaa
open Go.RowKit Go.Lib Go.Shelf

set_option maxHeartbeats 1000000 in
theorem rvalid_any (lo hi : Int) (w : World) :
    Calls Try.prog 67 #[.agg #[.int .i64 lo, .int .i64 hi]] w fun e w' => e = .returned (.bool (pvalid lo hi)) ∧ Below w.heap.size w w' := by
  go_enter Try.func67, Try.ntmps67
  go_wp2
  all_goals go_ret
  all_goals refine ⟨congrArg (fun b => Ending.returned (.bool b)) ?_, below_alloc _ _⟩
  all_goals (simp [pvalid, *]; try omega)

/-- What was there before the call is clear of a row of the call's own. -/
theorem Sl.clearOf {P : Program} {α : Type} {E : El P α} {w0 w : World} {G : Nat → Prop} {v u : Value} {ys : List α} (hu : Sl E w0 G u ys) (hb : Below w0.heap.size w0 w) (hlt : ∀ k, v.ownBlock = some k → w0.heap.size ≤ k) : Sl E w (fun k => some k = v.ownBlock) u ys :=
  ((hu.old (Nat.le_refl _)).below hb).mono (fun k _ hk => hlt k hk.symm)

set_option maxHeartbeats 4000000 in
set_option maxRecDepth 100000 in
theorem refSplit_any (v u : Value) (l : List Tup) (ps : List Int) (w : World) (hv : Tups w v l) (hu : Sl intE w free u ps)
    (hsz : l.length * (ps.length + 1) ≤ 1000000000) (hps : ps.length ≤ 1000000000) :
    Calls Try.prog 33 #[v, u] w (RetOwn tupE w (refSplit l ps)) := by
  obtain ⟨a, c, rfl⟩ := hv.shape
  obtain ⟨a2, c2, rfl⟩ := hu.shape
  have HV := Lib.hid hv
  have HU := Lib.hid hu
  obtain ⟨n, hn⟩ : ∃ n, n = l.length := ⟨_, rfl⟩
  have HN := Lib.hid hn
  have h63 := hv.1
  rw [← hn] at h63 hsz HV ⊢
  clear hv hu hn
  go_enter Try.func33, Try.ntmps33
  go_wp2_with fail
  refine (merge_any _ (.slice none 0 0) ps [] _ HU.out (Sl.nil _ _ _ _ _) (by simpa using hps)).mono ?_
  rintro e w1 ⟨v1, rfl, hS, hB1⟩
  obtain ⟨q, hq⟩ : ∃ q, q = mergeL ps [] := ⟨_, rfl⟩
  rw [← hq] at hS
  have HQ := Lib.hid hq
  have hqb : q.length ≤ 1000000000 := by have := mergeL_length ps []; rw [hq]; simp at this; omega
  obtain ⟨nq, hnq⟩ : ∃ nq, nq = q.length := ⟨_, rfl⟩
  have HNQ := Lib.hid hnq
  have hS1 := hS.sl
  obtain ⟨b1, c1, rfl⟩ := hS1.shape
  have HS1 := Lib.hid hS1
  rw [← hnq] at hqb HS1 ⊢
  clear hq hS hS1 hnq
  go_wp2_with fail
  go_loopw [15, 5] (fun i o wr => ∃ k : Nat, k ≤ n ∧ i = .int .i64 k ∧ Own tupE wr w1.heap.size o (refSplit (l.take k) ps) ∧ Below w1.heap.size w1 wr) (fun i _ _ => n - (intOf i).toNat)
  case atStart => exact ⟨0, Nat.zero_le _, rfl, Own.nil _ _ _, Below.refl _ _⟩
  case round =>
    obtain ⟨k, hk, rfl, hO, hB⟩ := hrel
    obtain ⟨wo, rfl⟩ : ∃ wo : World, wo = wr := ⟨_, rfl⟩
    obtain ⟨oa, oc, rfl⟩ := hO.shape
    by_cases hlt : k < n
    · obtain ⟨x, hx⟩ := lget_some l k (by rw [← HN.out]; exact hlt)
      obtain ⟨b, o, a3, n3, e3, m3, rfl, hv1, hu1, p0, p1, p2, p3⟩ := tups_at HV.out hx
      replace p0 := cell_keep hB (cell_keep hB1 p0)
      replace p1 := cell_keep hB (cell_keep hB1 p1)
      replace p2 := cell_keep hB (cell_keep hB1 p2)
      replace p3 := cell_keep hB (cell_keep hB1 p3)
      have HX := Lib.hid hx
      clear hx
      go_wp2_with fail
      refine (rvalid_any _ _ _).mono ?_
      rintro e w2 ⟨rfl, hb2⟩
      have hbx := box_kept (World.alloc_heap_new wo (.cells #[.slice a3 x.vals.length n3, .int .i64 x.lo, .int .i64 x.hi, .slice e3 x.lin.length m3] 67)) hb2
      have hB2 : Below wo.heap.size wo w2 := below_alloc2' hb2
      have hO2 := hO.below hB2
      have hne2 : ∀ g, (Value.slice oa (refSplit (l.take k) ps).length oc).ownBlock = some g → g < wo.heap.size := fun g hg => (hO.lt g hg).2
      have hB2' : Below w1.heap.size w1 w2 := below_keep hB hB2
      clear hb2 p0 p1 p2 p3 hO hB2
      obtain ⟨⟨p0, p1, p2, p3⟩, f0, f1, f2, f3⟩ := box_four hbx
      have HBX := Lib.hid hbx
      clear hbx
      cases hval : pvalid x.lo x.hi
      · have HT : Hid (refSplit (l.take (k + 1)) ps = refSplit (l.take k) ps) := by show _ = _; rw [refSplit_snoc l ps k x HX.out, refOne, hval]; simp
        clear hval
        go_wp2_with fail
        go_roundw
        case rel => exact ⟨k + 1, by omega, by go_num, by rw [HT.out]; exact hO2, hB2'⟩
        case measure => simp [intOf]; omega
      · obtain ⟨tgt, htgt⟩ : ∃ tgt, tgt = refSplit (l.take (k + 1)) ps := ⟨_, rfl⟩
        have HT : Hid (refSplit (l.take k) ps ++ refCut x.vals x.lin x.hi x.lo (q.drop 0) = tgt) := by show _ = _; rw [htgt, refSplit_snoc l ps k x HX.out, refOne, hval, if_pos rfl, ← HQ.out]; rfl
        have HTG := Lib.hid htgt
        have HTL : Hid (∀ acc r, acc ++ r = tgt → acc.length ≤ 1000000000) := fun acc r h => by
          have := refSplit_take_length l ps (k + 1)
          rw [← HN.out, ← HTG.out, ← h, List.length_append] at this
          omega
        clear hval htgt
        go_wp2_with fail
        go_loopw [28, 8, 5] (fun i f o w4 => ∃ (j : Nat) (fr : Int) (acc : List Tup), j ≤ nq ∧ i = .int .i64 j ∧ f = .int .i64 fr ∧ Own tupE w4 w1.heap.size o acc ∧ Hid (acc ++ refCut x.vals x.lin x.hi fr (q.drop j) = tgt) ∧ w4.heap[wo.heap.size]? = some (.cells #[.slice a3 x.vals.length n3, .int .i64 x.lo, .int .i64 x.hi, .slice e3 x.lin.length m3] 67) ∧ Below w1.heap.size w1 w4 ∧ some wo.heap.size ≠ o.ownBlock) (fun i _ _ _ => nq - (intOf i).toNat)
        case atStart => exact ⟨0, x.lo, _, Nat.zero_le _, rfl, rfl, hO2, HT.out, HBX.out, hB2', fun h => by have := hne2 _ h.symm; omega⟩
        case round =>
          obtain ⟨j, fr, acc, hj, rfl, rfl, hO4, HACC, hbx, hB4, hne⟩ := hrel
          obtain ⟨w4, rfl⟩ : ∃ w4 : World, w4 = wr := ⟨_, rfl⟩
          obtain ⟨ob, oc4, rfl⟩ := hO4.shape
          obtain ⟨⟨p0, p1, p2, p3⟩, f0, f1, f2, f3⟩ := box_four hbx
          have HBX4 := Lib.hid hbx
          clear hbx
          have hl := HTL.out _ _ HACC.out
          have hcl := fun k hk => Nat.le_trans hB1.size (hO4.lt k hk).1
          have hB0 := below_keep hB1 hB4
          have HIS : Hid (∀ lo hi : Int, Els tupE w4 (fun k => some k = (Value.slice ob acc.length oc4).ownBlock) [⟨x.vals, lo, hi, x.lin⟩] [.slice a3 x.vals.length n3, .int .i64 lo, .int .i64 hi, .slice e3 x.lin.length m3]) := fun lo hi => Els.one ⟨_, _, rfl, hv1.clearOf hB0 hcl, hu1.clearOf hB0 hcl⟩
          by_cases hlt4 : j < nq
          · obtain ⟨y, hy⟩ := lget_some q j (by rw [← HNQ.out]; exact hlt4)
            obtain ⟨bA, oA, eA, hat⟩ := ints_at HS1.out hy
            subst eA
            replace hat := cell_keep hB4 hat
            have HCUT : Hid (refCut x.vals x.lin x.hi fr (q.drop j) = if fr < y ∧ y < x.hi then ⟨x.vals, fr, y, x.lin⟩ :: refCut x.vals x.lin x.hi y (q.drop (j + 1)) else refCut x.vals x.lin x.hi fr (q.drop (j + 1))) := by rw [drop_get hy]; exact Lib.hid rfl
            clear hy
            by_cases h1 : fr < y
            · by_cases h2 : y < x.hi
              · have HNX : Hid ((acc ++ [⟨x.vals, fr, y, x.lin⟩]) ++ refCut x.vals x.lin x.hi y (q.drop (j + 1)) = tgt) := by show _ = _; rw [← HACC.out, HCUT.out, if_pos ⟨h1, h2⟩, List.append_assoc]; rfl
                go_wp2_with (at_builtin; refine wpList_push rfl _ _ 22 rfl tupE Try.underlying22 w1.heap.size (.slice ob acc.length oc4) acc rfl hO4 [⟨x.vals, fr, y, x.lin⟩] #[.slice a3 x.vals.length n3, .int .i64 fr, .int .i64 y, .slice e3 x.lin.length m3] (HIS.out fr y) 1 1 rfl rfl (by decide) (by unfold maxLen; omega) (by show _ * 64 ≤ _; omega) hB4.size ?_; intro g cap w5 hP hPa)
                go_roundw
                case rel => exact ⟨j + 1, y, _, by omega, by go_num, rfl, hP.own' (by simp), HNX, hP.block hne HBX4.out, hB4.trans hP.below, hP.ne' hne HBX4.out⟩
                case measure => simp [intOf]; omega
              · have HNX : Hid (acc ++ refCut x.vals x.lin x.hi fr (q.drop (j + 1)) = tgt) := by show _ = _; rw [← HACC.out, HCUT.out, if_neg (fun h => h2 h.2)]
                go_wp2_with fail
                go_roundw
                case rel => exact ⟨j + 1, fr, _, by omega, by go_num, rfl, hO4, HNX, HBX4.out, hB4, hne⟩
                case measure => simp [intOf]; omega
            · have HNX : Hid (acc ++ refCut x.vals x.lin x.hi fr (q.drop (j + 1)) = tgt) := by show _ = _; rw [← HACC.out, HCUT.out, if_neg (fun h => h1 h.1)]
              go_wp2_with fail
              go_roundw
              case rel => exact ⟨j + 1, fr, _, by omega, by go_num, rfl, hO4, HNX, HBX4.out, hB4, hne⟩
              case measure => simp [intOf]; omega
          · have HFIN : Hid (acc ++ [⟨x.vals, fr, x.hi, x.lin⟩] = refSplit (l.take (k + 1)) ps) := by show _ = _; rw [← HTG.out, ← HACC.out, List.drop_of_length_le (by rw [← HNQ.out]; omega)]; rfl
            go_wp2_with (at_builtin; refine wpList_push rfl _ _ 22 rfl tupE Try.underlying22 w1.heap.size (.slice ob acc.length oc4) acc rfl hO4 [⟨x.vals, fr, x.hi, x.lin⟩] #[.slice a3 x.vals.length n3, .int .i64 fr, .int .i64 x.hi, .slice e3 x.lin.length m3] (HIS.out fr x.hi) 1 1 rfl rfl (by decide) (by unfold maxLen; omega) (by show _ * 64 ≤ _; omega) hB4.size ?_; intro g cap w5 hP hPa)
            go_roundw
            case rel => exact ⟨k + 1, by omega, by go_num, by rw [← HFIN.out]; exact hP.own' (by simp), hB4.trans hP.below⟩
            case measure => simp [intOf]; omega
    · have HT : Hid (refSplit (l.take k) ps = refSplit l ps) := by show _ = _; rw [List.take_of_length_le (by rw [← HN.out]; omega)]
      go_wp2_with fail
      go_ret
      exact ⟨_, rfl, by rw [← HT.out]; exact hO.mono hB1.size, hB1.trans (hB.mono hB1.size)⟩
end Go.Proofs.Ytminnkihcohflaa
