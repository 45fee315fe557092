/- A part of the proofs of the laws of chapter 19: Apl, AprP. No condition beside sizes. -/
import Derived.Test.YtminnkihcohflaaMgH
import Derived.Test.YtminnkihcohflaaMgI
namespace Go.Proofs.Ytminnkihcohflaa
open Go.RowKit Go.Lib Go.Maps

theorem applyE_zero {l : List Ver} {cl : List Int} {ad : List Tup} {at' first : Int} (h : applyE l cl ad at' first = 0) : (l.map Ver.id).Nodup ∧ 1 ≤ first ∧ first ≤ 1099511627776 := by
  unfold applyE at h
  cases hb : argBad l at' first
  · unfold argBad at hb
    simp at hb
    exact ⟨by simpa using hb.2, by omega, by omega⟩
  · rw [hb] at h
    simp at h
theorem below_allocA {B n : Nat} {a w : World} {o : Obj} (h : Below B a w) (h1 : n + 1 ≤ w.heap.size) (h2 : B ≤ n) : Below B a (w.alloc o) := h.alloc (by omega) o
theorem size_keepA {n : Nat} {W W' : World} (h : n ≤ W.heap.size) (hb : Below W.heap.size W W') : n ≤ W'.heap.size := Nat.le_trans h hb.size
theorem size_allocA {n : Nat} {W : World} {o : Obj} (h : n ≤ W.heap.size) : n ≤ (W.alloc o).heap.size := by simp; omega
theorem box_six {w : World} {g : Nat} {a b c d e f : Value} {t : TypeId} (h : w.heap[g]? = some (.cells #[a, b, c, d, e, f] t (0, 0))) :
    w.cell? ⟨g, 0, none⟩ = some a ∧ w.cell? ⟨g, 1, none⟩ = some b ∧ w.cell? ⟨g, 2, none⟩ = some c ∧ w.cell? ⟨g, 3, none⟩ = some d ∧ w.cell? ⟨g, 4, none⟩ = some e ∧ w.cell? ⟨g, 5, none⟩ = some f ∧ ∀ j, w.frozen? ⟨g, j, none⟩ = false := by
  refine ⟨cell_of h rfl, cell_of h rfl, cell_of h rfl, cell_of h rfl, cell_of h rfl, cell_of h rfl, fun j => ?_⟩
  simp [World.frozen?, h]
set_option maxHeartbeats 4000000 in
set_option maxRecDepth 100000 in
theorem apply_ver (v vc va : Value) (l : List Ver) (cl : List Int) (ad : List Tup) (at' first : Int) (w : World) (hv : Sl verE w free v l) (hcl : Sl intE w free vc cl) (had : Tups w va ad) (hl : l.length ≤ 1000) (hcn : cl.length ≤ 1000) (han : ad.length ≤ 1000) (hid : ∀ x ∈ l, In64 x.id) (hci : ∀ x ∈ cl, In64 x) (hvl : ∀ x ∈ l, x.vals.length ≤ 1000) (hal : ∀ x ∈ ad, x.vals.length ≤ 1000) :
    Calls Try.prog 25 #[v, .agg #[vc, va], .int .i64 at', .int .i64 first] w fun e w' => ∃ r : Int, Hid (r = applyE l cl ad at' first) ∧ (r = 0 → ∃ vo, e = .returned (.tuple #[vo, .int .i64 0]) ∧ Sl verE w' free vo (applyL l cl ad at' first)) ∧ (r ≠ 0 → e = .returned (.tuple #[.slice none 0 0, .int .i64 r])) ∧ Below w.heap.size w w' := by
  have HCH : ∀ W, Below w.heap.size w W → Hid (Calls Try.prog 61 #[v, .agg #[vc, va], .int .i64 at', .int .i64 first] W fun e w' => ∃ r : Int, Hid (r = applyE l cl ad at' first) ∧ (r = 0 → ∃ b n, e = .returned (.tuple #[.map (some b), .int .i64 0]) ∧ OwnIB w' b n (clS l cl) ∧ W.heap.size ≤ b) ∧ (r ≠ 0 → e = .returned (.tuple #[.map none, .int .i64 r])) ∧ Below W.heap.size W w') := fun W hW => check_any v vc va l cl ad at' first W (hv.below hW) (hcl.below hW) (had.below hW) hl hcn hid hci
  obtain ⟨a, c, rfl⟩ := hv.shape
  obtain ⟨a2, c2, rfl⟩ := hcl.shape
  obtain ⟨a3, c3, rfl⟩ := had.shape
  have HV := Lib.hid hv
  have HAD := Lib.hid had
  have HVL := Lib.hid hvl
  have HAL := Lib.hid hal
  obtain ⟨n, hn⟩ : ∃ n, n = l.length := ⟨_, rfl⟩
  obtain ⟨q, hq⟩ : ∃ q, q = ad.length := ⟨_, rfl⟩
  obtain ⟨mc, hmc⟩ : ∃ mc, mc = cl.length := ⟨_, rfl⟩
  have HN := Lib.hid hn
  have HQ := Lib.hid hq
  rw [← hn] at hl HV HCH ⊢
  rw [← hq] at han HAD HCH ⊢
  rw [← hmc] at HCH ⊢
  clear hv hcl had hid hci hvl hal hn hq hmc hcn
  go_enter Try.func25, Try.ntmps25
  go_wp2_with fail
  refine (HCH _ (below_alloc w _)).out.mono ?_
  rintro e1 w1 ⟨r, HR, h1, h2, hb1⟩
  have hdb := block_new w _ _ hb1
  have hB1 := below_alloc2' hb1
  have HB1 := Lib.hid hB1
  have HD1 := Lib.hid hdb
  by_cases hr : r = 0
  · subst hr
    obtain ⟨b, nb, rfl, hO1, hbb⟩ := h1 rfl
    obtain ⟨hnd, hf1, hf2⟩ := applyE_zero HR.out.symm
    have HND := Lib.hid hnd
    have HO1 := Lib.hid hO1
    have hbl := hO1.lt
    have hz1 := hB1.size
    clear h1 h2 hb1 hB1 hdb hO1 hnd
    go_wp2_with fail
    go_loopw [30, 12] (fun i o wr => ∃ k : Nat, k ≤ n ∧ i = .int .i64 k ∧ Own verE wr w1.heap.size o ((l.take k).flatMap (keepOne cl at')) ∧ Below w1.heap.size w1 wr) (fun i _ _ => n - (intOf i).toNat)
    case atStart => exact ⟨0, Nat.zero_le _, rfl, Own.nil _ _ _, Below.refl _ _⟩
    case round =>
      obtain ⟨k, hk, rfl, hO, hB⟩ := hrel
      obtain ⟨wo, rfl⟩ : ∃ wo : World, wo = wr := ⟨_, rfl⟩
      obtain ⟨lk, hlke⟩ : ∃ lk, lk = (l.take k).flatMap (keepOne cl at') := ⟨_, rfl⟩
      rw [← hlke] at hO
      obtain ⟨ao, co, rfl⟩ := hO.shape
      have hBw := HB1.out.trans (hB.mono hz1)
      have hzo := hB.size
      by_cases hlt : k < n
      · obtain ⟨x, hx⟩ := lget_some l k (by rw [← HN.out]; exact hlt)
        obtain ⟨bv, ov, av, cv, rfl, hvv, p0, p1, p2, p3, p4, p5⟩ := ver_at (HV.out.below hBw) hx
        have HCON : clS l cl k = cl.contains x.id := clS_at HND.out cl hx
        have hkw : (Lit.int .i64 (k : Int)).wf = true := wf64 (by constructor <;> omega)
        have HXL := Lib.hid (HVL.out x (List.mem_of_getElem? hx))
        have hlk : ((l.take k).flatMap (keepOne cl at')).length ≤ 1000 := Nat.le_trans (keepOne_length _ _ _) (by rw [List.length_take]; omega)
        have HT : Hid ((l.take (k + 1)).flatMap (keepOne cl at') = (l.take k).flatMap (keepOne cl at') ++ keepOne cl at' x) := by show _ = _; rw [take_get hx, List.flatMap_append, List.flatMap_cons, List.flatMap_nil, List.append_nil]
        rw [← hlke] at HT hlk
        obtain ⟨xid, xvals, xlo, xhi, xrlo, xrhi⟩ := x
        dsimp only at p0 p1 p2 p3 p4 p5 HCON HXL
        obtain ⟨nv, hnv⟩ : ∃ nv, nv = xvals.length := ⟨_, rfl⟩
        dsimp only at hvv
        rw [← hnv] at p1 hvv
        have HNV := Lib.hid hnv
        have HVV := Lib.hid hvv
        have HO := Lib.hid hO
        have HB := Lib.hid hB
        have hOM := (HO1.out.below (hB.mono (Nat.le_refl _))).below (below_alloc wo (.cells #[.int .i64 xid, .slice av nv cv, .int .i64 xlo, .int .i64 xhi, .int .i64 xrlo, .int .i64 xrhi] 59))
        have hlook := hOM.look hkw
        rw [HCON] at hlook
        clear hx hvv hO hB hBw hkw hOM HCON hlke hnv
        cases hc : cl.contains xid
        · have HK : Hid (keepOne cl at' ⟨xid, xvals, xlo, xhi, xrlo, xrhi⟩ = [⟨xid, xvals, xlo, xhi, xrlo, xrhi⟩]) := by show _ = _; unfold keepOne; dsimp only; rw [hc]; rfl
          rw [hc] at hlook
          clear hc
          have HVB := Lib.hid (World.alloc_heap_new wo (.cells #[.int .i64 xid, .slice av nv cv, .int .i64 xlo, .int .i64 xhi, .int .i64 xrlo, .int .i64 xrhi] 59))
          have HBB := Lib.hid (below_alloc wo (.cells #[.int .i64 xid, .slice av nv cv, .int .i64 xlo, .int .i64 xhi, .int .i64 xrlo, .int .i64 xrhi] 59))
          have HZB : Hid (wo.heap.size < (wo.alloc (.cells #[.int .i64 xid, .slice av nv cv, .int .i64 xlo, .int .i64 xhi, .int .i64 xrlo, .int .i64 xrhi] 59)).heap.size) := by show _ < _; simp
          have HSL : Hid (Sl valE (wo.alloc (.cells #[.int .i64 xid, .slice av nv cv, .int .i64 xlo, .int .i64 xhi, .int .i64 xrlo, .int .i64 xrhi] 59)) free (.slice av nv cv) xvals) := HVV.out.below HBB.out
          go_wp2_with fail
          refine (cloneVals_own _ xvals _ HSL.out HXL.out).mono ?_
          rintro _ w3 ⟨vC, rfl, hOC, hbC⟩
          obtain ⟨aC, cC, rfl⟩ := hOC.shape
          have hv3 := box_kept HVB.out hbC
          obtain ⟨z0, z1, z2, z3, z4, z5, zf⟩ := box_six hv3
          have hv4 : (w3.setCell ⟨wo.heap.size, 1, none⟩ (.slice aC xvals.length cC)).heap[wo.heap.size]? = some (.cells #[.int .i64 xid, .slice aC xvals.length cC, .int .i64 xlo, .int .i64 xhi, .int .i64 xrlo, .int .i64 xrhi] 59 (0, 0)) := by rw [heap_setCell_same _ _ _ _ _ _ hv3]; rfl
          obtain ⟨y0, y1, y2, y3, y4, y5, yf⟩ := box_six hv4
          have hb3 : Below wo.heap.size wo (w3.setCell ⟨wo.heap.size, 1, none⟩ (.slice aC xvals.length cC)) := (HBB.out.trans (hbC.mono (Nat.le_of_lt HZB.out))).setCell (Nat.le_refl _) _
          have HO3 := Lib.hid (HO.out.below hb3)
          have HB3 := Lib.hid (HB.out.trans (hb3.mono hzo))
          have hsl3 : Sl valE (w3.setCell ⟨wo.heap.size, 1, none⟩ (.slice aC xvals.length cC)) (fun k => some k = (Value.slice ao lk.length co).ownBlock) (.slice aC xvals.length cC) xvals := ((own_vals_from hOC).kept (kept_set (G := fun k => k < (wo.alloc (.cells #[.int .i64 xid, .slice av nv cv, .int .i64 xlo, .int .i64 xhi, .int .i64 xrlo, .int .i64 xrhi] 59)).heap.size) (q := ⟨wo.heap.size, 1, none⟩) HZB.out)).mono (fun j _ hj => Nat.lt_trans (HO.out.lt j hj.symm).2 HZB.out)
          have HIS : Hid (Els verE (w3.setCell ⟨wo.heap.size, 1, none⟩ (.slice aC xvals.length cC)) (fun k => some k = (Value.slice ao lk.length co).ownBlock) [⟨xid, xvals, xlo, xhi, xrlo, xrhi⟩] [.int .i64 xid, .slice aC xvals.length cC, .int .i64 xlo, .int .i64 xhi, .int .i64 xrlo, .int .i64 xrhi]) := Els.one ⟨_, rfl, hsl3⟩
          have hz3 : w1.heap.size ≤ (w3.setCell ⟨wo.heap.size, 1, none⟩ (.slice aC xvals.length cC)).heap.size := HB3.out.size
          obtain ⟨nc, hnc⟩ : ∃ nc, nc = xvals.length := ⟨_, rfl⟩
          clear hOC hbC hv3 hv4 hb3 hsl3
          go_wp2_with (at_builtin; refine wpList_push rfl (.tmp 50) (.tmp 52) 29 rfl verE Try.underlying29 w1.heap.size (.slice ao lk.length co) lk rfl HO3.out [⟨xid, xvals, xlo, xhi, xrlo, xrhi⟩] #[.int .i64 xid, .slice aC xvals.length cC, .int .i64 xlo, .int .i64 xhi, .int .i64 xrlo, .int .i64 xrhi] HIS.out 1 1 rfl (show Value.slice (some ⟨w3.heap.size, 0, none⟩) 1 1 = .slice (some ⟨(w3.setCell ⟨wo.heap.size, 1, none⟩ (.slice aC xvals.length cC)).heap.size, 0, none⟩) 1 1 by simp [World.setCell]) (by decide) (by unfold maxLen; omega) (by show _ * 64 ≤ _; omega) hz3 ?_; intro g cap w5 hP hPa)
          go_roundw
          case rel => exact ⟨k + 1, by omega, by go_num, by rw [HT.out, HK.out]; exact hP.own' (by simp), HB3.out.trans (hP.below)⟩
          case measure => simp [intOf]; omega
        · rw [hc] at hlook
          by_cases hat : (xrlo == at') = true
          · have HK : Hid (keepOne cl at' ⟨xid, xvals, xlo, xhi, xrlo, xrhi⟩ = []) := by show _ = _; unfold keepOne; dsimp only; rw [hc, hat]; rfl
            clear hc
            go_wp2_with fail
            go_roundw
            case rel => exact ⟨k + 1, by omega, by go_num, by rw [HT.out, HK.out, List.append_nil]; exact HO.out.below (below_alloc _ _), HB.out.trans ((below_alloc_from _ _ hzo))⟩
            case measure => simp [intOf]; omega
          · replace hat : (xrlo == at') = false := by simpa using hat
            have HK : Hid (keepOne cl at' ⟨xid, xvals, xlo, xhi, xrlo, xrhi⟩ = [⟨xid, xvals, xlo, xhi, xrlo, at'⟩]) := by show _ = _; unfold keepOne; dsimp only; rw [hc, hat]; rfl
            clear hc
            obtain ⟨s0, s1, s2, s3, s4, s5, sf⟩ := box_six (World.alloc_heap_new wo (.cells #[.int .i64 xid, .slice av nv cv, .int .i64 xlo, .int .i64 xhi, .int .i64 xrlo, .int .i64 xrhi] 59))
            have HVB := Lib.hid (World.alloc_heap_new wo (.cells #[.int .i64 xid, .slice av nv cv, .int .i64 xlo, .int .i64 xhi, .int .i64 xrlo, .int .i64 at'] 59))
            have HBB := Lib.hid (below_alloc wo (.cells #[.int .i64 xid, .slice av nv cv, .int .i64 xlo, .int .i64 xhi, .int .i64 xrlo, .int .i64 at'] 59))
            have HZB : Hid (wo.heap.size < (wo.alloc (.cells #[.int .i64 xid, .slice av nv cv, .int .i64 xlo, .int .i64 xhi, .int .i64 xrlo, .int .i64 at'] 59)).heap.size) := by show _ < _; simp
            have HSL : Hid (Sl valE (wo.alloc (.cells #[.int .i64 xid, .slice av nv cv, .int .i64 xlo, .int .i64 xhi, .int .i64 xrlo, .int .i64 at'] 59)) free (.slice av nv cv) xvals) := HVV.out.below HBB.out
            go_wp2_with fail
            refine (cloneVals_own _ xvals _ HSL.out HXL.out).mono ?_
            rintro _ w3 ⟨vC, rfl, hOC, hbC⟩
            obtain ⟨aC, cC, rfl⟩ := hOC.shape
            have hv3 := box_kept HVB.out hbC
            obtain ⟨z0, z1, z2, z3, z4, z5, zf⟩ := box_six hv3
            have hv4 : (w3.setCell ⟨wo.heap.size, 1, none⟩ (.slice aC xvals.length cC)).heap[wo.heap.size]? = some (.cells #[.int .i64 xid, .slice aC xvals.length cC, .int .i64 xlo, .int .i64 xhi, .int .i64 xrlo, .int .i64 at'] 59 (0, 0)) := by rw [heap_setCell_same _ _ _ _ _ _ hv3]; rfl
            obtain ⟨y0, y1, y2, y3, y4, y5, yf⟩ := box_six hv4
            have hb3 : Below wo.heap.size wo (w3.setCell ⟨wo.heap.size, 1, none⟩ (.slice aC xvals.length cC)) := (HBB.out.trans (hbC.mono (Nat.le_of_lt HZB.out))).setCell (Nat.le_refl _) _
            have HO3 := Lib.hid (HO.out.below hb3)
            have HB3 := Lib.hid (HB.out.trans (hb3.mono hzo))
            have hsl3 : Sl valE (w3.setCell ⟨wo.heap.size, 1, none⟩ (.slice aC xvals.length cC)) (fun k => some k = (Value.slice ao lk.length co).ownBlock) (.slice aC xvals.length cC) xvals := ((own_vals_from hOC).kept (kept_set (G := fun k => k < (wo.alloc (.cells #[.int .i64 xid, .slice av nv cv, .int .i64 xlo, .int .i64 xhi, .int .i64 xrlo, .int .i64 at'] 59)).heap.size) (q := ⟨wo.heap.size, 1, none⟩) HZB.out)).mono (fun j _ hj => Nat.lt_trans (HO.out.lt j hj.symm).2 HZB.out)
            have HIS : Hid (Els verE (w3.setCell ⟨wo.heap.size, 1, none⟩ (.slice aC xvals.length cC)) (fun k => some k = (Value.slice ao lk.length co).ownBlock) [⟨xid, xvals, xlo, xhi, xrlo, at'⟩] [.int .i64 xid, .slice aC xvals.length cC, .int .i64 xlo, .int .i64 xhi, .int .i64 xrlo, .int .i64 at']) := Els.one ⟨_, rfl, hsl3⟩
            have hz3 : w1.heap.size ≤ (w3.setCell ⟨wo.heap.size, 1, none⟩ (.slice aC xvals.length cC)).heap.size := HB3.out.size
            obtain ⟨nc, hnc⟩ : ∃ nc, nc = xvals.length := ⟨_, rfl⟩
            clear hOC hbC hv3 hv4 hb3 hsl3
            go_wp2_with (at_builtin; refine wpList_push rfl (.tmp 50) (.tmp 52) 29 rfl verE Try.underlying29 w1.heap.size (.slice ao lk.length co) lk rfl HO3.out [⟨xid, xvals, xlo, xhi, xrlo, at'⟩] #[.int .i64 xid, .slice aC xvals.length cC, .int .i64 xlo, .int .i64 xhi, .int .i64 xrlo, .int .i64 at'] HIS.out 1 1 rfl (show Value.slice (some ⟨w3.heap.size, 0, none⟩) 1 1 = .slice (some ⟨(w3.setCell ⟨wo.heap.size, 1, none⟩ (.slice aC xvals.length cC)).heap.size, 0, none⟩) 1 1 by simp [World.setCell]) (by decide) (by unfold maxLen; omega) (by show _ * 64 ≤ _; omega) hz3 ?_; intro g cap w5 hP hPa)
            go_roundw
            case rel => exact ⟨k + 1, by omega, by go_num, by rw [HT.out, HK.out]; exact hP.own' (by simp), HB3.out.trans (hP.below)⟩
            case measure => simp [intOf]; omega
      · have hF : l.take k = l := by rw [List.take_of_length_le (by rw [← HN.out]; omega)]
        rw [hF] at hlke
        have HLK := Lib.hid hlke
        have hlkl : lk.length ≤ 1000 := by rw [hlke]; exact Nat.le_trans (keepOne_length _ _ _) (by rw [← HN.out]; exact hl)
        have hdo := (hB.block w.heap.size (Array.getElem?_eq_some_iff.1 HD1.out).1).trans HD1.out
        have d1 : wo.cell? ⟨w.heap.size, 1, none⟩ = some (.slice a3 q c3) := cell_of hdo rfl
        have HO := Lib.hid hO
        have HB := Lib.hid hB
        clear hF hlke hO hB hBw hdo
        go_wp2_with fail
        go_loopw [58, 12] (fun i o wr => ∃ k : Nat, k ≤ q ∧ i = .int .i64 k ∧ Own verE wr w1.heap.size o (lk ++ newV at' first (ad.take k)) ∧ Below w1.heap.size w1 wr) (fun i _ _ => q - (intOf i).toNat)
        case atStart => exact ⟨0, Nat.zero_le _, rfl, by rw [List.take_zero]; simpa [newV] using HO.out, HB.out⟩
        case round =>
          obtain ⟨j, hj, rfl, hO, hB⟩ := hrel
          obtain ⟨wo, rfl⟩ : ∃ wo : World, wo = wr := ⟨_, rfl⟩
          obtain ⟨lj, hlje⟩ : ∃ lj, lj = lk ++ newV at' first (ad.take j) := ⟨_, rfl⟩
          rw [← hlje] at hO
          have hljl : lj.length ≤ 2000 := by rw [hlje, List.length_append, newV_length, List.length_take]; omega
          obtain ⟨ao, co, rfl⟩ := hO.shape
          have hBw := HB1.out.trans (hB.mono hz1)
          have hzo := hB.size
          by_cases hlt2 : j < q
          · obtain ⟨x, hx⟩ := lget_some ad j (by rw [← HQ.out]; exact hlt2)
            obtain ⟨bt, ot, tv, tc, te, tm, rfl, hvv, _, p0, p1, p2, p3⟩ := tups_at (HAD.out.below hBw) hx
            have HXL := Lib.hid (HAL.out x (List.mem_of_getElem? hx))
            have HT : Hid (lk ++ newV at' first (ad.take (j + 1)) = lj ++ [⟨first + j, x.vals, x.lo, x.hi, at', 1099511627776⟩]) := by show _ = _; rw [take_get hx, newV_snoc, hlje, List.length_take, List.append_assoc, Nat.min_eq_left (by rw [← HQ.out]; exact hj)]
            obtain ⟨xvals, xlo, xhi, xlin⟩ := x
            dsimp only at p0 p1 p2 p3 HXL HT hvv
            obtain ⟨nt, hnt⟩ : ∃ nt, nt = xvals.length := ⟨_, rfl⟩
            obtain ⟨nl, hnl⟩ : ∃ nl, nl = xlin.length := ⟨_, rfl⟩
            rw [← hnt] at p0 hvv
            rw [← hnl] at p3
            have HVV := Lib.hid hvv
            have HOj := Lib.hid hO
            have HBj := Lib.hid hB
            have hne : some wo.heap.size ≠ (Value.slice ao lj.length co).ownBlock := fun e => by have := (hO.lt _ e.symm).2; omega
            have hb0 : Below w1.heap.size wo (wo.alloc (.cells #[.slice tv nt tc, .int .i64 xlo, .int .i64 xhi, .slice te nl tm] 67)) := below_alloc_from _ _ hzo
            have hs0 : wo.heap.size + 1 ≤ (wo.alloc (.cells #[.slice tv nt tc, .int .i64 xlo, .int .i64 xhi, .slice te nl tm] 67)).heap.size := by simp
            have t0 : (wo.alloc (.cells #[.slice tv nt tc, .int .i64 xlo, .int .i64 xhi, .slice te nl tm] 67)).cell? ⟨wo.heap.size, 0, none⟩ = some (.slice tv nt tc) := cell_of (World.alloc_heap_new wo (.cells #[.slice tv nt tc, .int .i64 xlo, .int .i64 xhi, .slice te nl tm] 67)) rfl
            have t1 : (wo.alloc (.cells #[.slice tv nt tc, .int .i64 xlo, .int .i64 xhi, .slice te nl tm] 67)).cell? ⟨wo.heap.size, 1, none⟩ = some (.int .i64 xlo) := cell_of (World.alloc_heap_new wo (.cells #[.slice tv nt tc, .int .i64 xlo, .int .i64 xhi, .slice te nl tm] 67)) rfl
            have t2 : (wo.alloc (.cells #[.slice tv nt tc, .int .i64 xlo, .int .i64 xhi, .slice te nl tm] 67)).cell? ⟨wo.heap.size, 2, none⟩ = some (.int .i64 xhi) := cell_of (World.alloc_heap_new wo (.cells #[.slice tv nt tc, .int .i64 xlo, .int .i64 xhi, .slice te nl tm] 67)) rfl
            have HCLN : Hid (Calls Try.prog 55 #[.slice tv nt tc] (wo.alloc (.cells #[.slice tv nt tc, .int .i64 xlo, .int .i64 xhi, .slice te nl tm] 67)).drew (RetOwn valE (wo.alloc (.cells #[.slice tv nt tc, .int .i64 xlo, .int .i64 xhi, .slice te nl tm] 67)).drew xvals)) := cloneVals_own _ xvals _ ((HVV.out.below (below_alloc _ _)).below (Below.refl _ _).drew) HXL.out
            have hfj : IntKind.i64.wrap (first + (j : Int)) = first + j := IntWalk.i64_in _ (by omega)
            clear hx hvv hO hB hBw hlje hnt hnl
            go_wp2_with fail
            go_region_held3 (fun W => Below w1.heap.size wo W ∧ wo.heap.size + 1 ≤ W.heap.size ∧ W.cell? ⟨wo.heap.size, 0, none⟩ = some (.slice tv nt tc) ∧ W.cell? ⟨wo.heap.size, 1, none⟩ = some (.int .i64 xlo) ∧ W.cell? ⟨wo.heap.size, 2, none⟩ = some (.int .i64 xhi))
              ((go_split_ands; refine ⟨?_, ?_, ?_, ?_, ?_⟩ <;> first | (with_reducible assumption) | with_reducible exact Below.drew (by assumption) | with_reducible exact size_drewA (by assumption) | with_reducible exact cell_drew (by assumption) | with_reducible exact below_tr3 (by assumption) (by assumption) (by assumption) | with_reducible exact size_keepA (by assumption) (by assumption) | with_reducible exact cell_keep (by assumption) (by assumption) | with_reducible exact below_allocA (by assumption) (by assumption) (by assumption) | with_reducible exact size_allocA (by assumption) | with_reducible exact cell_alloc (by assumption)))
              (first
                | (go_at_call 55; go_split_ands; refine HCLN.out.mono ?_; rintro e' wC ⟨vC, rfl, hOC, hbC⟩; obtain ⟨aC, cC, rfl⟩ := hOC.shape; have hCz : wo.heap.size + 1 ≤ wC.heap.size := Nat.le_trans hs0 hbC.size; have hCb : Below w1.heap.size wo wC := hb0.drew.trans (hbC.mono (Nat.le_trans hzo (Nat.le_of_succ_le hs0))); have hC0 := cell_keep hbC (cell_drew t0); have hC1 := cell_keep hbC (cell_drew t1); have hC2 := cell_keep hbC (cell_drew t2); have hCw : w1.heap.size ≤ wC.heap.size := Nat.le_trans hzo (Nat.le_of_succ_le hCz); have hslC : Sl valE wC (fun k => some k = (Value.slice ao lj.length co).ownBlock) (.slice aC xvals.length cC) xvals := (own_vals_from hOC).mono (fun i _ hi => Nat.lt_of_lt_of_le (HOj.out.lt i hi.symm).2 (by show _ ≤ (World.alloc _ _).heap.size; simp)); have HOC := Lib.hid (((HOj.out.below (below_alloc _ _)).below (Below.refl _ _).drew).below hbC); have HIS : Hid (Els verE wC (fun k => some k = (Value.slice ao lj.length co).ownBlock) [⟨first + j, xvals, xlo, xhi, at', 1099511627776⟩] [.int .i64 (first + j), .slice aC xvals.length cC, .int .i64 xlo, .int .i64 xhi, .int .i64 at', .int .i64 1099511627776]) := Els.one ⟨_, rfl, hslC⟩)
                | (refine step_push rfl (.tmp 63) (.tmp 75) 29 rfl verE Try.underlying29 w1.heap.size (.slice ao lj.length co) lj rfl HOC.out [⟨first + j, xvals, xlo, xhi, at', 1099511627776⟩] #[.int .i64 (first + j), .slice aC xvals.length cC, .int .i64 xlo, .int .i64 xhi, .int .i64 at', .int .i64 1099511627776] HIS.out 1 1 rfl rfl (by decide) (by unfold maxLen; omega) (by show _ * 64 ≤ _; omega) hCw ?_; intro g cap w5 hP hPa; have qb := Below.trans hCb hP.below; have qs : wo.heap.size + 1 ≤ w5.heap.size := Nat.le_trans hCz hP.below.size; have k0 := hP.cell hne hC0; have k1 := hP.cell hne hC1; have k2 := hP.cell hne hC2))
            have HP := Lib.hid hP
            have HQB := Lib.hid qb
            clear hP hPa qb qs k0 k1 k2
            go_wp2_with fail
            go_roundw
            case rel => exact ⟨j + 1, by omega, by go_num, by rw [HT.out]; exact HP.out.own' (by simp), HBj.out.trans HQB.out⟩
            case measure => simp [intOf]; omega
          · have hF2 : ad.take j = ad := by rw [List.take_of_length_le (by rw [← HQ.out]; omega)]
            have HRES : Hid (applyL l cl ad at' first = lj) := by show _ = _; rw [applyL, ← HLK.out, hlje, hF2]
            have HOj := Lib.hid hO
            have HBw := Lib.hid hBw
            clear hF2 hlje hO hB hBw
            go_wp2_with fail
            refine bodyPost_ret (v := .tuple #[.slice ao lj.length co, .int .i64 0]) (by simp [results, Try.results25, go_sem]) rfl ⟨0, HR, fun _ => ⟨_, rfl, ?_⟩, fun h => absurd rfl h, HBw.out⟩
            rw [HRES.out]
            exact HOj.out.sl
  · have := h2 hr
    subst this
    clear h1 h2 hb1 hB1 hdb HD1
    have hrb : (r != 0) = true := by simpa using hr
    go_wp2_with fail
    refine bodyPost_ret (v := .tuple #[.slice none 0 0, .int .i64 r]) (by simp [results, Try.results25, go_sem]) rfl ⟨r, HR, fun h => absurd h hr, fun _ => rfl, HB1.out⟩
end Go.Proofs.Ytminnkihcohflaa

namespace Go.Proofs.Ytminnkihcohflaa
open Go.RowKit Go.Lib Go.Maps

set_option maxHeartbeats 2000000 in
theorem rfind_any (v : Value) (l : List Ver) (id : Int) (w : World) (hv : Sl verE w free v l) :
    Calls Try.prog 62 #[v, .int .i64 id] w fun e w' => ∃ r : Int, e = .returned (.int .i64 r) ∧ ((r = -1 ∧ curId l id = false) ∨ ∃ (i : Nat) (x : Ver), r = i ∧ l[i]? = some x ∧ x.id = id ∧ curId l id = true) ∧ Below w.heap.size w w' := by
  obtain ⟨a, c, rfl⟩ := hv.shape
  have h63 := hv.1
  have HV := Lib.hid hv
  obtain ⟨n, hn⟩ : ∃ n, n = l.length := ⟨_, rfl⟩
  have HN := Lib.hid hn
  rw [← hn] at h63 HV ⊢
  clear hv hn
  go_enter Try.func62, Try.ntmps62
  go_wp2_with fail
  go_loopw [9] (fun i wr => ∃ k : Nat, k ≤ n ∧ i = .int .i64 k ∧ Hid (curId l id = curId (l.drop k) id) ∧ Below w.heap.size w wr) (fun i _ => n - (intOf i).toNat)
  case atStart => exact ⟨0, Nat.zero_le _, rfl, Lib.hid rfl, Below.refl _ _⟩
  case round =>
    obtain ⟨k, hk, rfl, HA, hB⟩ := hrel
    obtain ⟨wo, rfl⟩ : ∃ wo : World, wo = wr := ⟨_, rfl⟩
    by_cases hlt : k < n
    · obtain ⟨x, hx⟩ := lget_some l k (by rw [← HN.out]; exact hlt)
      obtain ⟨b, o, a1, c1v, rfl, hvv, p0, p1, p2, p3, p4, p5⟩ := ver_at (HV.out.below hB) hx
      have HB := Lib.hid hB
      have HX := Lib.hid hx
      have HD : Hid (curId l id = ((x.id == id && x.rhi == 1099511627776) || curId (l.drop (k + 1)) id)) := by show _ = _; rw [HA.out, drop_get hx]; rfl
      obtain ⟨xid, xvals, xlo, xhi, xrlo, xrhi⟩ := x
      dsimp only at p0 p1 p2 p3 p4 p5 HD
      clear hB hx hvv
      by_cases h1 : (xid == id) = true
      · by_cases h2 : (xrhi == 1099511627776) = true
        · have HR : Hid (curId l id = true) := by show _ = _; rw [HD.out, h1, h2]; rfl
          have HID : Hid (xid = id) := by show _ = _; simpa using h1
          go_wp2_with fail
          go_ret
          exact ⟨_, rfl, .inr ⟨k, _, rfl, HX.out, HID.out, HR.out⟩, below_alloc_keep HB.out⟩
        · replace h2 : (xrhi == 1099511627776) = false := by simpa using h2
          have HR : Hid (curId l id = curId (l.drop (k + 1)) id) := by show _ = _; rw [HD.out, h1, h2]; rfl
          go_wp2_with fail
          go_roundw
          case rel => exact ⟨k + 1, by omega, by go_num, HR, below_alloc_keep HB.out⟩
          case measure => simp [intOf]; omega
      · replace h1 : (xid == id) = false := by simpa using h1
        have HR : Hid (curId l id = curId (l.drop (k + 1)) id) := by show _ = _; rw [HD.out, h1]; rfl
        go_wp2_with fail
        go_roundw
        case rel => exact ⟨k + 1, by omega, by go_num, HR, below_alloc_keep HB.out⟩
        case measure => simp [intOf]; omega
    · have HF : Hid (curId l id = false) := by show _ = _; rw [HA.out, List.drop_of_length_le (by rw [← HN.out]; omega)]; rfl
      go_wp2_with fail
      go_ret
      exact ⟨_, rfl, .inl ⟨rfl, HF.out⟩, hB⟩
set_option maxHeartbeats 2000000 in
theorem rcontains_any (v : Value) (l : List Int) (x : Int) (w : World) (hv : Sl intE w free v l) :
    Calls Try.prog 63 #[v, .int .i64 x] w fun e w' => e = .returned (.bool (l.contains x)) ∧ Below w.heap.size w w' := by
  obtain ⟨a, c, rfl⟩ := hv.shape
  have h63 := hv.1
  have HV := Lib.hid hv
  obtain ⟨n, hn⟩ : ∃ n, n = l.length := ⟨_, rfl⟩
  have HN := Lib.hid hn
  rw [← hn] at h63 HV ⊢
  clear hv hn
  go_enter Try.func63, Try.ntmps63
  go_wp2_with fail
  go_loopw [9] (fun i wr => ∃ k : Nat, k ≤ n ∧ i = .int .i64 k ∧ Hid (l.contains x = (l.drop k).contains x) ∧ Below w.heap.size w wr) (fun i _ => n - (intOf i).toNat)
  case atStart => exact ⟨0, Nat.zero_le _, rfl, Lib.hid rfl, Below.refl _ _⟩
  case round =>
    obtain ⟨k, hk, rfl, HA, hB⟩ := hrel
    obtain ⟨wo, rfl⟩ : ∃ wo : World, wo = wr := ⟨_, rfl⟩
    by_cases hlt : k < n
    · obtain ⟨y, hy⟩ := lget_some l k (by rw [← HN.out]; exact hlt)
      obtain ⟨b, o, rfl, p0⟩ := int_at (HV.out.below hB) hy
      have HB := Lib.hid hB
      have HD : Hid (l.contains x = ((x == y) || (l.drop (k + 1)).contains x)) := by show _ = _; rw [HA.out, drop_get hy, List.contains_cons]
      clear hB hy
      by_cases h1 : (y == x) = true
      · have HR : Hid (l.contains x = true) := by show _ = _; have e : y = x := by simpa using h1
                                                  rw [HD.out, e]; simp
        go_wp2_with fail
        go_ret
        exact ⟨ret_bool HR.out.symm, HB.out⟩
      · replace h1 : (y == x) = false := by simpa using h1
        have HR : Hid (l.contains x = (l.drop (k + 1)).contains x) := by show _ = _; have e : (x == y) = false := by rw [beq_eq_false_iff_ne] at h1 ⊢; exact fun e => h1 e.symm
                                                                         rw [HD.out, e]; rfl
        go_wp2_with fail
        go_roundw
        case rel => exact ⟨k + 1, by omega, by go_num, HR, HB.out⟩
        case measure => simp [intOf]; omega
    · have HF : Hid (l.contains x = false) := by show _ = _; rw [HA.out, List.drop_of_length_le (by rw [← HN.out]; omega)]; rfl
      go_wp2_with fail
      go_ret
      exact ⟨ret_bool HF.out.symm, hB⟩
end Go.Proofs.Ytminnkihcohflaa
