/- A part of the proofs: Rmv, Wmd, OpenE, BldB, BldC, Stp, MvQ, Val8, Wto, Wwi, OpenU. No condition beside sizes and tables that read as laid. -/
import Derived.Test.YtfmbbfidjcgeiaaMgAf
import Derived.Test.YtfmbbfidjcgeiaaMgAc
import Derived.Test.YtfmbbfidjcgeiaaMgAa
import Derived.Test.YtfmbbfidjcgeiaaMgAb
import Derived.BigQuiet
namespace Go.Proofs.Ytfmbbfidjcgeiaa
open Go.RowKit Go.Lib

theorem atDay_holdL (m : List Tup) (d : Int) : atDay m d = (holdL m d).map fun x => ⟨x.vals, x.lin⟩ := rfl
theorem rows_aggT (m : List Tup) (d : Int) (e : List GExp) (arg kind : Int) : aggP kind ((sortR (atDay m d)).map fun r => evalG e arg r.vals) = aggT e arg kind (holdL m d) := by
  have h : ((sortR (atDay m d)).map fun r => evalG e arg r.vals).Perm ((atDay m d).map fun r => evalG e arg r.vals) := (sortR_perm _).map _
  rw [aggP_perm kind h, atDay_holdL, List.map_map]
  rfl
set_option maxHeartbeats 16000000 in
set_option maxRecDepth 100000 in
theorem rmoving_any (v ve : Value) (l : List Tup) (e : List GExp) (arg days kind : Int) (w : World) (hv : Tups w v l) (hve : Sl expE w free ve e) (hl : l.length ≤ 1000) (he : e.length ≤ 1000) (hc : ∀ x ∈ e, In64 x.c.n) (h64 : ∀ t ∈ l, ∀ x ∈ t.vals, In64 x.n) (hsm : ∀ t ∈ l, t.vals.length ≤ 1000 ∧ t.lin.length ≤ 1000) :
    Calls Try.prog 18 #[v, ve, .int .i64 arg, .int .i64 days, .int .i64 kind] w (RetOwn stpE w (movL l e arg days kind)) := by
  obtain ⟨a, c, rfl⟩ := hv.shape
  have h63 := hv.1
  obtain ⟨ext, hext⟩ : ∃ ext, ext = extL (clampD days) l := ⟨_, rfl⟩
  have hel : ext.length ≤ 1000 := by rw [hext]; exact Nat.le_trans (extL_len _ _) hl
  have hef : ∀ t ∈ ext, ∃ s ∈ l, s.vals = t.vals ∧ s.lin = t.lin := by
    rw [hext]
    intro t ht
    obtain ⟨s, hs, e1, e2, _⟩ := extL_from ht
    exact ⟨s, hs, e1, e2⟩
  have he64 : ∀ t ∈ ext, ∀ x ∈ t.vals, In64 x.n := fun t ht x hx => by
    obtain ⟨s, hs, e1, _⟩ := hef t ht
    exact h64 s hs x (by rw [e1]; exact hx)
  have hesm : ∀ t ∈ ext, t.vals.length ≤ 1000 ∧ t.lin.length ≤ 1000 := fun t ht => by
    obtain ⟨s, hs, e1, e2⟩ := hef t ht
    rw [← e1, ← e2]
    exact hsm s hs
  have hres : movL l e arg days kind = stepsL (mvPts ext) fun p => aggT e arg kind (holdL ext p) := by rw [hext]; rfl
  have hwi : withinL (refBnd ext) 1000000 = mvPts ext := by rw [hext]; exact within_eq fun t ht => extL_mem (clampD_pos days).1 ht
  obtain ⟨res, hres2⟩ : ∃ res, res = movL l e arg days kind := ⟨_, rfl⟩
  rw [← hres2] at hres ⊢
  have HRES := Lib.hid hres
  have HE64 := Lib.hid he64
  have HESM := Lib.hid hesm
  have HEXL := Lib.hid hve
  have HC := Lib.hid hc
  have HPL := Lib.hid (mvPts_len ext)
  have HWI := Lib.hid hwi
  obtain ⟨D, hD⟩ : ∃ D, D = clampD days := ⟨_, rfl⟩
  have HDD : Hid (min (max days 1) 1000000 = D) := Lib.hid (by rw [hD]; rfl)
  obtain ⟨hD1, hD2⟩ := clampD_pos days
  rw [← hD] at hext hD1 hD2
  obtain ⟨n, hn⟩ : ∃ n, n = l.length := ⟨_, rfl⟩
  have HV := Lib.hid hv
  have HN := Lib.hid hn
  have HEX := Lib.hid hext
  rw [← hn] at HV h63 hl ⊢
  clear hv hve hc h64 hext he64 hesm hef hres hres2 hD hn hsm hwi
  go_enter Try.func18, Try.ntmps18
  go_upto_region 2 with fail
  rw [HDD.out]
  go_wp2_with fail
  go_loopw [25, 11] (fun i o wr => ∃ k : Nat, k ≤ n ∧ i = .int .i64 k ∧ Own tupE wr w.heap.size o (extL D (l.take k)) ∧ Hid (Below w.heap.size w wr)) (fun i _ _ => n - (RowKit.intOf i).toNat)
  case atStart => exact ⟨0, Nat.zero_le _, rfl, Own.nil _ _ _, Lib.hid (.refl _ _)⟩
  case round =>
    obtain ⟨k, hk, rfl, hO, HB⟩ := hrel
    obtain ⟨wo, rfl⟩ : ∃ wo : World, wo = wr := ⟨_, rfl⟩
    by_cases hlt : k < n
    · obtain ⟨x, hx⟩ := lget_some l k (by rw [← HN.out]; exact hlt)
      obtain ⟨b, o, a1, n1, e1, m1, rfl, hvv, hll, p0, p1, p2, p3⟩ := tups_at HV.out hx
      replace p0 := cell_keep HB.out p0
      replace p1 := cell_keep HB.out p1
      replace p2 := cell_keep HB.out p2
      replace p3 := cell_keep HB.out p3
      have HT : Hid (extL D (l.take (k + 1)) = extL D (l.take k) ++ extT D x) := Lib.hid (extL_snoc D l k x hx)
      obtain ⟨lk, hlke⟩ : ∃ lk, lk = extL D (l.take k) := ⟨_, rfl⟩
      have hlk : lk.length ≤ 100000 := by rw [hlke]; exact Nat.le_trans (extL_len _ _) (by rw [List.length_take]; omega)
      rw [← hlke] at hO HT
      obtain ⟨ao, co, rfl⟩ := hO.shape
      obtain ⟨xv, xlo, xhi, xl⟩ := x
      dsimp only at p0 p1 p2 p3 hvv hll HT
      have HI := fun W => Lib.hid (rprd_valid xlo xhi W)
      have hPV : pvalid xlo xhi = true → 0 ≤ xlo ∧ xlo < xhi ∧ xhi ≤ 1099511627776 := fun h => pvalid_iff.1 h
      have hXT : extT D ⟨xv, xlo, xhi, xl⟩ = if pvalid xlo xhi = true ∧ xlo < 1000000 then [⟨xv, xlo, min (min xhi 1000000 + D - 1) 1000000, xl⟩] else [] := rfl
      generalize pvalid xlo xhi = q at HI hPV hXT
      have HPV := Lib.hid hPV
      have HXT := Lib.hid hXT
      have HVV := Lib.hid hvv
      have HLL := Lib.hid hll
      have hg := World.alloc_heap_new wo (.cells #[.slice a1 xv.length n1, .int .i64 xlo, .int .i64 xhi, .slice e1 xl.length m1] 51)
      have HB1 : Hid (Below w.heap.size w (wo.alloc (.cells #[.slice a1 xv.length n1, .int .i64 xlo, .int .i64 xhi, .slice e1 xl.length m1] 51))) := Lib.hid (below_alloc_keep HB.out)
      have HO := Lib.hid hO
      have HG := Lib.hid hg
      clear hx hvv hll hO hlke hg hPV hXT
      go_wp2_with fail
      refine (HI _).out.mono ?_
      rintro _ w3 ⟨rfl, hb3⟩
      obtain ⟨⟨d0, d1, d2, d3⟩, f0, f1, f2, f3⟩ := box_four (box_kept HG.out hb3)
      have HB3 : Hid (Below w.heap.size w w3) := Lib.hid (below_keep HB1.out hb3)
      have HW3 : Hid (Below wo.heap.size wo w3) := Lib.hid (below_alloc2' hb3)
      have hsz : wo.heap.size < w3.heap.size := World.block_lt_of_cell? _ _ d0
      clear hb3 HG HB1 HI
      by_cases hq : q = true ∧ xlo < 1000000
      · obtain ⟨rfl, hxF⟩ := hq
        obtain ⟨hx0, hx1, hx2⟩ := HPV.out rfl
        obtain ⟨y, hy⟩ : ∃ y, y = min xhi 1000000 := ⟨_, rfl⟩
        obtain ⟨z, hz⟩ : ∃ z, z = min (min xhi 1000000 + D - 1) 1000000 := ⟨_, rfl⟩
        have HT' : Hid (extL D (l.take (k + 1)) = lk ++ [⟨xv, xlo, z, xl⟩]) := Lib.hid (by rw [HT.out, HXT.out, if_pos ⟨rfl, hxF⟩, hz])
        have HZ := Lib.hid hz
        have hy1 : 1 ≤ min xhi 1000000 := by omega
        have hy2 : min xhi 1000000 ≤ 1000000 := by omega
        clear hy hz HXT HPV
        go_upto_region 8 with fail
        rw [← HZ.out]
        have hE : Below wo.heap.size wo (w3.setCell ⟨wo.heap.size, 2, none⟩ (.int .i64 z)) := HW3.out.setCell (by exact Nat.le_refl _) _
        have hF : Below w.heap.size w (w3.setCell ⟨wo.heap.size, 2, none⟩ (.int .i64 z)) := HB.out.trans (hE.mono HB.out.size)
        have x0 : (w3.setCell ⟨wo.heap.size, 2, none⟩ (.int .i64 z)).cell? ⟨wo.heap.size, 0, none⟩ = some (.slice a1 xv.length n1) := by simp [d0, go_sem]
        have x1 : (w3.setCell ⟨wo.heap.size, 2, none⟩ (.int .i64 z)).cell? ⟨wo.heap.size, 1, none⟩ = some (.int .i64 xlo) := by simp [d1, go_sem]
        have x2 : (w3.setCell ⟨wo.heap.size, 2, none⟩ (.int .i64 z)).cell? ⟨wo.heap.size, 2, none⟩ = some (.int .i64 z) := by simp [d2, go_sem]
        have x3 : (w3.setCell ⟨wo.heap.size, 2, none⟩ (.int .i64 z)).cell? ⟨wo.heap.size, 3, none⟩ = some (.slice e1 xl.length m1) := by simp [d3, go_sem]
        obtain ⟨w4, hw4⟩ : ∃ w4, w4 = w3.setCell ⟨wo.heap.size, 2, none⟩ (.int .i64 z) := ⟨_, rfl⟩
        rw [← hw4] at hE hF x0 x1 x2 x3 ⊢
        have HO4 := Lib.hid (HO.out.below hE)
        have HB4 := Lib.hid hF
        have HIS : Hid (Els tupE w4 (fun j => some j = (Value.slice ao lk.length co).ownBlock) [⟨xv, xlo, z, xl⟩] [.slice a1 xv.length n1, .int .i64 xlo, .int .i64 z, .slice e1 xl.length m1]) := Lib.hid (Els.one ⟨_, _, rfl, ((HVV.out.old (Nat.le_refl _)).below HB4.out).mono (fun j _ hj => (HO4.out.lt j hj.symm).1), ((HLL.out.old (Nat.le_refl _)).below HB4.out).mono (fun j _ hj => (HO4.out.lt j hj.symm).1)⟩)
        clear hw4 hE hF d0 d1 d2 d3 f0 f1 f2 f3 HB3 hy1 hy2
        go_wp2_with (at_builtin; refine wpList_push rfl (.tmp 48) (.tmp 50) 30 rfl tupE Try.underlying30 w.heap.size (.slice ao lk.length co) lk rfl HO4.out [⟨xv, xlo, z, xl⟩] #[.slice a1 xv.length n1, .int .i64 xlo, .int .i64 z, .slice e1 xl.length m1] HIS.out 1 1 rfl rfl (by decide) (by unfold maxLen; omega) (by show _ * 64 ≤ _; omega) HB4.out.size ?_; intro g cap w5 hP hPa)
        go_roundw
        case rel => exact ⟨k + 1, by omega, by go_num, by rw [HT'.out]; exact hP.own' (by simp), Lib.hid (HB4.out.trans hP.below)⟩
        case measure => simp [RowKit.intOf]; omega
      · have HT' : Hid (extL D (l.take (k + 1)) = lk) := by show _ = _; rw [HT.out, HXT.out, if_neg hq, List.append_nil]
        have HO3 := Lib.hid (HO.out.below HW3.out)
        clear HXT HPV
        cases q
        · clear hq
          go_wp2_with fail
          go_roundw
          case rel => exact ⟨k + 1, by omega, by go_num, by rw [HT'.out]; exact HO3.out, HB3⟩
          case measure => simp [RowKit.intOf]; omega
        · have hxF : ¬ xlo < 1000000 := fun h => hq ⟨rfl, h⟩
          clear hq
          go_wp2_with fail
          go_roundw
          case rel => exact ⟨k + 1, by omega, by go_num, by rw [HT'.out]; exact HO3.out, HB3⟩
          case measure => simp [RowKit.intOf]; omega
    · have hkk : l.take k = l := List.take_of_length_le (by rw [← HN.out]; omega)
      rw [hkk, ← HEX.out] at hO
      obtain ⟨ao, co, rfl⟩ := hO.shape
      have HO := Lib.hid hO
      have HBO := HB
      have HBN := Lib.hid (refBnd_any _ ext wo hO.sl (by omega))
      clear hO hkk HB
      go_wp2_with fail
      refine HBN.out.mono ?_
      rintro _ w1 ⟨vb, rfl, hOb, hb1⟩
      have HB1 := Lib.hid (below_keep HBO.out hb1)
      have HO1 := Lib.hid (HO.out.below hb1)
      obtain ⟨ab, cb, rfl⟩ := hOb.shape
      have HIN := Lib.hid (within_any _ (refBnd ext) 1000000 w1 hOb.sl (by have := refBnd_length ext; omega))
      clear hOb hb1 HBN HO HBO
      go_wp2_with fail
      refine HIN.out.mono ?_
      rintro _ w2 ⟨vp, rfl, hOp, hb2⟩
      rw [HWI.out] at hOp
      have HB2 := Lib.hid (below_keep HB1.out hb2)
      have HO2 := Lib.hid (HO1.out.below hb2)
      have HEX2 := Lib.hid (HEXL.out.below HB2.out)
      obtain ⟨pts, hpts⟩ : ∃ p, p = mvPts ext := ⟨_, rfl⟩
      rw [← hpts] at hOp
      have HPP := Lib.hid hpts
      obtain ⟨ap, cp, rfl⟩ := hOp.shape
      have HP2 := Lib.hid hOp.sl
      obtain ⟨np, hnp⟩ : ∃ n, n = pts.length := ⟨_, rfl⟩
      rw [← hnp] at HP2 ⊢
      have HNP := Lib.hid hnp
      have hnp1 : 1 ≤ np := by
        rw [hnp, hpts]
        exact List.length_pos_of_mem (mvPts_mem.2 (.inl rfl))
      have hnpl : np ≤ 2002 := by have := HPL.out; rw [← hpts, ← hnp] at this; omega
      clear hOp hb2 HIN HB1 HO1 hpts hnp
      go_wp2_with fail
      go_loopw [16, 15] (fun i o wr => ∃ q : Nat, q + 1 ≤ np ∧ i = .int .i64 q ∧ Own stpE wr w2.heap.size o (stepsTo pts (fun p => aggT e arg kind (holdL ext p)) q) ∧ Hid (Below w2.heap.size w2 wr)) (fun i _ _ => np - (RowKit.intOf i).toNat)
      case atStart => exact ⟨0, by omega, rfl, Own.nil _ _ _, Lib.hid (.refl _ _)⟩
      case round =>
        obtain ⟨q, hq, rfl, hOs, HBs⟩ := hrel
        obtain ⟨wq, rfl⟩ : ∃ wo : World, wo = wr := ⟨_, rfl⟩
        by_cases hlq : q + 1 < np
        · obtain ⟨x, hx⟩ := lget_some pts q (by rw [← HNP.out]; omega)
          obtain ⟨y, hy⟩ := lget_some pts (q + 1) (by rw [← HNP.out]; omega)
          obtain ⟨pb, po, rfl, cx0'⟩ := ints_at' HP2.out hx
          obtain ⟨_, _, e0, cy0'⟩ := ints_at' HP2.out hy
          cases e0
          have cx0 := cell_keep HBs.out cx0'
          have cy0 := cell_keep HBs.out cy0'
          have HST : Hid (stepsTo pts (fun p => aggT e arg kind (holdL ext p)) (q + 1) = putStep (stepsTo pts (fun p => aggT e arg kind (holdL ext p)) q) ⟨x, y, aggT e arg kind (holdL ext x)⟩) := Lib.hid (by rw [stepsTo, hx, hy]; rfl)
          have HLN := Lib.hid (stepsTo_len pts (fun p => aggT e arg kind (holdL ext p)) q)
          obtain ⟨ls, hls⟩ : ∃ ls, ls = stepsTo pts (fun p => aggT e arg kind (holdL ext p)) q := ⟨_, rfl⟩
          rw [← hls] at hOs HST HLN
          obtain ⟨aR, cR, rfl⟩ := hOs.shape
          have HOS := Lib.hid hOs
          have HBS := HBs
          have HX0 := Lib.hid cx0
          have HY0 := Lib.hid cy0
          have HTS := Lib.hid (rtimeslice_any _ ext x wq (HO2.out.sl.below HBs.out) (by omega) HESM.out)
          clear hx hy hls hOs cx0' cy0' HBs
          go_wp2_with fail
          refine HTS.out.mono ?_
          rintro _ w3 ⟨vr, rfl, hOr, hb3⟩
          obtain ⟨rows, hrows⟩ : ∃ r, r = sortR (atDay ext x) := ⟨_, rfl⟩
          have hrp : rows.Perm (atDay ext x) := by rw [hrows]; exact sortR_perm _
          rw [← hrows] at hOr
          have HAGE : Hid (aggP kind (rows.map fun r => evalG e arg r.vals) = aggT e arg kind (holdL ext x)) := Lib.hid (by rw [hrows]; exact rows_aggT ext x e arg kind)
          have hr64 : Hid (∀ r ∈ rows, ∀ z ∈ r.vals, In64 z.n) := Lib.hid fun r hr z hz => by
            have h1 := hrp.mem_iff.1 hr
            rw [atDay_holdL] at h1
            obtain ⟨t, ht, rfl⟩ := List.mem_map.1 h1
            exact HE64.out t (List.mem_filter.1 ht).1 z hz
          have hrl : rows.length ≤ 1000 := by rw [hrp.length_eq, atDay_holdL, List.length_map]; exact Nat.le_trans (List.length_filter_le _ _) hel
          obtain ⟨ar, cr, rfl⟩ := hOr.shape
          obtain ⟨nr, hnr⟩ : ∃ n, n = rows.length := ⟨_, rfl⟩
          have hs3 := hOr.sl
          rw [← hnr] at hs3 hrl ⊢
          have HR3 := Lib.hid hs3
          have HNR := Lib.hid hnr
          have HB3 := Lib.hid (below_keep HBS.out hb3)
          have HOS3 := Lib.hid (HOS.out.below hb3)
          have HX3 := Lib.hid (cell_keep hb3 HX0.out)
          have HY3 := Lib.hid (cell_keep hb3 HY0.out)
          have HEX3 := Lib.hid (HEX2.out.below HB3.out)
          clear hOr hb3 HTS hrows hrp hs3 hnr HOS HBS HX0 HY0 cx0 cy0
          go_wp2_with fail
          go_loopw [70, 17] (fun i o wr => ∃ j : Nat, j ≤ nr ∧ i = .int .i64 j ∧ Own valE wr w3.heap.size o ((rows.take j).map fun r => evalG e arg r.vals) ∧ Hid (Below w3.heap.size w3 wr)) (fun i _ _ => nr - (RowKit.intOf i).toNat)
          case atStart => exact ⟨0, Nat.zero_le _, rfl, Own.nil _ _ _, Lib.hid (.refl _ _)⟩
          case round =>
            obtain ⟨j, hj, rfl, hOv, HBv⟩ := hrel
            obtain ⟨wj, rfl⟩ : ∃ wo : World, wo = wr := ⟨_, rfl⟩
            by_cases hlj : j < nr
            · obtain ⟨rr, hrr⟩ := lget_some rows j (by rw [← HNR.out]; exact hlj)
              obtain ⟨rb, ro, b1, m1, b2, m2, rfl, hvv, hll, p0, p1⟩ := rows_at HR3.out hrr
              replace p0 := cell_keep HBv.out p0
              replace p1 := cell_keep HBv.out p1
              have HT : Hid ((rows.take (j + 1)).map (fun r => evalG e arg r.vals) = (rows.take j).map (fun r => evalG e arg r.vals) ++ [evalG e arg rr.vals]) := Lib.hid (by rw [take_get hrr, List.map_append]; rfl)
              have HNUM := Lib.hid (hr64.out rr (List.mem_of_getElem? hrr))
              obtain ⟨acc, hacc⟩ : ∃ acc, acc = (rows.take j).map (fun r => evalG e arg r.vals) := ⟨_, rfl⟩
              have hal : acc.length ≤ 1000 := by rw [hacc, List.length_map, List.length_take]; omega
              rw [← hacc] at hOv HT
              obtain ⟨av, cv, rfl⟩ := hOv.shape
              obtain ⟨xv, xl⟩ := rr
              dsimp only at p0 p1 hvv hll HT HNUM
              have hba := below_alloc wj (.cells #[.slice b1 xv.length m1, .slice b2 xl.length m2] 92)
              have hbx := World.alloc_heap_new wj (.cells #[.slice b1 xv.length m1, .slice b2 xl.length m2] 92)
              obtain ⟨wb, hwb⟩ : ∃ wb, wb = wj.alloc (.cells #[.slice b1 xv.length m1, .slice b2 xl.length m2] 92) := ⟨_, rfl⟩
              rw [← hwb] at hba hbx
              obtain ⟨r0, r1, f0, f1⟩ := box_two hbx
              have HBA := Lib.hid (below_keep HBv.out hba)
              have HOA := Lib.hid (hOv.below hba)
              have HEV := Lib.hid (reEval_any _ _ e arg xv wb (HEX3.out.below HBA.out) (hvv.below HBA.out) (by omega) HC.out HNUM.out)
              obtain ⟨hg, hhg⟩ : ∃ g, g = evalG e arg xv := ⟨_, rfl⟩
              rw [← hhg] at HEV HT
              clear hrr hvv hll hOv hacc hba hbx hhg HBv
              go_wp2_with (rw [← hwb])
              refine HEV.out.mono ?_
              rintro _ w4 ⟨rfl, hb4⟩
              unfold aggG
              have HO4 := Lib.hid (HOA.out.below hb4)
              have HB4 := Lib.hid (below_keep HBA.out hb4)
              have HIS : Hid (Els valE w4 (fun j => some j = (Value.slice av acc.length cv).ownBlock) [hg] [.int .i64 hg.kind, .int .i64 hg.n, .string hg.s]) := Lib.hid (Els.one rfl)
              clear hb4 HEV HBA HOA r0 r1 f0 f1
              go_wp2_with (at_builtin; refine wpList_push rfl (.tmp 74) (.tmp 80) 46 rfl valE Try.underlying46 w3.heap.size (.slice av acc.length cv) acc rfl HO4.out [hg] #[.int .i64 hg.kind, .int .i64 hg.n, .string hg.s] HIS.out 1 1 rfl rfl (by decide) (by unfold maxLen; omega) (by show _ * 32 ≤ _; omega) HB4.out.size ?_; intro g' cap' w5' hP hPa)
              go_roundw
              case rel => exact ⟨j + 1, by omega, by go_num, by rw [HT.out]; exact hP.own' (by simp), Lib.hid (HB4.out.trans hP.below)⟩
              case measure => simp [RowKit.intOf]; omega
            · have hjj : rows.take j = rows := List.take_of_length_le (by rw [← HNR.out]; omega)
              rw [hjj] at hOv
              obtain ⟨av, cv, rfl⟩ := hOv.shape
              have HAG : ∀ W, Below wj.heap.size wj W → Hid (Calls Try.prog 43 #[.int .i64 kind, .slice av (rows.map fun r => evalG e arg r.vals).length cv] W fun e' w' => e' = .returned (aggG (aggT e arg kind (holdL ext x))) ∧ Below W.heap.size W w') := fun W hW => by
                have h := raggr_any _ kind _ W (hOv.sl.below hW) (fun z hz => by obtain ⟨r, hr, rfl⟩ := List.mem_map.1 hz; exact in64_eval HC.out (fun g hg => hr64.out r hr g hg)) (by rw [List.length_map, ← HNR.out]; omega)
                rw [HAGE.out] at h
                exact Lib.hid h
              have cxj := cell_keep HBv.out HX3.out
              have cyj := cell_keep HBv.out HY3.out
              have hbj : Below wj.heap.size wj wj := .refl _ _
              have hzz : w2.heap.size ≤ wj.heap.size := Nat.le_trans HB3.out.size HBv.out.size
              have hsl2 : ls.length ≤ 2002 := by have := HLN.out; omega
              obtain ⟨nv, hnv⟩ : ∃ nv, nv = (rows.map fun r => evalG e arg r.vals).length := ⟨_, rfl⟩
              rw [← hnv] at HAG ⊢
              generalize aggT e arg kind (holdL ext x) = ag at HAG HST
              obtain ⟨vk, vn, vs⟩ := ag
              unfold aggG at HAG
              dsimp only at HAG
              have HAP : ∀ W, Below wj.heap.size wj W → Hid (Calls Try.prog 42 #[.slice aR ls.length cR, .agg #[.int .i64 x, .int .i64 y, .int .i64 vk, .int .i64 vn, .string vs]] W (AppRet w2.heap.size W (putStep ls ⟨x, y, ⟨vk, vn, vs⟩⟩))) := fun W hW => Lib.hid (appStep_any _ _ ls x y vk vn vs W ((HOS3.out.below HBv.out).below hW) (Nat.le_trans hzz hW.size) (by omega))
              have hw1 : IntKind.i64.wrap ((q : Int) + 1) = (q : Int) + 1 := IntWalk.i64_in _ (by omega)
              have hqI : (q : Int) + 1 < (np : Int) := by omega
              have hq0 : 0 ≤ (q : Int) + 1 := by omega
              have hqI2 : (q : Int) < (np : Int) := by omega
              clear hOv hnv HAGE
              go_wp2_with fail
              go_region_with (first
                | (go_at_call 43; refine (HAG _ (by first | exact hbj | exact hbj.drew | exact below_drewN hbj _)).out.mono ?_; rintro _ wg ⟨rfl, hbg⟩; have hbgj : Below wj.heap.size wj wg := (by first | exact hbg | exact Below.trans (Below.refl _ _).drew hbg | exact (below_drewN (Below.refl _ _) _).trans hbg); have cxg := cell_keep hbgj cxj; have cyg := cell_keep hbgj cyj; clear hbg)
                | (go_at_call 42; refine (HAP _ (by first | exact hbgj | exact hbgj.drew | exact below_drewN hbgj _)).out.mono ?_; rintro _ wp ⟨vp, rfl, hOp, hbp⟩; have hbpj : Below w2.heap.size w2 wp := (by first | exact ((HB3.out.trans (HBv.out.mono HB3.out.size)).trans (hbgj.mono hzz)).trans hbp | exact (((HB3.out.trans (HBv.out.mono HB3.out.size)).trans (hbgj.mono hzz)).drew).trans hbp | exact (below_drewN ((HB3.out.trans (HBv.out.mono HB3.out.size)).trans (hbgj.mono hzz)) _).trans hbp); clear hbp))
              all_goals (
                rw [← HST.out] at hOp
                obtain ⟨ac, cc, rfl⟩ := hOp.shape
                go_wp2_with fail
                go_roundw
                case rel => exact ⟨q + 1, by omega, by go_num, hOp, Lib.hid hbpj⟩
                case measure => simp [RowKit.intOf]; omega)
        · have hqe : q = pts.length - 1 := by rw [← HNP.out]; omega
          have hOr : Own stpE wq w.heap.size _ _ := hOs.mono HB2.out.size
          obtain ⟨aR, cR, rfl⟩ := hOs.shape
          have HOR := Lib.hid hOr
          have HRE : Hid (stepsTo pts (fun p => aggT e arg kind (holdL ext p)) q = res) := Lib.hid (by rw [HRES.out, hqe, HPP.out]; rfl)
          have HBW := Lib.hid (below_keep HB2.out HBs.out)
          clear hOs hOr HBs
          go_wp2_with fail
          go_ret
          exact ⟨_, rfl, HRE.out ▸ HOR.out, HBW.out⟩
end Go.Proofs.Ytfmbbfidjcgeiaa

namespace Go.Proofs.Ytfmbbfidjcgeiaa
open Go.RowKit Go.Lib

set_option maxHeartbeats 4000000 in
set_option maxRecDepth 100000 in
theorem mdef_walk (v ve : Value) (l : List Tup) (e : List GExp) (arg days kind : Int) (w : World) (hv : Tups w v l) (hve : Sl expE w free ve e) (hc : ∀ x ∈ e, In64 x.c.n) (h64 : ∀ t ∈ l, ∀ x ∈ t.vals, In64 x.n) :
    Calls Try.prog 4 #[v, ve, .int .i64 arg, .int .i64 days, .int .i64 kind] w (QuietW w) := by
  have HF : Hid (Calls Try.prog 15 #[v, .int .i64 12] w fun e w' => e = .returned (.bool (few l 12)) ∧ w = w') := (few_any v l 12 (by omega) w hv).mono fun _ _ ⟨h1, h2⟩ => ⟨h1, h2.symm⟩
  have HAW := Lib.hid (awake18_any w)
  obtain ⟨a, c, rfl⟩ := hv.shape
  obtain ⟨ae, ce, rfl⟩ := hve.shape
  have h63 := hve.1
  cases hfew : few l 12
  · rw [hfew] at HF
    clear hfew hv hve
    generalize l.length = n at HF ⊢
    generalize e.length = m at h63 ⊢
    go_enter Try.func4, Try.ntmps4
    go_wp2_with fail
    refine HF.out.mono ?_
    rintro _ w1 ⟨rfl, rfl⟩
    go_wp2_with fail
    refine HAW.out.mono ?_
    rintro _ w2 ⟨rfl, hb⟩
    have HB := Lib.hid hb
    clear hb
    go_wp2_with fail
    go_ret
    exact ⟨rfl, HB.out⟩
  · rw [hfew] at HF
    obtain ⟨hl, hs⟩ := few_of hfew
    by_cases hel : 40 < e.length
    · have hI : (40 : Int) < (e.length : Int) := by omega
      clear hfew hv hve hs
      generalize l.length = n at HF hl ⊢
      generalize e.length = m at h63 hel hI ⊢
      go_enter Try.func4, Try.ntmps4
      go_wp2_with fail
      refine HF.out.mono ?_
      rintro _ w1 ⟨rfl, rfl⟩
      go_wp2_with fail
      refine HAW.out.mono ?_
      rintro _ w2 ⟨rfl, hb⟩
      have HB := Lib.hid hb
      clear hb
      go_wp2_with fail
      go_ret
      exact ⟨rfl, HB.out⟩
    · have hI : ¬ (40 : Int) < (e.length : Int) := by omega
      have HM := Lib.hid fun W (h : Below w.heap.size w W) => moving_any _ _ l e arg days kind W (hv.below h) (hve.below h) (by omega) (by omega) hc h64
      have HR := Lib.hid fun W (h : Below w.heap.size w W) => rmoving_any _ _ l e arg days kind W (hv.below h) (hve.below h) (by omega) (by omega) hc h64 hs
      clear hfew hv hve hs hc h64
      generalize movL l e arg days kind = res at HM HR
      generalize l.length = n at HF HM HR hl ⊢
      generalize e.length = m at h63 hel hI HM HR ⊢
      go_enter Try.func4, Try.ntmps4
      go_wp2_with fail
      refine HF.out.mono ?_
      rintro _ w1 ⟨rfl, rfl⟩
      go_wp2_with fail
      refine HAW.out.mono ?_
      rintro _ w2 ⟨rfl, hb2⟩
      have HB2 := Lib.hid hb2
      have HM2 := Lib.hid (HM.out w2 hb2)
      clear hb2 HAW HF HM
      go_wp2_with fail
      refine HM2.out.mono ?_
      rintro _ w3 ⟨v3, rfl, hO3, hb3⟩
      obtain ⟨aT, cT, rfl⟩ := hO3.shape
      have HO3 := Lib.hid hO3.sl
      have HB3 := Lib.hid (below_keep HB2.out hb3)
      have HR3 := Lib.hid (HR.out w3 HB3.out)
      clear hO3 hb3 HM2 HR
      go_wp2_with fail
      refine HR3.out.mono ?_
      rintro _ w4 ⟨v4, rfl, hO4, hb4⟩
      obtain ⟨a2, c2, rfl⟩ := hO4.shape
      have HSM := Lib.hid (sameSteps_eq _ _ res w4 (HO3.out.below hb4) hO4.sl)
      have HB4 := Lib.hid (below_keep HB3.out hb4)
      clear hO4 hb4 HR3
      go_wp2_with fail
      refine HSM.out.mono ?_
      rintro _ w6 ⟨rfl, hb6⟩
      have HB6 := Lib.hid (below_keep HB4.out hb6)
      clear hb6
      go_wp2_with fail
      go_ret
      exact ⟨rfl, HB6.out⟩
end Go.Proofs.Ytfmbbfidjcgeiaa

namespace Go.Proofs.Ytfmbbfidjcgeiaa
open Go.ChangeShapes Go.WideShapes Go.ChangeAt Go.RowKit

theorem cells_exp8 : Try.prog.cellsOf 99 = 7 := by kernel_rfl
theorem cells_inte : Try.prog.cellsOf 3 = 1 := by kernel_rfl
section
variable {H : Type} {enc : TypeId × Value → H} {w : World} {spare : Nat → Bool}
set_option maxRecDepth 10000 in
theorem open_exp_el8 (n : Nat) (cs : List Value) (y : DataW H × List MemPlace) (h : DataW.trod enc Try.prog w 0 spare true n 99 cs = some y) (hl : cs.length = 7) : ∃ x, expE.is w free x cs ∧ IsVal x.c := by
  obtain ⟨xs, k, hk, hxy, _, hxl, hf⟩ := DataW.trod_struct Try.underlying99 h
  match cs, hl with
  | [c0, c1, c2, c3, c4, c5, c6], _ =>
    match xs, hxl with
    | [y0, y1, y2, y3, y4], _ =>
      have g0 := hf 0 _ rfl
      have g1 := hf 1 _ rfl
      have g2 := hf 2 _ rfl
      have g3 := hf 3 _ rfl
      have g4 := hf 4 _ rfl
      simp [cells_inte, cells_val] at g0 g1 g2 g3 g4
      obtain ⟨k0, e0, _, w0⟩ := DataW.trod_int Try.underlying3 g0
      obtain ⟨k1, e1, _, w1⟩ := DataW.trod_int Try.underlying3 g1
      obtain ⟨k2, e2, _, w2⟩ := DataW.trod_int Try.underlying3 g2
      obtain ⟨k3, e3, _, w3⟩ := DataW.trod_int Try.underlying3 g3
      obtain ⟨x, hx, px⟩ := open_val_el _ _ _ g4 rfl
      simp at e0 e1 e2 e3
      subst e0 e1 e2 e3
      have hx' : [c4, c5, c6] = valOf x := hx
      simp only [valOf, List.cons.injEq, and_true] at hx'
      obtain ⟨rfl, rfl, rfl⟩ := hx'
      exact ⟨⟨k0, k1, k2, k3, x⟩, rfl, px⟩
end
end Go.Proofs.Ytfmbbfidjcgeiaa

namespace Go.Proofs.Ytfmbbfidjcgeiaa
open Go.RowKit Go.Lib Go.Shelf

/-- Five small numbers. -/
structure U5 where
  x0 : Nat
  x1 : Nat
  x2 : Nat
  x3 : Nat
  x4 : Nat
def U5.ok (x : U5) : Prop := x.x0 < 65536 ∧ x.x1 < 65536 ∧ x.x2 < 65536 ∧ x.x3 < 65536 ∧ x.x4 < 65536
def u5Of (x : U5) : List Value := [.int .u16 (x.x0 : Int), .int .u16 (x.x1 : Int), .int .u16 (x.x2 : Int), .int .u16 (x.x3 : Int), .int .u16 (x.x4 : Int)]
theorem u5_info : (Try.prog.info? 97).map (fun i => (i.zero, i.size, i.bytes)) = some (some (.agg #[.int .u16 0, .int .u16 0, .int .u16 0, .int .u16 0, .int .u16 0]), 5, 10) := by kernel_rfl
def u5E : El Try.prog U5 := El.flat 97 5 10 (by decide) (info_mk u5_info rfl) u5Of (fun _ => rfl) (by intro x u hu; simp [u5Of] at hu; rcases hu with rfl | rfl | rfl | rfl | rfl <;> rfl)
def tupOf (x : U5) : Tup := gtup x.x0 x.x1 x.x2 x.x3 x.x4
theorem box_five {w : World} {g : Nat} {x y z u v : Value} {e : TypeId} (h : w.heap[g]? = some (.cells #[x, y, z, u, v] e (0, 0))) :
    (w.cell? ⟨g, 0, none⟩ = some x ∧ w.cell? ⟨g, 1, none⟩ = some y ∧ w.cell? ⟨g, 2, none⟩ = some z ∧ w.cell? ⟨g, 3, none⟩ = some u ∧ w.cell? ⟨g, 4, none⟩ = some v) := by
  refine ⟨?_, ?_, ?_, ?_, ?_⟩ <;> simp [World.cell?, h]

theorem box_kept_drew1 {w w' : World} {g : Nat} {o : Obj} (h : w.heap[g]? = some o) (hb : Below w.drew.heap.size w.drew w') : w'.heap[g]? = some o := box_kept (w := w.drew) h hb
theorem tuple_end {w wE W : World} {vv uu : Value} {t : Tup} (hk : Kept (fun k => k ≤ w.heap.size + 1) wE W) (hV : Sl valE wE (fun k => k ≤ w.heap.size + 1) vv t.vals) (hU : Sl intE wE (fun k => k ≤ w.heap.size + 1) uu t.lin) (h1 : 0 < t.vals.length) (h2 : 0 < t.lin.length) (hb : Below w.heap.size w W) :
    NewTup w t (.returned (.agg #[vv, .int .i64 t.lo, .int .i64 t.hi, uu])) W :=
  ⟨⟨vv, uu, rfl, (hV.kept hk).vals, (hU.kept hk).ints, fun k hk => by have := hV.clear_own h1 k hk; omega, fun k hk => by have := hU.clear_own h2 k hk; omega⟩, hb⟩

set_option maxHeartbeats 4000000 in
set_option maxRecDepth 100000 in
theorem tuple_any (x : U5) (hx : x.ok) (w : World) : Calls Try.prog 44 #[.agg #[.int .u16 (x.x0 : Int), .int .u16 (x.x1 : Int), .int .u16 (x.x2 : Int), .int .u16 (x.x3 : Int), .int .u16 (x.x4 : Int)]] w (NewTup w (tupOf x)) := by
  obtain ⟨x0, x1, x2, x3, x4⟩ := x
  obtain ⟨h0, h1, h2, h3, h4⟩ := hx
  dsimp only at h0 h1 h2 h3 h4 ⊢
  have HV := fun W => Lib.hid (vals_any x2 x3 h2 h3 W)
  have HP := fun W => Lib.hid (period_any x0 x1 h0 h1 W)
  obtain ⟨plo, hplo⟩ : ∃ p, p = (gper x0 x1).1 := ⟨_, rfl⟩
  obtain ⟨phi, hphi⟩ : ∃ p, p = (gper x0 x1).2 := ⟨_, rfl⟩
  rw [← hplo, ← hphi] at HP
  have ht : tupOf ⟨x0, x1, x2, x3, x4⟩ = ⟨[gval0 x2, gval1 x3], plo, phi, [1 + (x4 % 5 : Nat)]⟩ := by rw [hplo, hphi]; rfl
  rw [ht]
  clear hplo hphi ht
  go_enter Try.func44, Try.ntmps44
  go_wp2_with fail
  have hB0 := below_alloc_two w (.cells #[.int .u16 (x0 : Int), .int .u16 (x1 : Int), .int .u16 (x2 : Int), .int .u16 (x3 : Int), .int .u16 (x4 : Int)] 97) (.cells #[.slice none 0 0, .int .i64 0, .int .i64 0, .slice none 0 0] 51)
  have hz0 : w.heap.size + 1 < ((w.alloc (.cells #[.int .u16 (x0 : Int), .int .u16 (x1 : Int), .int .u16 (x2 : Int), .int .u16 (x3 : Int), .int .u16 (x4 : Int)] 97)).alloc (.cells #[.slice none 0 0, .int .i64 0, .int .i64 0, .slice none 0 0] 51)).heap.size := by simp
  obtain ⟨c0, c1, c2, c3, c4⟩ := box_five (heap_alloc_old' w (.cells #[.int .u16 (x0 : Int), .int .u16 (x1 : Int), .int .u16 (x2 : Int), .int .u16 (x3 : Int), .int .u16 (x4 : Int)] 97) (.cells #[.slice none 0 0, .int .i64 0, .int .i64 0, .slice none 0 0] 51))
  obtain ⟨⟨d0, d1, d2, d3⟩, f0, f1, f2, f3⟩ := box_four (heap_alloc_new' w (.cells #[.int .u16 (x0 : Int), .int .u16 (x1 : Int), .int .u16 (x2 : Int), .int .u16 (x3 : Int), .int .u16 (x4 : Int)] 97) (.cells #[.slice none 0 0, .int .i64 0, .int .i64 0, .slice none 0 0] 51))
  have hm1 : (x4 : Int).tmod 5 = (x4 : Int) % 5 := Int.tmod_eq_emod_of_nonneg (by omega)
  have hm2 : IntKind.i64.wrap ((x4 : Int) % 5) = (x4 : Int) % 5 := IntWalk.i64_in _ (by omega)
  have hm3 : IntKind.i64.wrap (1 + (x4 : Int) % 5) = 1 + (x4 : Int) % 5 := IntWalk.i64_in _ (by omega)
  go_region_held3 (fun W => Below w.heap.size w W ∧ w.heap.size + 1 < W.heap.size ∧ W.cell? ⟨w.heap.size, 0, none⟩ = some (.int .u16 (x0 : Int)) ∧ W.cell? ⟨w.heap.size, 1, none⟩ = some (.int .u16 (x1 : Int)) ∧ W.cell? ⟨w.heap.size, 2, none⟩ = some (.int .u16 (x2 : Int)) ∧ W.cell? ⟨w.heap.size, 3, none⟩ = some (.int .u16 (x3 : Int)) ∧ W.cell? ⟨w.heap.size, 4, none⟩ = some (.int .u16 (x4 : Int))
      ∧ W.cell? ⟨w.heap.size + 1, 0, none⟩ = some (vAt W ⟨w.heap.size + 1, 0, none⟩) ∧ W.cell? ⟨w.heap.size + 1, 1, none⟩ = some (vAt W ⟨w.heap.size + 1, 1, none⟩) ∧ W.cell? ⟨w.heap.size + 1, 2, none⟩ = some (vAt W ⟨w.heap.size + 1, 2, none⟩) ∧ W.cell? ⟨w.heap.size + 1, 3, none⟩ = some (vAt W ⟨w.heap.size + 1, 3, none⟩)
      ∧ W.frozen? ⟨w.heap.size + 1, 0, none⟩ = false ∧ W.frozen? ⟨w.heap.size + 1, 1, none⟩ = false ∧ W.frozen? ⟨w.heap.size + 1, 2, none⟩ = false ∧ W.frozen? ⟨w.heap.size + 1, 3, none⟩ = false)
    ((go_split_ands; refine ⟨?_, ?_, ?_, ?_, ?_, ?_, ?_, ?_, ?_, ?_, ?_, ?_, ?_, ?_, ?_⟩ <;> first | (with_reducible assumption) | with_reducible exact Below.drew (by assumption) | with_reducible exact size_drew (by assumption) | with_reducible exact cell_drew (by assumption) | with_reducible exact vAt_drew (by assumption) | with_reducible exact frozen_drew (by assumption) | with_reducible exact below_keep (by assumption) (by assumption) | with_reducible exact size_keep (by assumption) (by assumption) | with_reducible exact cell_keep (by assumption) (by assumption) | with_reducible exact vAt_keep (by assumption) (by assumption) | with_reducible exact frozen_keep (by assumption) (by assumption) (by assumption) | with_reducible exact below_alloc_keep (by assumption) | with_reducible exact size_alloc_keep (by assumption) | with_reducible exact cell_alloc (by assumption) | with_reducible exact vAt_alloc (by assumption) | with_reducible exact frozen_alloc (by assumption) (by assumption) | with_reducible exact below_alloc_drew (by assumption) | with_reducible exact size_alloc_drew (by assumption) | with_reducible exact cell_alloc_drew (by assumption) | with_reducible exact vAt_alloc_drew (by assumption) | with_reducible exact frozen_alloc_drew (by assumption) (by assumption) | with_reducible exact below_set4 (by assumption) (by simp) (by simp) (by simp) (by simp) | with_reducible exact size_set4 (by assumption) | with_reducible exact cell_set4 (by assumption) (by simp) rfl rfl rfl | with_reducible exact vAt_set4 (by assumption) | with_reducible exact frozen_set4 (by assumption)))
    (first
      | (go_at_call 65; go_split_ands; refine (HV _).out.mono ?_; rintro e wV ⟨va, vc, rfl, hSV, hbV⟩; have hlV := size_of (by assumption : w.heap.size + 1 < _) hbV; have hSV' : Sl valE wV (fun k => k ≤ w.heap.size + 1) (.slice va 2 vc) [gval0 x2, gval1 x3] := hSV.mono (fun k _ hk => Nat.lt_of_le_of_lt hk hlV))
      | (go_at_call 66; refine (HP _).out.mono ?_; rintro e wP ⟨rfl, hbP⟩))
  · clear hm1 hm2 hm3
    have e0 := cell_alloc (o := (.cells #[.int .i64 (1 + (x4 : Int) % 5)] 3)) (cell_keep hbP (cell_keep hbV (cell_drew d0)))
    have e1 := cell_alloc (o := (.cells #[.int .i64 (1 + (x4 : Int) % 5)] 3)) (cell_keep hbP (cell_keep hbV (cell_drew d1)))
    have e2 := cell_alloc (o := (.cells #[.int .i64 (1 + (x4 : Int) % 5)] 3)) (cell_keep hbP (cell_keep hbV (cell_drew d2)))
    have e3 := cell_alloc (o := (.cells #[.int .i64 (1 + (x4 : Int) % 5)] 3)) (cell_keep hbP (cell_keep hbV (cell_drew d3)))
    have hblk := World.alloc_heap_new wP (.cells #[.int .i64 (1 + (x4 : Int) % 5)] 3)
    go_wp2_with fail
    refine bodyPost_ret (v := .agg #[.slice va 2 vc, .int .i64 plo, .int .i64 phi, .slice (some ⟨wP.heap.size, 0, none⟩) 1 1]) ?_ rfl (tuple_end (t := ⟨[gval0 x2, gval1 x3], plo, phi, [1 + (x4 % 5 : Nat)]⟩) (kept_set4 (Nat.le_refl _) (Nat.le_refl _) (Nat.le_refl _) (Nat.le_refl _)) ((hSV'.below hbP).below (below_alloc _ _)) (Sl.of_block hblk (Els.one (cs := [.int .i64 (1 + (x4 : Int) % 5)]) rfl) (by have h5 := hlV; have h6 := hbV.size; have h7 := hbP.size; omega) rfl (by simp) (by simp)) (by simp) (by simp) (by go_split_ands; with_reducible assumption))
    simp [results, Try.results44, go_sem, e0, e1, e2, e3]
  · clear hm1 hm2 hm3
    have e0 := cell_keep hbP (cell_alloc (cell_keep hbV (cell_drew d0)))
    have e1 := cell_keep hbP (cell_alloc (cell_keep hbV (cell_drew d1)))
    have e2 := cell_keep hbP (cell_alloc (cell_keep hbV (cell_drew d2)))
    have e3 := cell_keep hbP (cell_alloc (cell_keep hbV (cell_drew d3)))
    have hblk := box_kept (World.alloc_heap_new wV (.cells #[.int .i64 (1 + (x4 : Int) % 5)] 3)) hbP
    go_wp2_with fail
    refine bodyPost_ret (v := .agg #[.slice va 2 vc, .int .i64 plo, .int .i64 phi, .slice (some ⟨wV.heap.size, 0, none⟩) 1 1]) ?_ rfl (tuple_end (t := ⟨[gval0 x2, gval1 x3], plo, phi, [1 + (x4 % 5 : Nat)]⟩) (kept_set4 (Nat.le_refl _) (Nat.le_refl _) (Nat.le_refl _) (Nat.le_refl _)) (hSV'.below (below_alloc2' hbP)) (Sl.of_block hblk (Els.one (cs := [.int .i64 (1 + (x4 : Int) % 5)]) rfl) (by have h5 := hlV; have h6 := hbV.size; omega) rfl (by simp) (by simp)) (by simp) (by simp) (by go_split_ands; with_reducible assumption))
    simp [results, Try.results44, go_sem, e0, e1, e2, e3]
  · clear hm1 hm2 hm3
    have e0 := cell_keep hbP (cell_keep hbV (cell_alloc_drew (cell_drew d0)))
    have e1 := cell_keep hbP (cell_keep hbV (cell_alloc_drew (cell_drew d1)))
    have e2 := cell_keep hbP (cell_keep hbV (cell_alloc_drew (cell_drew d2)))
    have e3 := cell_keep hbP (cell_keep hbV (cell_alloc_drew (cell_drew d3)))
    have hblk := box_kept (box_kept_drew1 (World.alloc_heap_new ((w.alloc (.cells #[.int .u16 (x0 : Int), .int .u16 (x1 : Int), .int .u16 (x2 : Int), .int .u16 (x3 : Int), .int .u16 (x4 : Int)] 97)).alloc (.cells #[.slice none 0 0, .int .i64 0, .int .i64 0, .slice none 0 0] 51)) (.cells #[.int .i64 (1 + (x4 : Int) % 5)] 3)) hbV) hbP
    simp only [World.size_alloc] at hblk
    go_wp2_with fail
    refine bodyPost_ret (v := .agg #[.slice va 2 vc, .int .i64 plo, .int .i64 phi, .slice (some ⟨w.heap.size + 1 + 1, 0, none⟩) 1 1]) ?_ rfl (tuple_end (t := ⟨[gval0 x2, gval1 x3], plo, phi, [1 + (x4 % 5 : Nat)]⟩) (kept_set4 (Nat.le_refl _) (Nat.le_refl _) (Nat.le_refl _) (Nat.le_refl _)) (hSV'.below hbP) (Sl.of_block hblk (Els.one (cs := [.int .i64 (1 + (x4 : Int) % 5)]) rfl) (by omega) rfl (by simp) (by simp)) (by simp) (by simp) (by go_split_ands; with_reducible assumption))
    simp [results, Try.results44, go_sem, e0, e1, e2, e3]
end Go.Proofs.Ytfmbbfidjcgeiaa

namespace Go.Proofs.Ytfmbbfidjcgeiaa
open Go.RowKit Go.Lib Go.Shelf

theorem u5_at {w : World} {a : Option Addr} {n c k : Nat} {l : List U5} {x : U5} (h : Sl u5E w free (.slice a n c) l) (hk : l[k]? = some x) :
    ∃ b o, a = some ⟨b, o, none⟩ ∧ w.cell? ⟨b, o + k * 5, none⟩ = some (.int .u16 (x.x0 : Int)) ∧ w.cell? ⟨b, o + k * 5 + 1, none⟩ = some (.int .u16 (x.x1 : Int)) ∧ w.cell? ⟨b, o + k * 5 + 2, none⟩ = some (.int .u16 (x.x2 : Int)) ∧ w.cell? ⟨b, o + k * 5 + 3, none⟩ = some (.int .u16 (x.x3 : Int)) ∧ w.cell? ⟨b, o + k * 5 + 4, none⟩ = some (.int .u16 (x.x4 : Int)) := by
  obtain ⟨b, o, cs, ha, rfl, hc⟩ := Sl.at h hk
  exact ⟨b, o, ha, hc 0 _ rfl, hc 1 _ rfl, hc 2 _ rfl, hc 3 _ rfl, hc 4 _ rfl⟩
def tupsOf (l : List U5) (m : Nat) : List Tup := (l.take m).map tupOf
theorem tupsOf_length (l : List U5) (m : Nat) : (tupsOf l m).length ≤ m := by simp [tupsOf]; omega
set_option maxHeartbeats 4000000 in
set_option maxRecDepth 100000 in
theorem tuples_any (v : Value) (l : List U5) (m : Nat) (hm : m ≤ 1000) (w : World) (hv : Sl u5E w free v l) (hok : ∀ x ∈ l, x.ok) :
    Calls Try.prog 19 #[v, .int .i64 (m : Int)] w (RetOwn tupE w (tupsOf l m)) := by
  obtain ⟨a, c, rfl⟩ := hv.shape
  have HV := Lib.hid hv
  have HOK := Lib.hid hok
  have h63 := hv.1
  obtain ⟨n, hn⟩ : ∃ n, n = l.length := ⟨_, rfl⟩
  have HN := Lib.hid hn
  rw [← hn] at HV h63 ⊢
  clear hv hn hok
  go_enter Try.func19, Try.ntmps19
  go_wp2_with fail
  go_loopw [6, 5] (fun i o wr => ∃ k : Nat, k ≤ n ∧ k ≤ m ∧ i = .int .i64 k ∧ Own tupE wr w.heap.size o ((l.take k).map tupOf) ∧ Below w.heap.size w wr) (fun i _ _ => n - (intOf i).toNat)
  case atStart => exact ⟨0, Nat.zero_le _, Nat.zero_le _, rfl, Own.nil _ _ _, Below.refl _ _⟩
  case round =>
    obtain ⟨k, hk, hkm, rfl, hO, hB⟩ := hrel
    obtain ⟨acc, hacc⟩ : ∃ acc, acc = (l.take k).map tupOf := ⟨_, rfl⟩
    have hlen : acc.length ≤ k := by rw [hacc]; simp; omega
    rw [← hacc] at hO
    obtain ⟨oa, oc, rfl⟩ := hO.shape
    have HACC := Lib.hid hacc
    clear hacc
    by_cases hlt : k < n ∧ k < m
    · obtain ⟨hlt1, hlt2⟩ := hlt
      obtain ⟨x, hx⟩ := lget_some l k (by rw [← HN.out]; exact hlt1)
      obtain ⟨b, o, rfl, p0, p1, p2, p3, p4⟩ := u5_at HV.out hx
      replace p0 := cell_keep hB p0
      replace p1 := cell_keep hB p1
      replace p2 := cell_keep hB p2
      replace p3 := cell_keep hB p3
      replace p4 := cell_keep hB p4
      have HT : Hid ((l.take (k + 1)).map tupOf = acc ++ [tupOf x]) := by show _ = _; rw [take_get hx, HACC.out, List.map_append]; rfl
      have HX := Lib.hid (HOK.out x (List.mem_of_getElem? hx))
      clear hx
      obtain ⟨t, ht⟩ : ∃ t, t = tupOf x := ⟨_, rfl⟩
      have HTU := Lib.hid (tuple_any x HX.out wr)
      rw [← ht] at HT HTU
      clear ht
      go_wp2_with fail
      refine HTU.out.mono ?_
      rintro e w2 hN
      obtain ⟨a4, c4, b4, d4, rfl, his⟩ := hN.cells
      have hb2 := hN.below
      clear hN
      have hB2 := below_keep hB hb2
      have hO2 := hO.below hb2
      go_wp2_with (at_builtin; refine wpList_push rfl _ _ 30 rfl tupE Try.underlying30 w.heap.size (.slice oa acc.length oc) acc rfl hO2 [t] #[.slice a4 t.vals.length c4, .int .i64 t.lo, .int .i64 t.hi, .slice b4 t.lin.length d4] (Els.one (tupE.mono his (fun k _ hk => (hO.lt k hk.symm).2))) 1 1 rfl rfl (by decide) (by unfold maxLen; omega) (by show _ * 64 ≤ _; omega) hB2.size ?_; intro g cap w5 hP hPa)
      go_roundw
      case rel => exact ⟨k + 1, by omega, by omega, by go_num, by rw [HT.out]; exact hP.own' (by simp), hB2.trans hP.below⟩
      case measure => simp [intOf]; omega
    · have HF : Hid (acc = tupsOf l m) := by
        show _ = _
        rw [HACC.out, tupsOf]
        by_cases h1 : k < n
        · have : k = m := by omega
          rw [this]
        · rw [List.take_of_length_le (by rw [← HN.out]; omega), List.take_of_length_le (by rw [← HN.out]; omega)]
      by_cases h1 : k < n
      · have h2 : ¬ k < m := fun h => hlt ⟨h1, h⟩
        clear hlt
        go_wp2_with fail
        go_ret
        exact ⟨_, rfl, by rw [← HF.out]; exact hO, hB⟩
      · clear hlt
        go_wp2_with fail
        go_ret
        exact ⟨_, rfl, by rw [← HF.out]; exact hO, hB⟩
end Go.Proofs.Ytfmbbfidjcgeiaa

namespace Go.Proofs.Ytfmbbfidjcgeiaa
open Go.RowKit Go.Lib

/-- An operation. -/
structure Opn where
  kind : Int
  f : Int
  t : Int
  x : Int
def opnOf (s : Opn) : List Value := [.int .i64 s.kind, .int .i64 s.f, .int .i64 s.t, .int .i64 s.x]
theorem opn_info : (Try.prog.info? 58).map (fun i => (i.zero, i.size, i.bytes)) = some (some (.agg #[.int .i64 0, .int .i64 0, .int .i64 0, .int .i64 0]), 4, 32) := by kernel_rfl
def opnE : El Try.prog Opn := El.flat 58 4 32 (by decide) (info_mk opn_info rfl) opnOf (fun _ => rfl) (by intro x u hu; simp [opnOf] at hu; rcases hu with rfl | rfl | rfl | rfl <;> rfl)
theorem opn_at {w : World} {G : Nat → Prop} {a : Option Addr} {n c k : Nat} {l : List Opn} {s : Opn} (h : Sl opnE w G (.slice a n c) l) (hk : l[k]? = some s) :
    ∃ b o, a = some ⟨b, o, none⟩ ∧ w.cell? ⟨b, o + k * 4, none⟩ = some (.int .i64 s.kind) ∧ w.cell? ⟨b, o + k * 4 + 1, none⟩ = some (.int .i64 s.f) ∧ w.cell? ⟨b, o + k * 4 + 2, none⟩ = some (.int .i64 s.t) ∧ w.cell? ⟨b, o + k * 4 + 3, none⟩ = some (.int .i64 s.x) := by
  obtain ⟨b, o, cs, ha, rfl, hc⟩ := h.at hk
  exact ⟨b, o, ha, hc 0 _ rfl, hc 1 _ rfl, hc 2 _ rfl, hc 3 _ rfl⟩
theorem elts_nil (a : List Int) (f : Nat) : elts a f f = [] := by unfold elts; rw [Nat.sub_self]; rfl
section
variable {B p g n : Nat} {a : List Int} {nd : List Nd}
theorem sum_all (f t : Int) (w : World) (hT : TreeAt w B p g nd n) (hN : TreeN a nd) (hn : a.length = n) (hq : Num64 a) (hl : n ≤ 200) :
    Calls Try.prog 12 #[.pointer (some ⟨p, 0, none⟩), .int .i64 f, .int .i64 t] w (PairRet w (sumR a f t)) := by
  by_cases h : f < 0 ∨ t < f ∨ (n : Int) < t
  · have e : sumR a f t = (0, false) := if_neg (by rw [hn]; omega)
    rw [e]
    exact sum_no f t w hT h
  · obtain ⟨f, rfl⟩ := Int.eq_ofNat_of_zero_le (show 0 ≤ f by omega)
    obtain ⟨t, rfl⟩ := Int.eq_ofNat_of_zero_le (show 0 ≤ t by omega)
    rcases Nat.lt_or_ge f t with hlt | hge
    · have := sum_yes f t w hT hN hn hq hl hlt (by omega)
      by_cases hs : In64B (sumI (elts a f t)) = true
      · rw [if_pos hs] at this
        have e : sumR a (f : Int) (t : Int) = (sumI (elts a f t), true) := if_pos ⟨by omega, by omega, by omega, hs⟩
        rw [e]; exact this
      · rw [if_neg hs] at this
        have e : sumR a (f : Int) (t : Int) = (0, false) := if_neg (fun k => hs k.2.2.2)
        rw [e]; exact this
    · obtain rfl : f = t := by omega
      have e : sumR a (f : Int) (f : Int) = (0, true) := by
        unfold sumR
        rw [Int.toNat_natCast, elts_nil]
        exact if_pos ⟨by omega, by omega, by omega, rfl⟩
      rw [e]
      exact sum_zero f w hT (by omega)
/-- A least and a greatest number of a range, if it is one. -/
def MinIs (l : List Int) (x : Int) : Prop := x ∈ l ∧ ∀ y ∈ l, x ≤ y
def MaxIs (l : List Int) (x : Int) : Prop := x ∈ l ∧ ∀ y ∈ l, y ≤ x
theorem MinIs.unique {l : List Int} {x y : Int} (h : MinIs l x) (k : MinIs l y) : x = y := Int.le_antisymm (h.2 _ k.1) (k.2 _ h.1)
theorem MaxIs.unique {l : List Int} {x y : Int} (h : MaxIs l x) (k : MaxIs l y) : x = y := Int.le_antisymm (k.2 _ h.1) (h.2 _ k.1)
/-- What Min and Max answer at a range. -/
def ExtRet (P : List Int → Int → Prop) (w : World) (a : List Int) (f t : Int) (e : Ending) (w' : World) : Prop :=
  ∃ (x : Int) (q : Bool), PairRet w (x, q) e w' ∧ (q = true ↔ 0 ≤ f ∧ f < t ∧ t ≤ (a.length : Int)) ∧ (q = true → P (elts a f.toNat t.toNat) x) ∧ (q = false → x = 0)
theorem min_all (f t : Int) (w : World) (hT : TreeAt w B p g nd n) (hN : TreeN a nd) (hn : a.length = n) (hq : Num64 a) (hl : n ≤ 200) :
    Calls Try.prog 13 #[.pointer (some ⟨p, 0, none⟩), .int .i64 f, .int .i64 t] w (ExtRet MinIs w a f t) := by
  by_cases h : f < 0 ∨ t ≤ f ∨ (n : Int) < t
  · exact (min_no f t w hT h).mono fun e w' hp => ⟨0, false, hp, ⟨(fun h => by cases h), fun k => by rw [hn] at k; omega⟩, (fun h => by cases h), fun _ => rfl⟩
  · obtain ⟨f, rfl⟩ := Int.eq_ofNat_of_zero_le (show 0 ≤ f by omega)
    obtain ⟨t, rfl⟩ := Int.eq_ofNat_of_zero_le (show 0 ≤ t by omega)
    refine (min_yes f t w hT hN hn hq hl (by omega) (by omega)).mono fun e w' ⟨d, hd, hp⟩ => ⟨d.mn, true, hp, ⟨fun _ => by rw [hn]; omega, fun _ => rfl⟩, fun _ => ?_, fun h => by cases h⟩
    rw [Int.toNat_natCast, Int.toNat_natCast]
    exact ⟨hd.mn, hd.low⟩
theorem max_all (f t : Int) (w : World) (hT : TreeAt w B p g nd n) (hN : TreeN a nd) (hn : a.length = n) (hq : Num64 a) (hl : n ≤ 200) :
    Calls Try.prog 14 #[.pointer (some ⟨p, 0, none⟩), .int .i64 f, .int .i64 t] w (ExtRet MaxIs w a f t) := by
  by_cases h : f < 0 ∨ t ≤ f ∨ (n : Int) < t
  · exact (max_no f t w hT h).mono fun e w' hp => ⟨0, false, hp, ⟨(fun h => by cases h), fun k => by rw [hn] at k; omega⟩, (fun h => by cases h), fun _ => rfl⟩
  · obtain ⟨f, rfl⟩ := Int.eq_ofNat_of_zero_le (show 0 ≤ f by omega)
    obtain ⟨t, rfl⟩ := Int.eq_ofNat_of_zero_le (show 0 ≤ t by omega)
    refine (max_yes f t w hT hN hn hq hl (by omega) (by omega)).mono fun e w' ⟨d, hd, hp⟩ => ⟨d.mx, true, hp, ⟨fun _ => by rw [hn]; omega, fun _ => rfl⟩, fun _ => ?_, fun h => by cases h⟩
    rw [Int.toNat_natCast, Int.toNat_natCast]
    exact ⟨hd.mx, hd.high⟩
end
/-- What 'total' answers. -/
def totR (l : List Int) : Int × Bool := if l = [] then (0, true) else if In64B (sumI l) = true then (sumI l, true) else (0, false)
theorem sumR_legal {a : List Int} {f t : Nat} (h : f ≤ t) (ht : t ≤ a.length) : sumR a (f : Int) (t : Int) = totR (elts a f t) := by
  unfold sumR totR
  rw [Int.toNat_natCast, Int.toNat_natCast]
  by_cases e : elts a f t = []
  · rw [e, if_pos rfl]
    exact if_pos ⟨by omega, by omega, by omega, rfl⟩
  · rw [if_neg e]
    by_cases hs : In64B (sumI (elts a f t)) = true
    · rw [if_pos hs]; exact if_pos ⟨by omega, by omega, by omega, hs⟩
    · rw [if_neg hs]; exact if_neg fun k => hs k.2.2.2
theorem sumR_illegal {a : List Int} {f t : Int} (h : ¬ (0 ≤ f ∧ f ≤ t ∧ t ≤ (a.length : Int))) : sumR a f t = (0, false) := if_neg fun k => h ⟨k.1, k.2.1, k.2.2.1⟩
theorem intsL_gint : ∀ l : List Int, intsL (l.map gint) = l
  | [] => rfl
  | x :: l => by
    have := intsL_gint l
    unfold intsL at *
    rw [List.map_cons, List.filter_cons, if_pos (show ((gint x).kind == 1) = true from rfl), List.map_cons, this]
    rfl
theorem totR_sum (l : List Int) : totR l = ((aggP 2 (l.map gint)).n, (aggP 2 (l.map gint)).kind == 1 || decide (l.length = 0)) := by
  have e : aggP 2 (l.map gint) = sumG (l.map gint) := rfl
  rw [e]
  unfold totR sumG
  rw [intsL_gint]
  by_cases h : l = []
  · subst h; rfl
  · rw [if_neg h]
    have h0 : decide (l.length = 0) = false := by rw [decide_eq_false_iff_not, List.length_eq_zero_iff]; exact h
    rw [h0]
    by_cases hs : In64B (sumI l) = true
    · rw [if_pos hs, if_neg (by rintro (k | k); exact h k; exact k (In64B_iff.1 hs))]
      rfl
    · rw [if_neg hs, if_pos (.inr fun k => hs (In64B_iff.2 k))]
      rfl
/-- The least and the greatest so far. -/
def ExtI (a : List Int) (f i : Nat) (low high : Int) : Prop := (i = f ∧ low = 0 ∧ high = 0) ∨ (f < i ∧ MinIs (elts a f i) low ∧ MaxIs (elts a f i) high)
theorem elts_snoc {a : List Int} {f i : Nat} {x : Int} (h : f ≤ i) (hx : a[i]? = some x) : elts a f (i + 1) = elts a f i ++ [x] := by
  rw [elts_split h (Nat.le_succ i), elts_one]
  unfold elt
  rw [hx]
  rfl
theorem ExtI.step {a : List Int} {f i : Nat} {low high x : Int} (h : ExtI a f i low high) (hf : f ≤ i) (hx : a[i]? = some x) :
    ExtI a f (i + 1) (if i = f ∨ x < low then x else low) (if i = f ∨ high < x then x else high) := by
  refine .inr ⟨by omega, ?_⟩
  rw [elts_snoc hf hx]
  rcases h with ⟨rfl, _, _⟩ | ⟨hlt, ⟨h1, h2⟩, h3, h4⟩
  · rw [if_pos (.inl rfl), if_pos (.inl rfl), elts_nil]
    exact ⟨⟨by simp, by simp⟩, ⟨by simp, by simp⟩⟩
  · have hne : ¬ i = f := by omega
    have hm : ∀ y ∈ elts a f i ++ [x], y ∈ elts a f i ∨ y = x := fun y hy => by
      rcases List.mem_append.1 hy with hy | hy
      · exact .inl hy
      · exact .inr (List.mem_singleton.1 hy)
    refine ⟨?_, ?_⟩
    · by_cases e : x < low
      · rw [if_pos (.inr e)]
        refine ⟨List.mem_append.2 (.inr (List.mem_singleton.2 rfl)), fun y hy => ?_⟩
        rcases hm y hy with hy | rfl
        · have := h2 y hy; omega
        · omega
      · rw [if_neg (by rintro (k | k); exact hne k; exact e k)]
        refine ⟨List.mem_append.2 (.inl h1), fun y hy => ?_⟩
        rcases hm y hy with hy | rfl
        · exact h2 y hy
        · omega
    · by_cases e : high < x
      · rw [if_pos (.inr e)]
        refine ⟨List.mem_append.2 (.inr (List.mem_singleton.2 rfl)), fun y hy => ?_⟩
        rcases hm y hy with hy | rfl
        · have := h4 y hy; omega
        · omega
      · rw [if_neg (by rintro (k | k); exact hne k; exact e k)]
        refine ⟨List.mem_append.2 (.inl h3), fun y hy => ?_⟩
        rcases hm y hy with hy | rfl
        · exact h4 y hy
        · omega
end Go.Proofs.Ytfmbbfidjcgeiaa

namespace Go.Proofs.Ytfmbbfidjcgeiaa
open Go.RowKit Go.Lib

/-- Tuples that lie within all days. -/
def InDays (l : List Tup) : Prop := ∀ t ∈ l, 0 ≤ t.lo ∧ t.lo < t.hi ∧ t.hi ≤ 1000000
theorem tupsOf_days (l : List U5) (m : Nat) : InDays (tupsOf l m) := by
  intro t ht
  obtain ⟨x, _, rfl⟩ := List.mem_map.1 ht
  have h : 0 ≤ (gper x.x0 x.x1).1 ∧ (gper x.x0 x.x1).1 < (gper x.x0 x.x1).2 ∧ (gper x.x0 x.x1).2 ≤ 1000000 := by
    unfold gper
    split <;> dsimp only <;> omega
  exact h
/-- The tuples that a window sees. -/
def winL (D : Int) (l : List Tup) (d : Int) : List Tup := l.filter fun t => decide (t.lo ≤ d) && decide (d < t.hi + D - 1)
theorem hold_win {D d : Int} (hD : 1 ≤ D) (hd : d < 1000000) : ∀ l : List Tup, InDays l → (holdL (extL D l) d).map Tup.vals = (winL D l d).map Tup.vals
  | [], _ => rfl
  | t :: l, h => by
    have ih := hold_win hD hd l fun t ht => h t (List.mem_cons_of_mem _ ht)
    have ht := h t (List.mem_cons_self ..)
    have hv : pvalid t.lo t.hi = true := pvalid_iff.2 ⟨ht.1, ht.2.1, by omega⟩
    have e1 : extT D t = [⟨t.vals, t.lo, min (min t.hi 1000000 + D - 1) 1000000, t.lin⟩] := if_pos ⟨hv, by omega⟩
    have hp : pincl t.lo (min (min t.hi 1000000 + D - 1) 1000000) d = (decide (t.lo ≤ d) && decide (d < t.hi + D - 1)) := by
      rw [Bool.eq_iff_iff, pincl_iff, pvalid_iff]
      simp
      omega
    unfold holdL winL extL at *
    rw [List.flatMap_cons, e1, List.filter_append, List.map_append, ih, List.filter_cons, List.filter_cons, List.filter_nil]
    dsimp only
    rw [hp]
    cases (decide (t.lo ≤ d) && decide (d < t.hi + D - 1)) <;> rfl
theorem aggT_win {D d : Int} (hD : 1 ≤ D) (hd : d < 1000000) {l : List Tup} (h : InDays l) (e : List GExp) (arg kind : Int) :
    aggT e arg kind (holdL (extL D l) d) = aggP kind ((winL D l d).map fun t => evalG e arg t.vals) := by
  have := hold_win hD hd l h
  unfold aggT
  rw [show ((holdL (extL D l) d).map fun t => evalG e arg t.vals) = ((holdL (extL D l) d).map Tup.vals).map (evalG e arg) by rw [List.map_map]; rfl, this, List.map_map]
  rfl
theorem count_win {D d : Int} (hD : 1 ≤ D) (hd : d < 1000000) {l : List Tup} (h : InDays l) (e : List GExp) (arg : Int) :
    aggT e arg 1 (holdL (extL D l) d) = gint (winL D l d).length := by
  rw [aggT_win hD hd h]
  unfold aggP
  rw [if_pos rfl, List.length_map]
theorem win_wider {D E d : Int} (h : D ≤ E) (l : List Tup) : winL D l d = (winL E l d).filter fun t => decide (t.lo ≤ d) && decide (d < t.hi + D - 1) := by
  unfold winL
  rw [List.filter_filter]
  refine List.filter_congr fun t _ => ?_
  rw [Bool.eq_iff_iff]
  simp
  omega
theorem win_len {D E d : Int} (h : D ≤ E) (l : List Tup) : (winL D l d).length ≤ (winL E l d).length := by
  rw [win_wider h l]
  exact List.length_filter_le _ _
/-- The first column. -/
def colX : GExp := ⟨2, 0, 0, 0, gnull⟩
theorem eval_col (a b : GVal) : evalG [colX] 0 [a, b] = a := rfl
/-- Null or a number. -/
def Num01 (g : GVal) : Prop := g.kind = 0 ∨ g.kind = 1
theorem col_num (l : List U5) (m : Nat) : ∀ t ∈ tupsOf l m, Num01 (evalG [colX] 0 t.vals) := by
  intro t ht
  obtain ⟨x, _, rfl⟩ := List.mem_map.1 ht
  have e : evalG [colX] 0 (tupOf x).vals = gval0 x.x2 := eval_col _ _
  rw [e]
  unfold gval0 Num01
  split
  · exact .inl rfl
  · exact .inr rfl
theorem cmpG_null {g : GVal} (h : 0 < g.kind) : cmpG gnull g = -1 := by
  unfold cmpG lessG
  rw [if_pos]
  simp [gnull, h]
theorem cmpG_tri (a b : GVal) : cmpG a b = -1 ∨ cmpG a b = 0 ∨ cmpG a b = 1 := (sgn_val a b b).1
/-- A greatest value among fewer is not greater. -/
theorem max_wider {A B : List GVal} (h : ∀ x ∈ A, x ∈ B) (hn : ∀ x ∈ B, Num01 x) : cmpG (aggP 4 A) (aggP 4 B) ≤ 0 := by
  have ha : ∀ l, aggP 4 l = extG 1 (nonNull l) := fun l => rfl
  rw [ha, ha]
  have hsub : ∀ x ∈ nonNull A, x ∈ nonNull B := fun x hx => by
    obtain ⟨h1, h2⟩ := List.mem_filter.1 hx
    exact List.mem_filter.2 ⟨h x h1, h2⟩
  by_cases hA : nonNull A = []
  · rw [hA]
    show cmpG gnull _ ≤ 0
    by_cases hB : nonNull B = []
    · rw [hB]
      show cmpG gnull gnull ≤ 0
      rw [cmpG_zero.2 rfl]
      decide
    · have hb := (extG_best (.inl rfl) hB).1
      obtain ⟨h1, h2⟩ := List.mem_filter.1 hb
      rw [cmpG_null]
      · decide
      · rcases hn _ h1 with e | e
        · rw [e] at h2; cases h2
        · omega
  · have hp := (extG_best (.inl rfl) hA).1
    have hB : nonNull B ≠ [] := List.ne_nil_of_mem (hsub _ hp)
    have := (extG_best (.inl rfl) hB).2 _ (hsub _ hp)
    rcases cmpG_tri (extG 1 (nonNull A)) (extG 1 (nonNull B)) with e | e | e <;> omega
theorem col_wider {D E d : Int} (hD : 1 ≤ D) (h : D ≤ E) (hd : d < 1000000) (l : List U5) (m : Nat) :
    cmpG (aggT [colX] 0 4 (holdL (extL D (tupsOf l m)) d)) (aggT [colX] 0 4 (holdL (extL E (tupsOf l m)) d)) ≤ 0 := by
  rw [aggT_win hD hd (tupsOf_days l m), aggT_win (by omega) hd (tupsOf_days l m)]
  refine max_wider (fun x hx => ?_) (fun x hx => ?_)
  · obtain ⟨t, ht, rfl⟩ := List.mem_map.1 hx
    rw [win_wider h] at ht
    exact List.mem_map_of_mem (List.mem_filter.1 ht).1
  · obtain ⟨t, ht, rfl⟩ := List.mem_map.1 hx
    exact col_num l m t (List.mem_filter.1 ht).1
theorem wide_n {l : List Tup} (h : InDays l) (D : Int) {d : Int} (h0 : 0 ≤ d) (h1 : d < 1000000) : valueL (movL l [] 0 D 1) d = gint (winL (clampD D) l d).length := by
  rw [movL_value l [] 0 D 1 h0 h1, count_win (clampD_pos D).1 h1 h]
theorem clampD_le {D E : Int} (h : D ≤ E) : clampD D ≤ clampD E := by unfold clampD; omega
theorem wide_c (l : List U5) (m : Nat) {D E d : Int} (h : D ≤ E) (h0 : 0 ≤ d) (h1 : d < 1000000) : cmpG (valueL (movL (tupsOf l m) [colX] 0 D 4) d) (valueL (movL (tupsOf l m) [colX] 0 E 4) d) ≤ 0 := by
  rw [movL_value _ [colX] 0 D 4 h0 h1, movL_value _ [colX] 0 E 4 h0 h1]
  exact col_wider (clampD_pos D).1 (clampD_le h) h1 l m
/-! All of time. -/
/-- The tuples that started by then. -/
def begun (l : List Tup) (d : Int) : List Tup := l.filter fun t => decide (t.lo ≤ d)
theorem win_all {d : Int} (hd : d < 1000000) {l : List Tup} (h : InDays l) : winL 1000000 l d = begun l d := by
  unfold winL begun
  refine List.filter_congr fun t ht => ?_
  have := h t ht
  rw [Bool.eq_iff_iff]
  simp
  omega
theorem begun_mono {c d : Int} (h : c ≤ d) (l : List Tup) : (begun l c).length ≤ (begun l d).length := by
  have e : begun l c = (begun l d).filter fun t => decide (t.lo ≤ c) := by
    unfold begun
    rw [List.filter_filter]
    refine List.filter_congr fun t _ => ?_
    rw [Bool.eq_iff_iff]
    simp
    omega
  rw [e]
  exact List.length_filter_le _ _
theorem begun_snoc {l : List Tup} {k : Nat} {t : Tup} {d : Int} (h : l[k]? = some t) : (begun (l.take (k + 1)) d).length = (begun (l.take k) d).length + if t.lo ≤ d then 1 else 0 := by
  unfold begun
  rw [take_get h, List.filter_append, List.length_append, List.filter_cons, List.filter_nil]
  by_cases e : t.lo ≤ d <;> simp [e]
theorem clampD_all : clampD 1000000 = 1000000 := rfl
/-- The steps of the window that reaches back to day 0. -/
theorem total_steps (l : List Tup) : StepI (movL l [] 0 1000000 1) 0 1000000 (fun d => aggT [] 0 1 (holdL (extL 1000000 l) d)) := movL_steps l [] 0 1000000 1
theorem tiles_lt : ∀ {l : List Stp} {a b : Int}, Tiles l a b → ∀ s ∈ l, a ≤ s.lo ∧ s.lo < s.hi ∧ s.hi ≤ b
  | s :: l, a, b, ⟨h1, h2, h3⟩, t, ht => by
    have h4 := h3.le
    rcases List.mem_cons.1 ht with rfl | ht
    · omega
    · have := tiles_lt h3 t ht; omega
/-- Step k begins where the steps ahead of it end. -/
theorem tiles_at : ∀ {l : List Stp} {a b : Int} {k : Nat} {s : Stp}, Tiles l a b → l[k]? = some s → Tiles (l.take k) a s.lo
  | s :: l, a, b, 0, t, ⟨h1, h2, h3⟩, ht => by
    cases ht
    exact h1.symm
  | s :: l, a, b, k + 1, t, ⟨h1, h2, h3⟩, ht => ⟨h1, h2, tiles_at h3 ht⟩
/-- Each step counts more than the one ahead of it. -/
theorem total_up {l : List Tup} (h : InDays l) {k : Nat} {s t : Stp} (hs : (movL l [] 0 1000000 1)[k]? = some s) (ht : (movL l [] 0 1000000 1)[k + 1]? = some t) : s.v.n < t.v.n := by
  have hI := total_steps l
  have e : ∀ u ∈ movL l [] 0 1000000 1, u.v = gint (begun l u.lo).length := fun u hu => by
    have h1 := tiles_lt hI.tiles u hu
    rw [hI.val u hu u.lo (Int.le_refl _) h1.2.1, count_win (by decide) (by omega) h, win_all (by omega) h]
  have hsm := List.mem_of_getElem? hs
  have htm := List.mem_of_getElem? ht
  have hne := hI.adj k s t hs ht
  have hle : s.lo ≤ t.lo := by
    have h1 := tiles_at hI.tiles ht
    have h2 : s ∈ (movL l [] 0 1000000 1).take (k + 1) := by
      rw [take_get hs]
      exact List.mem_append.2 (.inr (List.mem_singleton.2 rfl))
    have := tiles_lt h1 s h2
    omega
  have hmn := begun_mono hle l
  rw [e s hsm, e t htm] at hne ⊢
  show ((begun l s.lo).length : Int) < ((begun l t.lo).length : Int)
  have : (begun l s.lo).length ≠ (begun l t.lo).length := fun e => hne (by rw [e])
  omega
theorem total_value {l : List Tup} (h : InDays l) {d : Int} (h0 : 0 ≤ d) (h1 : d < 1000000) : valueL (movL l [] 0 1000000 1) d = gint (begun l d).length := by
  rw [movL_value l [] 0 1000000 1 h0 h1, clampD_all, count_win (by decide) h1 h, win_all h1 h]
/-- The window meets a tuple's period exactly if it sees the tuple. -/
theorem covers_iff (l : List Tup) (D d : Int) : (∃ p ∈ l.map fun t => (t.lo, t.hi), p.1 ≤ d ∧ d - D + 1 < p.2) ↔ 0 < (winL D l d).length := by
  rw [List.length_pos_iff_exists_mem]
  unfold winL
  constructor
  · rintro ⟨p, hp, h1, h2⟩
    obtain ⟨t, ht, rfl⟩ := List.mem_map.1 hp
    dsimp only at h1 h2
    exact ⟨t, List.mem_filter.2 ⟨ht, by simp; omega⟩⟩
  · rintro ⟨t, ht⟩
    obtain ⟨h1, h2⟩ := List.mem_filter.1 ht
    simp at h2
    exact ⟨_, List.mem_map.2 ⟨t, h1, rfl⟩, h2.1, by dsimp only; omega⟩
end Go.Proofs.Ytfmbbfidjcgeiaa

namespace Go.Proofs.Ytfmbbfidjcgeiaa
open Go.RowKit Go.Lib

theorem valueL_drop {l : List Stp} {k : Nat} {s : Stp} {d : Int} (h : l[k]? = some s) : valueL (l.drop k) d = if s.lo ≤ d ∧ d < s.hi then s.v else valueL (l.drop (k + 1)) d := by
  obtain ⟨h1, rfl⟩ := List.getElem?_eq_some_iff.1 h
  rw [List.drop_eq_getElem_cons h1]
  rfl
set_option maxHeartbeats 4000000 in
set_option maxRecDepth 100000 in
theorem value18_any (v : Value) (l : List Stp) (d : Int) (w : World) (hv : Sl stpE w free v l) :
    Calls Try.prog 20 #[v, .int .i64 d] w fun e w' => e = .returned (aggG (valueL l d)) ∧ Below w.heap.size w w' := by
  obtain ⟨a, c, rfl⟩ := hv.shape
  have h63 := hv.1
  obtain ⟨n, hn⟩ : ∃ n, n = l.length := ⟨_, rfl⟩
  have HV := Lib.hid hv
  have HN := Lib.hid hn
  obtain ⟨res, hres⟩ : ∃ r, r = valueL l d := ⟨_, rfl⟩
  have HRES := Lib.hid hres
  rw [← hres]
  rw [← hn] at HV h63 ⊢
  have hB0 := below_alloc w (.cells #[.int .i64 0, .int .i64 0, .string ⟨#[]⟩] 41)
  have hr0 : BoxV (w.alloc (.cells #[.int .i64 0, .int .i64 0, .string ⟨#[]⟩] 41)) w.heap.size gnull := World.alloc_heap_new _ _
  obtain ⟨w1, hw1⟩ : ∃ w1, w1 = w.alloc (.cells #[.int .i64 0, .int .i64 0, .string ⟨#[]⟩] 41) := ⟨_, rfl⟩
  rw [← hw1] at hB0 hr0
  have HW1 := Lib.hid hw1
  have HB1 := Lib.hid hB0
  have HX1 := Lib.hid hr0
  clear hv hn hw1 hB0 hr0 hres
  go_enter Try.func20, Try.ntmps20
  go_wp2_with fail
  rw [← HW1.out]
  go_loopw [9] (fun i wr => ∃ k : Nat, k ≤ n ∧ i = .int .i64 (k : Int) ∧ Hid (res = valueL (l.drop k) d) ∧ Hid (Below w.heap.size w wr) ∧ Hid (BoxV wr w.heap.size gnull)) (fun i _ => n - (intOf i).toNat)
  case atStart => exact ⟨0, Nat.zero_le _, rfl, HRES, HB1, HX1⟩
  case round =>
    obtain ⟨k, hk, rfl, HR, HB, HX⟩ := hrel
    obtain ⟨wo, rfl⟩ : ∃ wo : World, wo = wr := ⟨_, rfl⟩
    by_cases hlt : k < n
    · obtain ⟨s, hs⟩ := lget_some l k (by rw [← HN.out]; exact hlt)
      obtain ⟨b1, o1, rfl, p0, p1, p2, p3, p4⟩ := stp_at2 (HV.out.below HB.out) hs
      have HD := Lib.hid (valueL_drop (d := d) hs)
      obtain ⟨slo, shi, sk, sn, ss⟩ := s
      dsimp only at p0 p1 p2 p3 p4 HD
      have hg := World.alloc_heap_new wo (.cells #[.int .i64 slo, .int .i64 shi, .int .i64 sk, .int .i64 sn, .string ss] 53)
      obtain ⟨d0, d1, d2, d3, d4⟩ := box5 hg
      have hb := below_alloc wo (.cells #[.int .i64 slo, .int .i64 shi, .int .i64 sk, .int .i64 sn, .string ss] 53)
      have HB2 := Lib.hid (below_keep HB.out hb)
      have HX2 := Lib.hid (HX.out.below hb)
      clear hs hg hb HB1 HX1 HW1
      by_cases hq : slo ≤ d ∧ d < shi
      · have HR2 : Hid (res = ⟨sk, sn, ss⟩) := Lib.hid (by rw [HR.out, HD.out, if_pos hq])
        obtain ⟨hq1, hq2⟩ := hq
        obtain ⟨⟨r0, r1, r2⟩, f0, f1, f2⟩ := HX2.out.cells
        have hzw := HX2.out.lt
        clear HR HD HX HB
        go_wp2_with fail
        refine bodyPost_ret (v := aggG ⟨sk, sn, ss⟩) (by simp [aggG, results, Try.results20, go_sem, r0, r1, r2]) rfl ⟨by rw [HR2.out], ?_⟩
        exact below_box3 HB2.out (Nat.le_refl _)
      · have HR2 : Hid (res = valueL (l.drop (k + 1)) d) := Lib.hid (by rw [HR.out, HD.out, if_neg hq])
        clear HR HD HX HB
        by_cases hq1 : slo ≤ d
        · have hq2 : ¬ d < shi := fun h => hq ⟨hq1, h⟩
          clear hq
          go_wp2_with fail
          go_roundw
          case rel => exact ⟨k + 1, by omega, by go_num, HR2, HB2, HX2⟩
          case measure => simp [intOf]; omega
        · clear hq
          go_wp2_with fail
          go_roundw
          case rel => exact ⟨k + 1, by omega, by go_num, HR2, HB2, HX2⟩
          case measure => simp [intOf]; omega
    · have HR2 : Hid (res = ⟨-1, 0, ⟨#[]⟩⟩) := Lib.hid (by rw [HR.out, List.drop_eq_nil_of_le (by rw [← HN.out]; omega)]; rfl)
      obtain ⟨⟨r0, r1, r2⟩, f0, f1, f2⟩ := HX.out.cells
      have hzw := HX.out.lt
      clear HR HX HB1 HX1 HW1
      go_wp2_with fail
      refine bodyPost_ret (v := aggG ⟨-1, 0, ⟨#[]⟩⟩) (by simp [aggG, results, Try.results20, go_sem, r0, r1, r2]) rfl ⟨by rw [HR2.out], ?_⟩
      exact below_box3 HB.out (Nat.le_refl _)
set_option maxHeartbeats 1000000 in
theorem column_any (w : World) : Calls Try.prog 21 #[] w (RetOwn expE w [colX]) := by
  go_enter Try.func21, Try.ntmps21
  go_wp2_with fail
  go_ret
  exact ⟨_, rfl, own_lit (E := expE) (Els.one rfl) rfl (by decide), below_alloc _ _⟩
set_option maxHeartbeats 4000000 in
set_option maxRecDepth 100000 in
theorem total_any (v : Value) (l : List Int) (w : World) (hv : Sl i64E w free v l) (hq : Num64 l) (hl : l.length ≤ 1000) :
    Calls Try.prog 25 #[v] w (PairRet w (totR l)) := by
  obtain ⟨a, c, rfl⟩ := hv.shape
  have h63 := hv.1
  obtain ⟨n, hn⟩ : ∃ n, n = l.length := ⟨_, rfl⟩
  have HV := Lib.hid hv
  have HN := Lib.hid hn
  have HTR := Lib.hid (totR_sum l)
  have HNUM : Hid (∀ x ∈ l.map gint, In64 x.n) := Lib.hid fun x hx => by
    obtain ⟨y, hy, rfl⟩ := List.mem_map.1 hx
    exact hq y hy
  rw [← hn] at HV h63 hl HTR ⊢
  clear hv hn hq
  go_enter Try.func25, Try.ntmps25
  go_wp2_with fail
  go_loopw [10, 4] (fun i o wr => ∃ k : Nat, k ≤ n ∧ i = .int .i64 (k : Int) ∧ Own valE wr w.heap.size o ((l.take k).map gint) ∧ Hid (Below w.heap.size w wr)) (fun i _ _ => n - (intOf i).toNat)
  case atStart => exact ⟨0, Nat.zero_le _, rfl, Own.nil _ _ _, Lib.hid (.refl _ _)⟩
  case round =>
    obtain ⟨k, hk, rfl, hO, HB⟩ := hrel
    obtain ⟨wo, rfl⟩ : ∃ wo : World, wo = wr := ⟨_, rfl⟩
    by_cases hlt : k < n
    · obtain ⟨x, hx⟩ := lget_some l k (by rw [← HN.out]; exact hlt)
      obtain ⟨b, o, rfl, p0⟩ := i64_at (HV.out.below HB.out) hx
      have HT : Hid ((l.take (k + 1)).map gint = (l.take k).map gint ++ [gint x]) := Lib.hid (by rw [take_get hx, List.map_append]; rfl)
      obtain ⟨acc, hacc⟩ : ∃ acc, acc = (l.take k).map gint := ⟨_, rfl⟩
      have hal : acc.length ≤ 1000 := by rw [hacc, List.length_map, List.length_take]; omega
      rw [← hacc] at hO HT
      obtain ⟨av, cv, rfl⟩ := hO.shape
      have HO := Lib.hid hO
      clear hx hacc hO
      go_wp2_with (at_builtin; refine wpList_push rfl (.tmp 14) (.tmp 17) 46 rfl valE Try.underlying46 w.heap.size (.slice av acc.length cv) acc rfl HO.out [gint x] #[.int .i64 1, .int .i64 x, .string ⟨#[]⟩] (Els.one rfl) 1 1 rfl rfl (by decide) (by unfold maxLen; omega) (by show _ * 32 ≤ _; omega) HB.out.size ?_; intro g' cap' w5' hP hPa)
      go_roundw
      case rel => exact ⟨k + 1, by omega, by go_num, by rw [HT.out]; exact hP.own' (by simp), Lib.hid (HB.out.trans hP.below)⟩
      case measure => simp [intOf]; omega
    · have hkk : l.take k = l := List.take_of_length_le (by rw [← HN.out]; omega)
      rw [hkk] at hO
      have HAG := Lib.hid (raggr_any _ 2 _ wo hO.sl HNUM.out (by rw [List.length_map, ← HN.out]; omega))
      obtain ⟨av, cv, rfl⟩ := hO.shape
      obtain ⟨mm, hmm⟩ : ∃ mm, mm = (l.map gint).length := ⟨_, rfl⟩
      rw [← hmm] at HAG ⊢
      generalize aggP 2 (l.map gint) = av at HAG HTR
      obtain ⟨vk, vn, vs⟩ := av
      unfold aggG at HAG
      dsimp only at HAG HTR
      clear hO hkk hmm
      go_wp2_with fail
      refine HAG.out.mono ?_
      rintro _ w2 ⟨rfl, hb2⟩
      have HB2 := Lib.hid (below_alloc_keep (o := .cells #[.int .i64 vk, .int .i64 vn, .string vs] 41) (below_keep HB.out hb2))
      clear hb2 HAG
      by_cases h1 : vk = 1
      · subst h1
        go_wp2_with fail
        go_ret2
        exact pair_ret (by rw [HTR.out]; rfl) HB2.out
      · have h1' : (vk == 1) = false := by simpa using h1
        by_cases h0 : n = 0
        · subst h0
          go_wp2_with fail
          go_ret2
          exact pair_ret (by rw [HTR.out, h1']; rfl) HB2.out
        · go_wp2_with fail
          go_ret2
          exact pair_ret (by rw [HTR.out, h1']; simp [h0]) HB2.out
end Go.Proofs.Ytfmbbfidjcgeiaa

namespace Go.Proofs.Ytfmbbfidjcgeiaa
open Go.RowKit Go.Lib

theorem Tiles.end_unique : ∀ {l : List Stp} {a b c : Int}, Tiles l a b → Tiles l a c → b = c
  | [], _, _, _, h, k => by cases h; cases k; rfl
  | _ :: _, _, _, _, ⟨_, _, h⟩, ⟨_, _, k⟩ => Tiles.end_unique h k
theorem Tiles.snoc {l : List Stp} {a : Int} {k : Nat} {s : Stp} (h : Tiles (l.take k) a s.lo) (hs : l[k]? = some s) (hlt : s.lo < s.hi) : Tiles (l.take (k + 1)) a s.hi := by
  rw [take_get hs]
  exact h.append ⟨rfl, hlt, rfl⟩
theorem tups_few64 (l : List U5) (m : Nat) : ∀ t ∈ tupsOf l m, ∀ x ∈ t.vals, In64 x.n := by
  intro t ht
  obtain ⟨x, _, rfl⟩ := List.mem_map.1 ht
  intro g hg
  have hg : g ∈ [gval0 x.x2, gval1 x.x3] := hg
  simp only [List.mem_cons, List.not_mem_nil, or_false] at hg
  rcases hg with rfl | rfl
  · unfold gval0; split
    · exact in64_gnull
    · unfold In64 gint; dsimp only; omega
  · unfold gval1; split
    · exact in64_gnull
    · unfold In64; dsimp only; omega
set_option maxHeartbeats 8000000 in
set_option maxRecDepth 100000 in
theorem total_walk (v : Value) (l0 : List U5) (x1 : Nat) (w : World) (hv : Sl u5E w free v l0) (hok : ∀ x ∈ l0, x.ok) (h1 : x1 < 65536) :
    Calls Try.prog 6 #[v, .int .u16 (x1 : Int)] w (QuietW w) := by
  have HTU := Lib.hid (tuples_any v l0 12 (by omega) w hv hok)
  have hday := tupsOf_days l0 12
  have h64 := tups_few64 l0 12
  have hll := tupsOf_length l0 12
  generalize tupsOf l0 12 = l at HTU hday h64 hll
  obtain ⟨m, hm⟩ : ∃ m, m = l.length := ⟨_, rfl⟩
  have HM := Lib.hid hm
  have HDY := Lib.hid hday
  have H64 := Lib.hid h64
  obtain ⟨d, hd⟩ : ∃ d : Nat, d = x1 % 80 := ⟨_, rfl⟩
  have hd80 : d < 80 := by omega
  have e1 : (x1 : Int) % 80 = (d : Int) := by omega
  rw [← hm] at hll
  clear hv hok hday h64 hm hd
  go_enter Try.func6, Try.ntmps6
  go_wp2_with fail
  refine HTU.out.mono ?_
  rintro _ w1 ⟨v1, rfl, hO1, hb1⟩
  obtain ⟨a1, c1, rfl⟩ := hO1.shape
  have HL1 := Lib.hid hO1.sl
  have HB1 := Lib.hid hb1
  rw [← HM.out] at HL1 ⊢
  clear hO1 hb1 HTU
  go_wp2_with fail
  go_loopw [21, 7] (fun i c wr => ∃ k : Nat, k ≤ m ∧ i = .int .i64 (k : Int) ∧ c = .int .i64 ((begun (l.take k) (d : Int)).length : Int) ∧ Hid (Below w1.heap.size w1 wr)) (fun i _ _ => m - (intOf i).toNat)
  case atStart => exact ⟨0, Nat.zero_le _, rfl, rfl, Lib.hid (.refl _ _)⟩
  case round =>
    obtain ⟨k, hk, rfl, rfl, HB⟩ := hrel
    obtain ⟨wo, rfl⟩ : ∃ wo : World, wo = wr := ⟨_, rfl⟩
    by_cases hlt : k < m
    · obtain ⟨t, ht⟩ := lget_some l k (by rw [← HM.out]; exact hlt)
      obtain ⟨b, o, a2, n2, e2, m2, rfl, hvv, hll2, p0, p1, p2, p3⟩ := tups_at HL1.out ht
      replace p0 := cell_keep HB.out p0
      replace p1 := cell_keep HB.out p1
      replace p2 := cell_keep HB.out p2
      replace p3 := cell_keep HB.out p3
      have HT := Lib.hid (begun_snoc (d := (d : Int)) ht)
      have hcl : (begun (l.take k) (d : Int)).length ≤ 12 := by
        refine Nat.le_trans (List.length_filter_le _ _) ?_
        rw [List.length_take]; omega
      obtain ⟨c, hc⟩ : ∃ c, c = (begun (l.take k) (d : Int)).length := ⟨_, rfl⟩
      rw [← hc] at HT hcl ⊢
      obtain ⟨xv, xlo, xhi, xl⟩ := t
      dsimp only at p0 p1 p2 p3 HT
      have hg := World.alloc_heap_new wo (.cells #[.slice a2 xv.length n2, .int .i64 xlo, .int .i64 xhi, .slice e2 xl.length m2] 51)
      obtain ⟨⟨d0, d1, d2, d3⟩, f0, f1, f2, f3⟩ := box_four hg
      have HB2 := Lib.hid (below_keep HB.out (below_alloc wo (.cells #[.slice a2 xv.length n2, .int .i64 xlo, .int .i64 xhi, .slice e2 xl.length m2] 51)))
      clear ht hvv hll2 hc hg HB
      by_cases hq : xlo ≤ (d : Int)
      · go_wp2_with fail
        go_roundw
        case rel => exact ⟨k + 1, by omega, by go_num, by rw [HT.out, if_pos hq]; go_num, HB2⟩
        case measure => simp [intOf]; omega
      · go_wp2_with fail
        go_roundw
        case rel => exact ⟨k + 1, by omega, by go_num, by rw [HT.out, if_neg hq]; rfl, HB2⟩
        case measure => simp [intOf]; omega
    · have hkk : l.take k = l := List.take_of_length_le (by rw [← HM.out]; omega)
      rw [hkk]
      have HB2 := Lib.hid (below_keep HB1.out HB.out)
      have HMV := Lib.hid (moving_any _ (.slice none 0 0) l [] 0 1000000 1 wo (HL1.out.below HB.out) (Sl.nil _ _ _ _ _) (by rw [← HM.out]; omega) (by decide) (by simp) H64.out)
      have hti := (total_steps l).tiles
      have hup := fun (j : Nat) (s t : Stp) => total_up HDY.out (k := j) (s := s) (t := t)
      have hval := total_value HDY.out (show 0 ≤ (d : Int) by omega) (show (d : Int) < 1000000 by omega)
      have hLl : (movL l [] 0 1000000 1).length ≤ 100 := by
        refine Nat.le_trans (stepsTo_len _ _ _) ?_
        have h1 := mvPts_len (extL (clampD 1000000) l)
        have h2 := extL_len (clampD 1000000) l
        rw [← HM.out] at h2
        omega
      generalize movL l [] 0 1000000 1 = L at HMV hti hup hval hLl
      have hcl : (begun l (d : Int)).length ≤ 12 := by
        refine Nat.le_trans (List.length_filter_le _ _) ?_
        rw [← HM.out]; exact hll
      generalize (begun l (d : Int)).length = c at hval hcl ⊢
      have HTI := Lib.hid hti
      have HUP := Lib.hid hup
      have HVL := Lib.hid hval
      clear hkk HB hti hup hval HL1 HB1
      go_wp2_with fail
      refine HMV.out.mono ?_
      rintro _ w2 ⟨v2, rfl, hO2, hb2⟩
      obtain ⟨a2, c2, rfl⟩ := hO2.shape
      obtain ⟨q, hq⟩ : ∃ q, q = L.length := ⟨_, rfl⟩
      have HS2 := Lib.hid hO2.sl
      have HB3 := Lib.hid (below_keep HB2.out hb2)
      have HQ := Lib.hid hq
      rw [← hq] at HS2 hLl ⊢
      clear hO2 hb2 HMV HB2 hq
      go_wp2_with fail
      go_loopw [37, 11] (fun i o wr => ∃ (k : Nat) (z : Int), k ≤ q ∧ i = .int .i64 (k : Int) ∧ o = .int .i64 z ∧ Hid (Tiles (L.take k) 0 z) ∧ Hid (Below w2.heap.size w2 wr)) (fun i _ _ => q - (intOf i).toNat)
      case atStart => exact ⟨0, 0, Nat.zero_le _, rfl, rfl, Lib.hid rfl, Lib.hid (.refl _ _)⟩
      case round =>
        obtain ⟨k2, z, hk2, rfl, rfl, HZ, HB⟩ := hrel
        obtain ⟨wp, rfl⟩ : ∃ wo : World, wo = wr := ⟨_, rfl⟩
        by_cases hlt2 : k2 < q
        · obtain ⟨s, hs⟩ := lget_some L k2 (by rw [← HQ.out]; exact hlt2)
          obtain rfl : s.lo = z := (tiles_at HTI.out hs).end_unique HZ.out
          have hsl := tiles_lt HTI.out s (List.mem_of_getElem? hs)
          have HTS := Lib.hid (HZ.out.snoc hs hsl.2.1)
          obtain ⟨b, o, rfl, p0, p1, p2, p3, p4⟩ := stp_at2 (HS2.out.below HB.out) hs
          by_cases hk0 : k2 = 0
          · obtain ⟨slo, shi, sk, sn, ss⟩ := s
            dsimp only at p0 p1 p2 p3 p4 hsl HTS HZ
            have hg := World.alloc_heap_new wp (.cells #[.int .i64 slo, .int .i64 shi, .int .i64 sk, .int .i64 sn, .string ss] 53)
            obtain ⟨d0, d1, d2, d3, d4⟩ := box5 hg
            have HB4 := Lib.hid (below_keep HB.out (below_alloc wp (.cells #[.int .i64 slo, .int .i64 shi, .int .i64 sk, .int .i64 sn, .string ss] 53)))
            have g1 : decide (shi ≤ slo) = false := decide_eq_false (by omega)
            have g2 : decide ((0 : Int) < (k2 : Int)) = false := decide_eq_false (by omega)
            have g1' : ¬ shi ≤ slo := by omega
            have g2' : ¬ (0 : Int) < (k2 : Int) := by omega
            have g3 : decide (0 < k2) = false := decide_eq_false (by omega)
            have g4 : ¬ 0 < k2 := by omega
            clear hs hg HB hsl hk0
            go_upto_region 15 with fail
            go_quiet (fail)
            go_wp2_with fail
            go_roundw
            case rel => exact ⟨k2 + 1, shi, by omega, by go_num, rfl, HTS, Lib.hid (by first | exact HB4.out | exact below_drewN HB4.out _ | exact HB4.out.drew)⟩
            case measure => simp [intOf]; omega
          · obtain ⟨j, hj⟩ : ∃ j, k2 = j + 1 := ⟨k2 - 1, by omega⟩
            obtain ⟨s0, hs0⟩ := lget_some L j (by rw [← HQ.out]; omega)
            have hup := HUP.out j s0 s hs0 (by rw [← hj]; exact hs)
            obtain ⟨b', o', e', _, _, _, r3, _⟩ := stp_at2 (HS2.out.below HB.out) hs0
            cases e'
            obtain ⟨slo, shi, sk, sn, ss⟩ := s
            obtain ⟨z0, z1, zk, zn, zs⟩ := s0
            dsimp only at p0 p1 p2 p3 p4 hsl HTS HZ hup r3
            have hg := World.alloc_heap_new wp (.cells #[.int .i64 slo, .int .i64 shi, .int .i64 sk, .int .i64 sn, .string ss] 53)
            obtain ⟨d0, d1, d2, d3, d4⟩ := box5 hg
            have r3' := cell_alloc (o := .cells #[.int .i64 slo, .int .i64 shi, .int .i64 sk, .int .i64 sn, .string ss] 53) r3
            have HB4 := Lib.hid (below_keep HB.out (below_alloc wp (.cells #[.int .i64 slo, .int .i64 shi, .int .i64 sk, .int .i64 sn, .string ss] 53)))
            have g1 : decide (shi ≤ slo) = false := decide_eq_false (by omega)
            have g1' : ¬ shi ≤ slo := by omega
            have g2 : decide ((0 : Int) < (k2 : Int)) = true := decide_eq_true (by omega)
            have g3 : decide (0 < k2) = true := decide_eq_true (by omega)
            have g2' : (0 : Int) < (k2 : Int) := by omega
            have g3' : 0 < k2 := by omega
            have g5 : decide (sn ≤ zn) = false := decide_eq_false (by omega)
            have g5' : ¬ sn ≤ zn := by omega
            have hw1 : IntKind.i64.wrap ((k2 : Int) - 1) = (j : Int) := by rw [IntWalk.i64_in _ (by omega)]; omega
            have hw2 : (k2 : Int) - 1 = (j : Int) := by omega
            have hjI : (j : Int) < (q : Int) := by omega
            have hjq : j < q := by omega
            clear hs hs0 hg HB hsl hk0 hup hj
            go_upto_region 15 with fail
            go_quiet (fail)
            go_wp2_with fail
            go_roundw
            case rel => exact ⟨k2 + 1, shi, by omega, by go_num, rfl, HTS, Lib.hid (by first | exact HB4.out | exact below_drewN HB4.out _ | exact HB4.out.drew)⟩
            case measure => simp [intOf]; omega
        · have hkk : L.take k2 = L := List.take_of_length_le (by rw [← HQ.out]; omega)
          have hz : z = 1000000 := (HZ.out : Tiles (L.take k2) 0 z).end_unique (by rw [hkk]; exact HTI.out)
          subst hz
          have HAW := Lib.hid (awake18_any wp)
          have HB5 := Lib.hid (below_keep HB3.out HB.out)
          have HVA := fun W (h : Below wp.heap.size wp W) => Lib.hid (value18_any _ L (d : Int) W ((HS2.out.below HB.out).below h))
          rw [HVL.out] at HVA
          unfold aggG gint at HVA
          dsimp only at HVA
          have HIV := fun W => Lib.hid (intValue_any (c : Int) W)
          have heq : ∀ W, (binOp .eql 41 (.agg #[.int .i64 1, .int .i64 (c : Int), .string ⟨#[]⟩]) (.agg #[.int .i64 1, .int .i64 (c : Int), .string ⟨#[]⟩])).run Try.prog W = .ok (.bool true) W := fun W => (val_eql (gint (c : Int)) (gint (c : Int)) W).trans (by rw [show sameG (gint (c : Int)) (gint (c : Int)) = true by simp [sameG]])
          have hgd := val_guard
          clear hkk HZ HB HS2 HTI HUP HVL HDY H64
          go_wp2_with fail
          refine HAW.out.mono ?_
          rintro _ w6 ⟨rfl, hb6⟩
          have HVA6 := HVA w6 hb6
          have HB6 := Lib.hid (below_keep HB5.out hb6)
          clear hb6 HVA
          go_wp2_with fail
          refine HVA6.out.mono ?_
          rintro _ w7 ⟨rfl, hb7⟩
          have HB7 := Lib.hid (below_keep HB6.out hb7)
          clear hb7
          go_wp2_with fail
          refine (HIV _).out.mono ?_
          rintro _ w8 ⟨rfl, hb8⟩
          have HB8 := Lib.hid (below_keep HB7.out hb8)
          clear hb8
          go_wp2_with fail
          go_ret
          exact ⟨rfl, HB8.out⟩
end Go.Proofs.Ytfmbbfidjcgeiaa

namespace Go.Proofs.Ytfmbbfidjcgeiaa
open Go.RowKit Go.Lib

set_option maxHeartbeats 8000000 in
set_option maxRecDepth 100000 in
theorem wider_walk (v : Value) (l0 : List U5) (x1 x2 x3 : Nat) (w : World) (hv : Sl u5E w free v l0) (hok : ∀ x ∈ l0, x.ok) (h1 : x1 < 256) (h2 : x2 < 256) (h3 : x3 < 65536) :
    Calls Try.prog 5 #[v, .int .u8 (x1 : Int), .int .u8 (x2 : Int), .int .u16 (x3 : Int)] w (QuietW w) := by
  have HTU := Lib.hid (tuples_any v l0 12 (by omega) w hv hok)
  have HAW := fun W => Lib.hid (awake18_any W)
  have HCL := fun W => Lib.hid (column_any W)
  obtain ⟨d, hd⟩ : ∃ d : Nat, d = x3 % 80 := ⟨_, rfl⟩
  have hd80 : d < 80 := by omega
  have e1 : (x3 : Int) % 80 = (d : Int) := by omega
  have hDE : (x1 : Int) ≤ (x1 : Int) + (x2 : Int) := by omega
  have hWC := wide_c l0 12 hDE (show 0 ≤ (d : Int) by omega) (show (d : Int) < 1000000 by omega)
  have hday := tupsOf_days l0 12
  have h64 := tups_few64 l0 12
  have hll := tupsOf_length l0 12
  generalize tupsOf l0 12 = l at HTU hday h64 hll hWC
  have hna := wide_n hday (x1 : Int) (show 0 ≤ (d : Int) by omega) (show (d : Int) < 1000000 by omega)
  have hnb := wide_n hday ((x1 : Int) + (x2 : Int)) (show 0 ≤ (d : Int) by omega) (show (d : Int) < 1000000 by omega)
  have hab := win_len (d := (d : Int)) (clampD_le hDE) l
  generalize (winL (clampD (x1 : Int)) l (d : Int)).length = na at hna hab
  generalize (winL (clampD ((x1 : Int) + (x2 : Int))) l (d : Int)).length = nb at hnb hab
  have habI : (na : Int) ≤ (nb : Int) := by omega
  obtain ⟨m, hm⟩ : ∃ m, m = l.length := ⟨_, rfl⟩
  have HM := Lib.hid hm
  have H64 := Lib.hid h64
  rw [← hm] at hll
  clear hv hok hday h64 hm hd hDE
  go_enter Try.func5, Try.ntmps5
  go_wp2_with fail
  refine HTU.out.mono ?_
  rintro _ w1 ⟨v1, rfl, hO1, hb1⟩
  obtain ⟨a1, c1, rfl⟩ := hO1.shape
  have HB1 := Lib.hid hb1
  have HMV : ∀ (W : World) (h : Below w1.heap.size w1 W) (ve : Value) (e : List GExp) (dd kd : Int) (L : List Stp) (hL : L = movL l e 0 dd kd) (hve : Sl expE W free ve e) (he : e.length ≤ 1) (hc : ∀ x ∈ e, In64 x.c.n), Hid (Calls Try.prog 17 #[.slice a1 m c1, ve, .int .i64 0, .int .i64 dd, .int .i64 kd] W (RetOwn stpE W L)) := fun W h ve e dd kd L hL hve he hc => by
    have := moving_any _ ve l e 0 dd kd W (hO1.sl.below h) hve (by rw [← HM.out]; omega) (by omega) hc H64.out
    rw [← HM.out, ← hL] at this
    exact Lib.hid this
  have HMV' := Lib.hid HMV
  rw [← HM.out]
  have HVV := fun (W : World) (L : List Stp) (vs : Value) (h : Sl stpE W free vs L) (g : GVal) (hg : valueL L (d : Int) = g) => Lib.hid ((value18_any vs L (d : Int) W h).mono (fun _ _ h => by rw [hg] at h; exact h))
  have HVV' := Lib.hid HVV
  obtain ⟨L1, hL1⟩ : ∃ L, L = movL l [] 0 (x1 : Int) 1 := ⟨_, rfl⟩
  obtain ⟨L2, hL2⟩ : ∃ L, L = movL l [] 0 ((x1 : Int) + (x2 : Int)) 1 := ⟨_, rfl⟩
  obtain ⟨L3, hL3⟩ : ∃ L, L = movL l [colX] 0 (x1 : Int) 4 := ⟨_, rfl⟩
  obtain ⟨L4, hL4⟩ : ∃ L, L = movL l [colX] 0 ((x1 : Int) + (x2 : Int)) 4 := ⟨_, rfl⟩
  rw [← hL1] at hna
  rw [← hL2] at hnb
  rw [← hL3, ← hL4] at hWC
  have HL1 := Lib.hid hL1
  have HL2 := Lib.hid hL2
  have HL3 := Lib.hid hL3
  have HL4 := Lib.hid hL4
  have HNA := Lib.hid hna
  have HNB := Lib.hid hnb
  obtain ⟨gp, hgp⟩ : ∃ g, g = valueL L3 (d : Int) := ⟨_, rfl⟩
  obtain ⟨gq, hgq⟩ : ∃ g, g = valueL L4 (d : Int) := ⟨_, rfl⟩
  rw [← hgp, ← hgq] at hWC
  have HGP := Lib.hid hgp.symm
  have HGQ := Lib.hid hgq.symm
  have HCM := fun W => Lib.hid (cmpG_any gp gq W)
  generalize cmpG gp gq = r at HCM hWC
  obtain ⟨pk, pn, ps⟩ := gp
  obtain ⟨qk, qn, qs⟩ := gq
  have HMV1 := HMV w1 (.refl _ _) (.slice none 0 0) [] (x1 : Int) 1 L1 hL1 (Sl.nil _ _ _ _ _) (by decide) (by simp)
  clear hO1 hb1 HTU HMV HVV hna hnb hgp hgq hL1 hL2 hL3 hL4
  go_upto_region 3 with fail
  clear e1
  go_wp2_with fail
  refine HMV1.out.mono ?_
  rintro _ w2 ⟨v2, rfl, hO2, hb2⟩
  have HV2 := HVV'.out w2 _ _ hO2.sl _ HNA.out
  unfold aggG gint at HV2
  dsimp only at HV2
  have HB2 := Lib.hid hb2
  obtain ⟨a2, c2, rfl⟩ := hO2.shape
  clear hO2 hb2 HMV1
  go_wp2_with fail
  refine HV2.out.mono ?_
  rintro _ w3 ⟨rfl, hb3⟩
  have HB3 := Lib.hid (below_keep HB2.out hb3)
  have HMV3 := HMV'.out w3 HB3.out (.slice none 0 0) [] ((x1 : Int) + (x2 : Int)) 1 L2 HL2.out (Sl.nil _ _ _ _ _) (by decide) (by simp)
  clear hb3 HV2 HB2
  go_wp2_with fail
  refine HMV3.out.mono ?_
  rintro _ w4 ⟨v4, rfl, hO4, hb4⟩
  have HV4 := HVV'.out w4 _ _ hO4.sl _ HNB.out
  unfold aggG gint at HV4
  dsimp only at HV4
  have HB4 := Lib.hid (below_keep HB3.out hb4)
  obtain ⟨a4, c4, rfl⟩ := hO4.shape
  clear hO4 hb4 HMV3 HB3
  go_wp2_with fail
  refine HV4.out.mono ?_
  rintro _ w5 ⟨rfl, hb5⟩
  have HB5 := Lib.hid (below_keep HB4.out hb5)
  obtain ⟨wb, hwb⟩ : ∃ wb, wb = (w5.alloc (.cells #[.int .i64 1, .int .i64 (na : Int), .string ⟨#[]⟩] 41)).alloc (.cells #[.int .i64 1, .int .i64 (nb : Int), .string ⟨#[]⟩] 41) := ⟨_, rfl⟩
  have HX5 : Hid (BoxV wb w5.heap.size ⟨1, na, ⟨#[]⟩⟩) := Lib.hid (by rw [hwb]; exact heap_alloc_old' _ _ _)
  have HY5 : Hid (BoxV wb (w5.heap.size + 1) ⟨1, nb, ⟨#[]⟩⟩) := Lib.hid (by rw [hwb]; exact heap_alloc_new' _ _ _)
  have HBb : Hid (Below w1.heap.size w1 wb) := Lib.hid (by rw [hwb]; exact below_keep HB5.out (below_alloc_two _ _ _))
  have HWB := Lib.hid hwb
  clear hb5 HV4 HB4 hwb HB5
  go_wp2_with fail
  rw [← HWB.out]
  refine (HCL _).out.mono ?_
  rintro _ w6 ⟨v6, rfl, hO6, hb6⟩
  have HB6 := Lib.hid (below_keep HBb.out hb6)
  have HX6 := Lib.hid (HX5.out.below hb6)
  have HY6 := Lib.hid (HY5.out.below hb6)
  have HMV6 := HMV'.out w6 HB6.out v6 [colX] (x1 : Int) 4 L3 HL3.out hO6.sl (by decide) (by simp [colX]; exact in64_gnull)
  clear hb6 HBb HX5 HY5 HWB hO6
  go_wp2_with fail
  refine HMV6.out.mono ?_
  rintro _ w7 ⟨v7, rfl, hO7, hb7⟩
  have HV7 := HVV'.out w7 _ _ hO7.sl _ HGP.out
  unfold aggG at HV7
  dsimp only at HV7
  have HB7 := Lib.hid (below_keep HB6.out hb7)
  have HX7 := Lib.hid (HX6.out.below hb7)
  have HY7 := Lib.hid (HY6.out.below hb7)
  obtain ⟨a7, c7, rfl⟩ := hO7.shape
  clear hO7 hb7 HMV6 HB6 HX6 HY6
  go_wp2_with fail
  refine HV7.out.mono ?_
  rintro _ w8 ⟨rfl, hb8⟩
  have HB8 := Lib.hid (below_keep HB7.out hb8)
  have HX8 := Lib.hid (HX7.out.below hb8)
  have HY8 := Lib.hid (HY7.out.below hb8)
  clear hb8 HV7 HB7 HX7 HY7
  go_wp2_with fail
  refine (HCL _).out.mono ?_
  rintro _ w9 ⟨v9, rfl, hO9, hb9⟩
  have HB9 := Lib.hid (below_keep HB8.out hb9)
  have HX9 := Lib.hid (HX8.out.below hb9)
  have HY9 := Lib.hid (HY8.out.below hb9)
  have HMV9 := HMV'.out w9 HB9.out v9 [colX] ((x1 : Int) + (x2 : Int)) 4 L4 HL4.out hO9.sl (by decide) (by simp [colX]; exact in64_gnull)
  clear hb9 HB8 HX8 HY8 hO9
  go_wp2_with fail
  refine HMV9.out.mono ?_
  rintro _ w10 ⟨v10, rfl, hO10, hb10⟩
  have HV10 := HVV'.out w10 _ _ hO10.sl _ HGQ.out
  unfold aggG at HV10
  dsimp only at HV10
  have HB10 := Lib.hid (below_keep HB9.out hb10)
  have HX10 := Lib.hid (HX9.out.below hb10)
  have HY10 := Lib.hid (HY9.out.below hb10)
  obtain ⟨a10, c10, rfl⟩ := hO10.shape
  clear hO10 hb10 HMV9 HB9 HX9 HY9
  go_wp2_with fail
  refine HV10.out.mono ?_
  rintro _ w11 ⟨rfl, hb11⟩
  obtain ⟨wc, hwc⟩ : ∃ wc, wc = (w11.alloc (.cells #[.int .i64 pk, .int .i64 pn, .string ps] 41)).alloc (.cells #[.int .i64 qk, .int .i64 qn, .string qs] 41) := ⟨_, rfl⟩
  have hbc : Below w11.heap.size w11 wc := by rw [hwc]; exact below_alloc_two _ _ _
  have HP11 : Hid (BoxV wc w11.heap.size ⟨pk, pn, ps⟩) := Lib.hid (by rw [hwc]; exact heap_alloc_old' _ _ _)
  have HQ11 : Hid (BoxV wc (w11.heap.size + 1) ⟨qk, qn, qs⟩) := Lib.hid (by rw [hwc]; exact heap_alloc_new' _ _ _)
  have HB11 := Lib.hid (below_keep (below_keep HB10.out hb11) hbc)
  have HX11 := Lib.hid ((HX10.out.below hb11).below hbc)
  have HY11 := Lib.hid ((HY10.out.below hb11).below hbc)
  have HWC := Lib.hid hwc
  clear hb11 hbc hwc HV10 HB10 HX10 HY10
  go_wp2_with fail
  rw [← HWC.out]
  refine (HAW _).out.mono ?_
  rintro _ w12 ⟨rfl, hb12⟩
  have HB12 := Lib.hid (below_keep HB11.out hb12)
  obtain ⟨⟨x0, x1', x2'⟩, _⟩ := (HX11.out.below hb12).cells
  obtain ⟨⟨y0, y1, y2⟩, _⟩ := (HY11.out.below hb12).cells
  obtain ⟨⟨p0, p1, p2⟩, _⟩ := (HP11.out.below hb12).cells
  obtain ⟨⟨q0, q1, q2⟩, _⟩ := (HQ11.out.below hb12).cells
  clear hb12 HX11 HY11 HP11 HQ11 HB11 HWC
  go_wp2_with fail
  refine (HCM _).out.mono ?_
  rintro _ w13 ⟨rfl, hb13⟩
  have HB13 := Lib.hid (below_keep HB1.out (below_keep HB12.out hb13))
  clear hb13 HB12
  go_wp2_with fail
  go_ret
  exact ⟨rfl, HB13.out⟩
end Go.Proofs.Ytfmbbfidjcgeiaa

namespace Go.Proofs.Ytfmbbfidjcgeiaa
open Go.ChangeShapes Go.WideShapes Go.ChangeAt Go.RowKit

theorem cells_u16 : Try.prog.cellsOf 38 = 1 := by kernel_rfl
theorem cells_u5 : Try.prog.cellsOf 97 = 5 := by kernel_rfl
theorem u16_of {n : Int} (h : (Lit.int .u16 n).wf = true) : ∃ k : Nat, n = (k : Int) ∧ k < 65536 := by
  simp [Lit.wf, IntKind.min, IntKind.max, IntKind.signed, IntKind.bits] at h
  obtain ⟨k, rfl⟩ := Int.eq_ofNat_of_zero_le h.1
  exact ⟨k, rfl, by omega⟩
set_option maxRecDepth 10000 in
theorem open_u5_el {H : Type} {enc : TypeId × Value → H} {w : World} {spare : Nat → Bool} (n : Nat) (cs : List Value) (y : DataW H × List MemPlace) (h : DataW.trod enc Try.prog w 0 spare true n 97 cs = some y) (hl : cs.length = 5) : ∃ x, u5E.is w free x cs ∧ x.ok := by
  obtain ⟨xs, k, hk, hxy, _, hxl, hf⟩ := DataW.trod_array Try.underlying97 h
  match cs, hl with
  | [c0, c1, c2, c3, c4], _ =>
    match xs, hxl with
    | [y0, y1, y2, y3, y4], _ =>
      have g0 := hf 0 (by omega)
      have g1 := hf 1 (by omega)
      have g2 := hf 2 (by omega)
      have g3 := hf 3 (by omega)
      have g4 := hf 4 (by omega)
      simp [cells_u16] at g0 g1 g2 g3 g4
      obtain ⟨k0, e0, _, w0⟩ := DataW.trod_int Try.underlying38 g0
      obtain ⟨k1, e1, _, w1⟩ := DataW.trod_int Try.underlying38 g1
      obtain ⟨k2, e2, _, w2⟩ := DataW.trod_int Try.underlying38 g2
      obtain ⟨k3, e3, _, w3⟩ := DataW.trod_int Try.underlying38 g3
      obtain ⟨k4, e4, _, w4⟩ := DataW.trod_int Try.underlying38 g4
      simp at e0 e1 e2 e3 e4
      subst e0 e1 e2 e3 e4
      obtain ⟨n0, rfl, b0⟩ := u16_of w0
      obtain ⟨n1, rfl, b1⟩ := u16_of w1
      obtain ⟨n2, rfl, b2⟩ := u16_of w2
      obtain ⟨n3, rfl, b3⟩ := u16_of w3
      obtain ⟨n4, rfl, b4⟩ := u16_of w4
      exact ⟨⟨n0, n1, n2, n3, n4⟩, rfl, b0, b1, b2, b3, b4⟩
end Go.Proofs.Ytfmbbfidjcgeiaa
