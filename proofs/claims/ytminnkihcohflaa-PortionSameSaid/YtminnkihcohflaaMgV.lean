/- A part of the proofs of the laws of chapter 19: Pms. No condition beside sizes. -/
import Derived.Test.YtminnkihcohflaaMgR
import Derived.Test.YtminnkihcohflaaMgU
import Derived.Deep.DeepCutAuto
namespace Go.Proofs.Ytminnkihcohflaa
open Go.RowKit Go.Lib Go.Maps Go.Shelf

set_option maxHeartbeats 8000000 in
set_option maxRecDepth 100000 in
theorem same_walk (v : Value) (l : List U6) (c1 c2 : Nat) (rm : Bool) (w : World) (hv : Sl u6E w free v l) (hok : ∀ x ∈ l, x.ok) (h1 : c1 < 65536) (h2 : c2 < 65536) :
    Calls Try.prog 7 #[v, .int .u16 (c1 : Int), .int .u16 (c2 : Int), .bool rm] w fun e' w' => e' = .returned (.bool true) ∧ Below w.heap.size w w' := by
  have CP := fun W => Lib.hid (period_any c1 c2 h1 h2 W)
  obtain ⟨plo, hplo⟩ : ∃ q, q = (gper c1 c2).1 := ⟨_, rfl⟩
  obtain ⟨phi, hphi⟩ : ∃ q, q = (gper c1 c2).2 := ⟨_, rfl⟩
  rw [← hplo, ← hphi] at CP
  have HPI : Hid (In64 plo ∧ In64 phi) := by
    have := gper_ok c1 c2
    rw [← hplo, ← hphi] at this
    exact ⟨⟨by omega, by omega⟩, ⟨by omega, by omega⟩⟩
  have CVS : Calls Try.prog 32 #[v] w (RetOwn verE w (curL (l.take 10))) := curV_any v l w hv hok
  obtain ⟨xs, hxs⟩ : ∃ xs, xs = l.take 10 := ⟨_, rfl⟩
  rw [← hxs] at CVS
  have hx10 : xs.length ≤ 10 := by rw [hxs, List.length_take]; omega
  have HVS := Lib.hid CVS
  have HX10 := Lib.hid hx10
  clear CVS hx10 hxs hv hok hplo hphi h1 h2
  go_enter Try.func7, Try.ntmps7
  go_wp2_with fail
  refine HVS.out.mono ?_
  rintro _ w1 ⟨vl, rfl, hl, hb1⟩
  obtain ⟨L, hL⟩ : ∃ L, L = curL xs := ⟨_, rfl⟩
  rw [← hL] at hl
  have HL := Lib.hid hl.sl
  have HB1 := Lib.hid hb1
  have HLL := Lib.hid hL
  clear hl hb1 HVS hL
  go_wp2_with fail
  refine (CP _).out.mono ?_
  rintro _ w2 ⟨rfl, hb2⟩
  have HL2 := Lib.hid (HL.out.below hb2)
  have HB2 := Lib.hid (below_keep HB1.out hb2)
  clear hb2 HL HB1 CP
  have hgd := World.alloc_heap_new w2 (.cells #[.int .i64 plo, .int .i64 phi] 31)
  have hbd := below_alloc w2 (.cells #[.int .i64 plo, .int .i64 phi] 31)
  obtain ⟨g, hg⟩ : ∃ g, g = w2.heap.size := ⟨_, rfl⟩
  obtain ⟨w3, hw3⟩ : ∃ w3, w3 = w2.alloc (.cells #[.int .i64 plo, .int .i64 phi] 31) := ⟨_, rfl⟩
  rw [← hw3] at hgd hbd
  have HL3 := Lib.hid (HL2.out.below hbd)
  have HB3 := Lib.hid (below_keep HB2.out hbd)
  have d0 : w3.cell? ⟨w2.heap.size, 0, none⟩ = some (.int .i64 plo) := cell_of hgd rfl
  have d1 : w3.cell? ⟨w2.heap.size, 1, none⟩ = some (.int .i64 phi) := cell_of hgd rfl
  have HG := Lib.hid hg
  have HW := Lib.hid hw3
  rw [hw3] at d0 d1
  clear hgd hbd HL2 HB2 hw3 hg
  have HSL : Hid (Sl verE w3 (fun k => w3.heap.size ≤ k) vl L) := Lib.hid (HL3.out.old (Nat.le_refl _))
  obtain ⟨cl, hcl⟩ : ∃ cl, cl = (affV plo phi allE 0 L).map Ver.id := ⟨_, rfl⟩
  have hL10 : L.length ≤ 10 := by rw [HLL.out, curL_length]; exact HX10.out
  have CU : ∀ W ve, Below w3.heap.size w3 W → Sl expE W free ve allE → Hid (Calls Try.prog 23 #[vl, .agg #[.int .i64 plo, .int .i64 phi], ve, .int .i64 0, .slice none 0 0] W (RetDelta w3.heap.size W cl ((affV plo phi allE 0 L).flatMap (partsV plo phi (some (asgV allE [])))))) := fun W ve hW he => hcl ▸ upd_m vl ve (.slice none 0 0) L plo phi allE 0 [] w3.heap.size W hW.size (HSL.out.below hW) he (by omega) (by decide) allE_c (HLL.out ▸ curL_n) (HLL.out ▸ curL_len) (Sl.nil _ _ _ _ _)
  have CD : ∀ W ve, Below w3.heap.size w3 W → Sl expE W free ve allE → Hid (Calls Try.prog 21 #[vl, .agg #[.int .i64 plo, .int .i64 phi], ve, .int .i64 0] W (RetDelta w3.heap.size W cl ((affV plo phi allE 0 L).flatMap (partsV plo phi none)))) := fun W ve hW he => hcl ▸ del_m vl ve L plo phi allE 0 w3.heap.size W hW.size (HSL.out.below hW) he (by omega) (by decide) allE_c (HLL.out ▸ curL_n) (HLL.out ▸ curL_len)
  have HLT := Lib.hid hL10
  have HCL := Lib.hid hcl
  have CU' := Lib.hid CU
  have CD' := Lib.hid CD
  clear CU CD hL10 hcl HL3
  go_upto_region 2 with fail
  rw [← HW.out] at d0 d1 ⊢
  obtain ⟨rfl⟩ : g = w2.heap.size := HG.out
  clear HW HG
  obtain ⟨adU, hadU⟩ : ∃ x, x = (affV plo phi allE 0 L).flatMap (partsV plo phi (some (asgV allE []))) := ⟨_, rfl⟩
  obtain ⟨adD, hadD⟩ : ∃ x, x = (affV plo phi allE 0 L).flatMap (partsV plo phi none) := ⟨_, rfl⟩
  rw [← hadU] at CU'
  rw [← hadD] at CD'
  have HADU := Lib.hid hadU
  have HADD := Lib.hid hadD
  have hbb : Below w3.heap.size w3 w3 := .refl _ _
  have hgr : w3.heap.size ≤ w3.heap.size := Nat.le_refl _
  have hlt2 : w2.heap.size < w3.heap.size := World.block_lt_of_cell? w3 _ d0
  have hner : w3.heap.size ≠ w2.heap.size := Nat.ne_of_gt hlt2
  clear hadU hadD
  go_cut [11] (fun s15 wx => DeltaAt w3.heap.size w3 cl adU s15 wx)
  case first =>
    go_region_held3 (fun W => Below w3.heap.size w3 W ∧ W.cell? ⟨w2.heap.size, 0, none⟩ = some (.int .i64 plo) ∧ W.cell? ⟨w2.heap.size, 1, none⟩ = some (.int .i64 phi))
      ((go_split_ands; refine ⟨?_, ?_, ?_⟩ <;> (first | with_reducible assumption | with_reducible exact Below.drew (by assumption) | with_reducible exact cell_drew (by assumption) | with_reducible exact below_keep (by assumption) (by assumption) | with_reducible exact cell_keep (by assumption) (by assumption) | with_reducible exact below_alloc_keep (by assumption) | with_reducible exact cell_alloc (by assumption) | with_reducible exact below_put2 (by assumption) | with_reducible exact cell_put2 (by assumption) | exact below_set2 (by assumption) hgA hgA | exact below_set2 (by assumption) hgr hgr | exact cell_set2 (by assumption) hneA hneA | exact cell_set2 (by assumption) hner hner | with_reducible exact below_alloc_drew (by assumption) | with_reducible exact cell_alloc_drew (by assumption))))
      (first
        | (go_at_call 30; refine (all_any _).mono ?_; rintro e' wA ⟨ve, rfl, heA, hbA⟩; have hgA : w3.heap.size ≤ wA.heap.size := (by have hq := hbA.size; simp at hq; omega); have hneA : wA.heap.size ≠ w2.heap.size := (by omega); (first | (have hkA := box_new hbA) | (have hkA := box_new_drew hbA) | skip))
        | (go_at_call 23; go_split_ands; refine (CU'.out _ _ (by first | assumption | exact Below.drew (by assumption) | exact below_alloc_keep (by assumption)) (by first | assumption | exact heA.below (below_alloc _ _))).out.mono ?_; rintro e' wU ⟨vcU, vaU, rfl, hcU, haU, hbU⟩; obtain ⟨acU, ccU, rfl⟩ := hcU.shape; obtain ⟨aaU, caU, rfl⟩ := haU.shape; have hbW : Below w3.heap.size w3 wU := (by first | exact below_keep (by assumption) hbU | exact below_keep (Below.drew (by assumption)) hbU); have hp0 : wU.cell? ⟨w2.heap.size, 0, none⟩ = some (.int .i64 plo) := (by first | exact cell_keep hbU (by assumption) | exact cell_keep hbU (cell_drew (by assumption))); have hp1 : wU.cell? ⟨w2.heap.size, 1, none⟩ = some (.int .i64 phi) := (by first | exact cell_keep hbU (by assumption) | exact cell_keep hbU (cell_drew (by assumption))); (first | (have hkU := box_kept hkA hbU; have hkq := box_two hkU; obtain ⟨k0, k1, f0, f1⟩ := hkq) | (have hkU := box_drew hkA hbU; have hkq := box_two hkU; obtain ⟨k0, k1, f0, f1⟩ := hkq) | (have hkU := box_new hbU; have hkq := box_two hkU; obtain ⟨k0, k1, f0, f1⟩ := hkq) | (have hkU := box_new_drew hbU; have hkq := box_two hkU; obtain ⟨k0, k1, f0, f1⟩ := hkq) | skip)))
    all_goals (
      go_wp2_with fail
      go_meet
      first
        | exact delta_made rfl rfl hbW.size hcU haU hbW
        | exact delta_old rfl rfl k0 k1 f0 f1 hgA (sl_off hcU ⟨hgA, by simp⟩) (sl_off haU ⟨hgA, by simp⟩) hbW
        | exact delta_old rfl rfl k0 k1 f0 f1 hgr (sl_off hcU ⟨hgr, by have hq := hbA.size; simp at hq; omega⟩) (sl_off haU ⟨hgr, by have hq := hbA.size; simp at hq; omega⟩) hbW)
  case rest =>
    obtain ⟨gd, a1, c1', a2, c2', rfl, hgd, k0, k1, f0, f1, hcc, haa, hbx⟩ := hcut
    have p0 := cell_keep hbx d0
    have p1 := cell_keep hbx d1
    have hgne : gd ≠ w2.heap.size := by omega
    have hgl : gd < wc.heap.size := World.block_lt_of_cell? wc _ k0
    clear d0 d1 hbb hgr hner CU'
    have HDU : Hid (DeltaAt w3.heap.size w3 cl adU (.pointer (some ⟨gd, 0, none⟩)) wc) := Lib.hid ⟨gd, a1, c1', a2, c2', rfl, hgd, k0, k1, f0, f1, hcc, haa, hbx⟩
    clear hcc haa
    go_upto_if 25 with fail
    go_cut [] (fun wx => ∃ chg : Option (List GVal → List GVal), (∀ f, chg = some f → ∀ r, f r = r) ∧ DeltaAt w3.heap.size w3 cl ((affV plo phi allE 0 L).flatMap (partsV plo phi chg)) (.pointer (some ⟨gd, 0, none⟩)) wx)
    case first =>
      cases rm
      · go_wp2_with fail
        go_meet
        exact ⟨some (asgV allE []), (by rintro f ⟨⟩; exact asg_nil _), HADU.out ▸ HDU.out⟩
      · go_wp2_with fail
        go_region_held3 (fun W => Below w3.heap.size w3 W ∧ W.cell? ⟨w2.heap.size, 0, none⟩ = some (.int .i64 plo) ∧ W.cell? ⟨w2.heap.size, 1, none⟩ = some (.int .i64 phi))
          ((go_split_ands; refine ⟨?_, ?_, ?_⟩ <;> (first | with_reducible assumption | with_reducible exact Below.drew (by assumption) | with_reducible exact cell_drew (by assumption) | with_reducible exact below_keep (by assumption) (by assumption) | with_reducible exact cell_keep (by assumption) (by assumption) | exact below_set2 (by assumption) hgd hgd | exact cell_set2 (by assumption) hgne hgne)))
          (first
            | (go_at_call 30; refine (all_any _).mono ?_; rintro e' wA ⟨ve, rfl, heA, hbA⟩; have q0 := cell_keep hbA k0; have q1 := cell_keep hbA k1; have g0 := frozen_hold hbA k0 f0; have g1 := frozen_hold hbA k1 f1)
            | (go_at_call 21; go_split_ands; refine (CD'.out _ _ (by first | assumption | exact Below.drew (by assumption)) (by first | assumption)).out.mono ?_; rintro e' wU ⟨vcU, vaU, rfl, hcU, haU, hbU⟩; obtain ⟨acU, ccU, rfl⟩ := hcU.shape; obtain ⟨aaU, caU, rfl⟩ := haU.shape; have hbW : Below w3.heap.size w3 wU := (by first | exact below_keep (by assumption) hbU | exact below_keep (Below.drew (by assumption)) hbU); have hp0 : wU.cell? ⟨w2.heap.size, 0, none⟩ = some (.int .i64 plo) := (by first | exact cell_keep hbU (by assumption) | exact cell_keep hbU (cell_drew (by assumption))); have hp1 : wU.cell? ⟨w2.heap.size, 1, none⟩ = some (.int .i64 phi) := (by first | exact cell_keep hbU (by assumption) | exact cell_keep hbU (cell_drew (by assumption))); have r0 := cell_keep hbU q0; have r1 := cell_keep hbU q1; have y0 := frozen_hold hbU q0 g0; have y1 := frozen_hold hbU q1 g1))
        all_goals (
          have hga : gd < wA.heap.size := World.block_lt_of_cell? wA _ q0
          go_wp2_with fail
          go_meet
          exact ⟨none, (by intro f hf; cases hf), HADD.out ▸ delta_old rfl rfl r0 r1 y0 y1 hgd (sl_off hcU ⟨hgd, hga⟩) (sl_off haU ⟨hgd, hga⟩) hbW⟩)
    case rest =>
      clear HDU k0 k1 f0 f1 p0 p1 hgl hbx
      obtain ⟨chg, hchg, gd', a1, c1', a2, c2', e, hgd', k0, k1, f0, f1, hcc, haa, hbx⟩ := hcut
      cases e
      have hLe := HLL.out
      obtain ⟨ad, had⟩ : ∃ ad, ad = (affV plo phi allE 0 L).flatMap (partsV plo phi chg) := ⟨_, rfl⟩
      rw [← had] at haa k1
      have hAE : applyE L cl ad 1 100 = 0 := by rw [HCL.out, had, hLe]; exact edit_e plo phi allE 0 chg (curL xs) 1 100 (curL_fit xs 1 100 (by decide) (by have := HX10.out; omega)) (by decide) (by decide) (by decide) (by decide)
      have hREC : ∀ v ∈ applyL L cl ad 1 100, v.rlo = 1 ∧ v.rhi = 1099511627776 := by rw [hLe]; exact same_rec _ _ xs
      have hLEN : (applyL L cl ad 1 100).length + cl.length = L.length + ad.length := by rw [HCL.out, hLe, curL_length]; exact same_len plo phi allE 0 ad xs
      have hl10 : L.length ≤ 10 := HLT.out
      have hcl10 : cl.length ≤ 10 := by rw [HCL.out, List.length_map]; exact Nat.le_trans (affV_len L) hl10
      have had30 : ad.length ≤ 30 := by
        have h1 := parts_len (plo := plo) (phi := phi) chg (affV plo phi allE 0 L)
        have h2 := affV_len (plo := plo) (phi := phi) (e := allE) (pred := 0) L
        rw [had]; omega
      have hal : ∀ x ∈ ad, x.vals.length ≤ 1000 := by
        rw [had]
        exact parts_vals chg hchg _ (fun x hx => by rw [hLe] at hx; exact curL_len x (affV_mem hx).1)
      have hci : ∀ x ∈ cl, In64 x := by
        rw [HCL.out]
        intro x hx
        obtain ⟨v', hv', rfl⟩ := List.mem_map.1 hx
        rw [hLe] at hv'
        exact curL_id (by have := HX10.out; omega) v' (affV_mem hv').1
      have AP : Hid (Calls Try.prog 25 #[vl, .agg #[.slice a1 cl.length c1', .slice a2 ad.length c2'], .int .i64 1, .int .i64 100] wc fun e w' => ∃ vo, e = .returned (.tuple #[vo, .int .i64 0]) ∧ Sl verE w' free vo (applyL L cl ad 1 100) ∧ Below wc.heap.size wc w') := by
        refine (apply_ver vl _ _ L cl ad 1 100 wc (HSL.out.below hbx).free hcc.free haa.free (by omega) (by omega) (by omega) (by rw [hLe]; exact curL_id (by have := HX10.out; omega)) hci (by rw [hLe]; exact curL_len) hal).mono ?_
        rintro e w' ⟨r, HR, h1, _, hb⟩
        obtain ⟨vo, he, hs⟩ := h1 (HR.out.trans hAE)
        exact ⟨vo, he, hs, hb⟩
      have HL := Lib.hid (HSL.out.below hbx).free
      have HBX : Hid (Below w.heap.size w wc) := HB3.out.trans (hbx.mono HB3.out.size)
      obtain ⟨al, cl', rfl⟩ := HL.out.shape
      obtain ⟨lo, hlo⟩ : ∃ lo, lo = applyL L cl ad 1 100 := ⟨_, rfl⟩
      rw [← hlo] at hREC hLEN AP
      obtain ⟨nl, hnl⟩ : ∃ n, n = L.length := ⟨_, rfl⟩
      obtain ⟨nc, hnc⟩ : ∃ n, n = cl.length := ⟨_, rfl⟩
      obtain ⟨na, hna⟩ : ∃ n, n = ad.length := ⟨_, rfl⟩
      rw [← hnl, ← hnc, ← hna] at hLEN
      rw [← hnl] at hl10 HL AP ⊢
      rw [← hnc] at hcl10 AP k0
      rw [← hna] at had30 AP k1
      have HREC := Lib.hid hREC
      clear hLe had hAE hREC hal hci hcc haa hbx hchg CD' HSL HB3 hnl hnc hna hlo HL
      go_wp2_with fail
      refine AP.out.mono ?_
      rintro _ w5 ⟨vo, rfl, hvo, hb5⟩
      have HB5 : Hid (Below w.heap.size w w5) := HBX.out.trans (hb5.mono HBX.out.size)
      have q0 := cell_keep hb5 k0
      have q1 := cell_keep hb5 k1
      obtain ⟨ao, co, rfl⟩ := hvo.shape
      obtain ⟨n, hn⟩ : ∃ n, n = lo.length := ⟨_, rfl⟩
      rw [← hn] at hLEN hvo ⊢
      have HN := Lib.hid hn
      have HVO := Lib.hid hvo
      have hgd5 : gd < w5.heap.size := World.block_lt_of_cell? w5 _ q0
      clear hvo hb5 hn AP HBX k0 k1 f0 f1
      go_wp2_with fail
      go_loopw [38] (fun i wr => ∃ k : Nat, k ≤ n ∧ i = .int .i64 k ∧ Hid (Below w5.heap.size w5 wr)) (fun i _ => n - (intOf i).toNat)
      case atStart => exact ⟨0, Nat.zero_le _, rfl, Lib.hid (.refl _ _)⟩
      case round =>
        obtain ⟨k, hk, rfl, HB⟩ := hrel
        obtain ⟨wo, rfl⟩ : ∃ wo : World, wo = wr := ⟨_, rfl⟩
        by_cases hlt : k < n
        · obtain ⟨x, hx⟩ := lget_some lo k (by rw [← HN.out]; exact hlt)
          obtain ⟨bv, ov, av, cv, ea, _, p0, p1, p2, p3, p4, p5⟩ := ver_at (HVO.out.below HB.out) hx
          cases ea
          obtain ⟨hr1, hr2⟩ := HREC.out x (List.mem_of_getElem? hx)
          obtain ⟨xid, xvals, xlo, xhi, xrlo, xrhi⟩ := x
          dsimp only at p0 p1 p2 p3 p4 p5 hr1 hr2
          subst hr1 hr2
          have hgd' := per_guard
          have heq : ∀ W : World, (binOp .neq 31 (.agg #[.int .i64 1, .int .i64 1099511627776]) (.agg #[.int .i64 1, .int .i64 1099511627776])).run Try.prog W = .ok (.bool false) W := fun W => per_neq _ _ _ _ W
          have HB' := Lib.hid (below_alloc_keep (o := .cells #[.int .i64 xid, .slice av xvals.length cv, .int .i64 xlo, .int .i64 xhi, .int .i64 1, .int .i64 1099511627776] 59) HB.out)
          clear hx
          go_wp2_with fail
          refine ⟨⟨k + 1, by omega, by go_num, HB'⟩, ?_⟩
          simp [intOf]
          omega
        · have r0 := cell_keep HB.out q0
          have r1 := cell_keep HB.out q1
          go_wp2_with fail
          refine (awake_any _).mono ?_
          rintro _ w6 ⟨rfl, hb6⟩
          have s0 := cell_keep hb6 r0
          have s1 := cell_keep hb6 r1
          have HB6 := Lib.hid (below_keep HB.out hb6)
          clear hb6
          go_wp2_with fail
          go_ret
          exact ⟨ret_bool (by simp only [beq_iff_eq]; omega), HB5.out.trans (HB6.out.mono HB5.out.size)⟩
end Go.Proofs.Ytminnkihcohflaa
