/- A part of the proofs of the laws of chapter 19: Psw. No condition beside sizes. -/
import Derived.Test.YtminnkihcohflaaMgR
import Derived.Deep.DeepCutAuto
namespace Go.Proofs.Ytminnkihcohflaa
open Go.RowKit Go.Lib Go.Maps Go.Shelf

set_option maxHeartbeats 8000000 in
set_option maxRecDepth 100000 in
theorem past_walk (v : Value) (l : List U6) (c1 c2 at' back : Nat) (rm : Bool) (w : World) (hv : Sl u6E w free v l) (hok : ∀ x ∈ l, x.ok) (h1 : c1 < 65536) (h2 : c2 < 65536) (h3 : at' < 256) (h4 : back < 256) :
    Calls Try.prog 6 #[v, .int .u16 (c1 : Int), .int .u16 (c2 : Int), .int .u8 (at' : Int), .int .u8 (back : Int), .bool rm] w fun e' w' => e' = .returned (.bool true) ∧ Below w.heap.size w w' := by
  have CP := fun W => Lib.hid (period_any c1 c2 h1 h2 W)
  obtain ⟨plo, hplo⟩ : ∃ q, q = (gper c1 c2).1 := ⟨_, rfl⟩
  obtain ⟨phi, hphi⟩ : ∃ q, q = (gper c1 c2).2 := ⟨_, rfl⟩
  rw [← hplo, ← hphi] at CP
  have HPI : Hid (In64 plo ∧ In64 phi) := by
    have := gper_ok c1 c2
    rw [← hplo, ← hphi] at this
    exact ⟨⟨by omega, by omega⟩, ⟨by omega, by omega⟩⟩
  have CVS : Calls Try.prog 28 #[v, .int .i64 10, .int .i64 1] w (RetOwn verE w (versL 1 (l.take 10))) := versions_any v l 10 1 (by decide) (by decide) w hv hok
  obtain ⟨xs, hxs⟩ : ∃ xs, xs = l.take 10 := ⟨_, rfl⟩
  rw [← hxs] at CVS
  have hx10 : xs.length ≤ 10 := by rw [hxs, List.length_take]; omega
  have HVS := Lib.hid CVS
  have HX10 := Lib.hid hx10
  clear CVS hx10 hxs hv hok hplo hphi h1 h2
  go_enter Try.func6, Try.ntmps6
  go_wp2_with fail
  refine HVS.out.mono ?_
  rintro _ w1 ⟨vl, rfl, hl, hb1⟩
  obtain ⟨L, hL⟩ : ∃ L, L = versL 1 xs := ⟨_, rfl⟩
  rw [← hL] at hl
  have HL := Lib.hid hl.sl
  have HB1 := Lib.hid hb1
  have HLL := Lib.hid hL
  clear hl hb1 HVS hL
  go_wp2_with fail
  refine (CP _).out.mono ?_
  rintro _ w2 ⟨rfl, hb2⟩
  have HL2 := Lib.hid (HL.out.below hb2)
  have HB2 := Lib.hid (below_keep HB1.out hb2)
  clear hb2 HL HB1 CP
  have hgd := World.alloc_heap_new w2 (.cells #[.int .i64 plo, .int .i64 phi] 31)
  have hbd := below_alloc w2 (.cells #[.int .i64 plo, .int .i64 phi] 31)
  obtain ⟨g, hg⟩ : ∃ g, g = w2.heap.size := ⟨_, rfl⟩
  obtain ⟨w3, hw3⟩ : ∃ w3, w3 = w2.alloc (.cells #[.int .i64 plo, .int .i64 phi] 31) := ⟨_, rfl⟩
  rw [← hw3] at hgd hbd
  have HL3 := Lib.hid (HL2.out.below hbd)
  have HB3 := Lib.hid (below_keep HB2.out hbd)
  have d0 : w3.cell? ⟨w2.heap.size, 0, none⟩ = some (.int .i64 plo) := cell_of hgd rfl
  have d1 : w3.cell? ⟨w2.heap.size, 1, none⟩ = some (.int .i64 phi) := cell_of hgd rfl
  have HG := Lib.hid hg
  have HW := Lib.hid hw3
  rw [hw3] at d0 d1
  clear hgd hbd HL2 HB2 hw3 hg
  have HSL : Hid (Sl verE w3 (fun k => w3.heap.size ≤ k) vl L) := Lib.hid (HL3.out.old (Nat.le_refl _))
  obtain ⟨cl, hcl⟩ : ∃ cl, cl = (affV plo phi allE 0 L).map Ver.id := ⟨_, rfl⟩
  have hL10 : L.length ≤ 10 := by rw [HLL.out, versL_length]; exact HX10.out
  have CU : ∀ W ve, Below w3.heap.size w3 W → Sl expE W free ve allE → Hid (Calls Try.prog 23 #[vl, .agg #[.int .i64 plo, .int .i64 phi], ve, .int .i64 0, .slice none 0 0] W (RetDelta w3.heap.size W cl ((affV plo phi allE 0 L).flatMap (partsV plo phi (some (asgV allE [])))))) := fun W ve hW he => hcl ▸ upd_m vl ve (.slice none 0 0) L plo phi allE 0 [] w3.heap.size W hW.size (HSL.out.below hW) he (by omega) (by decide) allE_c (HLL.out ▸ verOf_n) (HLL.out ▸ verOf_len) (Sl.nil _ _ _ _ _)
  have CD : ∀ W ve, Below w3.heap.size w3 W → Sl expE W free ve allE → Hid (Calls Try.prog 21 #[vl, .agg #[.int .i64 plo, .int .i64 phi], ve, .int .i64 0] W (RetDelta w3.heap.size W cl ((affV plo phi allE 0 L).flatMap (partsV plo phi none)))) := fun W ve hW he => hcl ▸ del_m vl ve L plo phi allE 0 w3.heap.size W hW.size (HSL.out.below hW) he (by omega) (by decide) allE_c (HLL.out ▸ verOf_n) (HLL.out ▸ verOf_len)
  have HLT := Lib.hid hL10
  have HCL := Lib.hid hcl
  have CU' := Lib.hid CU
  have CD' := Lib.hid CD
  clear CU CD hL10 hcl HL3
  go_upto_region 2 with fail
  rw [← HW.out] at d0 d1 ⊢
  obtain ⟨rfl⟩ : g = w2.heap.size := HG.out
  clear HW HG
  obtain ⟨adU, hadU⟩ : ∃ x, x = (affV plo phi allE 0 L).flatMap (partsV plo phi (some (asgV allE []))) := ⟨_, rfl⟩
  obtain ⟨adD, hadD⟩ : ∃ x, x = (affV plo phi allE 0 L).flatMap (partsV plo phi none) := ⟨_, rfl⟩
  rw [← hadU] at CU'
  rw [← hadD] at CD'
  have HADU := Lib.hid hadU
  have HADD := Lib.hid hadD
  have hbb : Below w3.heap.size w3 w3 := .refl _ _
  have hgr : w3.heap.size ≤ w3.heap.size := Nat.le_refl _
  have hlt2 : w2.heap.size < w3.heap.size := World.block_lt_of_cell? w3 _ d0
  have hner : w3.heap.size ≠ w2.heap.size := Nat.ne_of_gt hlt2
  clear hadU hadD
  go_cut [15] (fun s15 wx => DeltaAt w3.heap.size w3 cl adU s15 wx)
  case first =>
    go_region_held3 (fun W => Below w3.heap.size w3 W ∧ W.cell? ⟨w2.heap.size, 0, none⟩ = some (.int .i64 plo) ∧ W.cell? ⟨w2.heap.size, 1, none⟩ = some (.int .i64 phi))
      ((go_split_ands; refine ⟨?_, ?_, ?_⟩ <;> (first | with_reducible assumption | with_reducible exact Below.drew (by assumption) | with_reducible exact cell_drew (by assumption) | with_reducible exact below_keep (by assumption) (by assumption) | with_reducible exact cell_keep (by assumption) (by assumption) | with_reducible exact below_alloc_keep (by assumption) | with_reducible exact cell_alloc (by assumption) | with_reducible exact below_put2 (by assumption) | with_reducible exact cell_put2 (by assumption) | exact below_set2 (by assumption) hgA hgA | exact below_set2 (by assumption) hgr hgr | exact cell_set2 (by assumption) hneA hneA | exact cell_set2 (by assumption) hner hner | with_reducible exact below_alloc_drew (by assumption) | with_reducible exact cell_alloc_drew (by assumption))))
      (first
        | (go_at_call 30; refine (all_any _).mono ?_; rintro e' wA ⟨ve, rfl, heA, hbA⟩; have hgA : w3.heap.size ≤ wA.heap.size := (by have hq := hbA.size; simp at hq; omega); have hneA : wA.heap.size ≠ w2.heap.size := (by omega); (first | (have hkA := box_new hbA) | (have hkA := box_new_drew hbA) | skip))
        | (go_at_call 23; go_split_ands; refine (CU'.out _ _ (by first | assumption | exact Below.drew (by assumption) | exact below_alloc_keep (by assumption)) (by first | assumption | exact heA.below (below_alloc _ _))).out.mono ?_; rintro e' wU ⟨vcU, vaU, rfl, hcU, haU, hbU⟩; obtain ⟨acU, ccU, rfl⟩ := hcU.shape; obtain ⟨aaU, caU, rfl⟩ := haU.shape; have hbW : Below w3.heap.size w3 wU := (by first | exact below_keep (by assumption) hbU | exact below_keep (Below.drew (by assumption)) hbU); have hp0 : wU.cell? ⟨w2.heap.size, 0, none⟩ = some (.int .i64 plo) := (by first | exact cell_keep hbU (by assumption) | exact cell_keep hbU (cell_drew (by assumption))); have hp1 : wU.cell? ⟨w2.heap.size, 1, none⟩ = some (.int .i64 phi) := (by first | exact cell_keep hbU (by assumption) | exact cell_keep hbU (cell_drew (by assumption))); (first | (have hkU := box_kept hkA hbU; have hkq := box_two hkU; obtain ⟨k0, k1, f0, f1⟩ := hkq) | (have hkU := box_drew hkA hbU; have hkq := box_two hkU; obtain ⟨k0, k1, f0, f1⟩ := hkq) | (have hkU := box_new hbU; have hkq := box_two hkU; obtain ⟨k0, k1, f0, f1⟩ := hkq) | (have hkU := box_new_drew hbU; have hkq := box_two hkU; obtain ⟨k0, k1, f0, f1⟩ := hkq) | skip)))
    all_goals (
      go_wp2_with fail
      go_meet
      first
        | exact delta_made rfl rfl hbW.size hcU haU hbW
        | exact delta_old rfl rfl k0 k1 f0 f1 hgA (sl_off hcU ⟨hgA, by simp⟩) (sl_off haU ⟨hgA, by simp⟩) hbW
        | exact delta_old rfl rfl k0 k1 f0 f1 hgr (sl_off hcU ⟨hgr, by have hq := hbA.size; simp at hq; omega⟩) (sl_off haU ⟨hgr, by have hq := hbA.size; simp at hq; omega⟩) hbW)
  case rest =>
    obtain ⟨gd, a1, c1', a2, c2', rfl, hgd, k0, k1, f0, f1, hcc, haa, hbx⟩ := hcut
    have p0 := cell_keep hbx d0
    have p1 := cell_keep hbx d1
    have hgne : gd ≠ w2.heap.size := by omega
    have hgl : gd < wc.heap.size := World.block_lt_of_cell? wc _ k0
    clear d0 d1 hbb hgr hner CU'
    have HDU : Hid (DeltaAt w3.heap.size w3 cl adU (.pointer (some ⟨gd, 0, none⟩)) wc) := Lib.hid ⟨gd, a1, c1', a2, c2', rfl, hgd, k0, k1, f0, f1, hcc, haa, hbx⟩
    clear hcc haa
    go_upto_if 29 with fail
    go_cut [] (fun wx => ∃ chg : Option (List GVal → List GVal), (∀ f, chg = some f → ∀ r, f r = r) ∧ DeltaAt w3.heap.size w3 cl ((affV plo phi allE 0 L).flatMap (partsV plo phi chg)) (.pointer (some ⟨gd, 0, none⟩)) wx)
    case first =>
      cases rm
      · go_wp2_with fail
        go_meet
        exact ⟨some (asgV allE []), (by rintro f ⟨⟩; exact asg_nil _), HADU.out ▸ HDU.out⟩
      · go_wp2_with fail
        go_region_held3 (fun W => Below w3.heap.size w3 W ∧ W.cell? ⟨w2.heap.size, 0, none⟩ = some (.int .i64 plo) ∧ W.cell? ⟨w2.heap.size, 1, none⟩ = some (.int .i64 phi))
          ((go_split_ands; refine ⟨?_, ?_, ?_⟩ <;> (first | with_reducible assumption | with_reducible exact Below.drew (by assumption) | with_reducible exact cell_drew (by assumption) | with_reducible exact below_keep (by assumption) (by assumption) | with_reducible exact cell_keep (by assumption) (by assumption) | exact below_set2 (by assumption) hgd hgd | exact cell_set2 (by assumption) hgne hgne)))
          (first
            | (go_at_call 30; refine (all_any _).mono ?_; rintro e' wA ⟨ve, rfl, heA, hbA⟩; have q0 := cell_keep hbA k0; have q1 := cell_keep hbA k1; have g0 := frozen_hold hbA k0 f0; have g1 := frozen_hold hbA k1 f1)
            | (go_at_call 21; go_split_ands; refine (CD'.out _ _ (by first | assumption | exact Below.drew (by assumption)) (by first | assumption)).out.mono ?_; rintro e' wU ⟨vcU, vaU, rfl, hcU, haU, hbU⟩; obtain ⟨acU, ccU, rfl⟩ := hcU.shape; obtain ⟨aaU, caU, rfl⟩ := haU.shape; have hbW : Below w3.heap.size w3 wU := (by first | exact below_keep (by assumption) hbU | exact below_keep (Below.drew (by assumption)) hbU); have hp0 : wU.cell? ⟨w2.heap.size, 0, none⟩ = some (.int .i64 plo) := (by first | exact cell_keep hbU (by assumption) | exact cell_keep hbU (cell_drew (by assumption))); have hp1 : wU.cell? ⟨w2.heap.size, 1, none⟩ = some (.int .i64 phi) := (by first | exact cell_keep hbU (by assumption) | exact cell_keep hbU (cell_drew (by assumption))); have r0 := cell_keep hbU q0; have r1 := cell_keep hbU q1; have y0 := frozen_hold hbU q0 g0; have y1 := frozen_hold hbU q1 g1))
        all_goals (
          have hga : gd < wA.heap.size := World.block_lt_of_cell? wA _ q0
          go_wp2_with fail
          go_meet
          exact ⟨none, (by intro f hf; cases hf), HADD.out ▸ delta_old rfl rfl r0 r1 y0 y1 hgd (sl_off hcU ⟨hgd, hga⟩) (sl_off haU ⟨hgd, hga⟩) hbW⟩)
    case rest =>
      clear HDU k0 k1 f0 f1 p0 p1 hgl hbx
      obtain ⟨chg, hchg, gd', a1, c1', a2, c2', e, hgd', k0, k1, f0, f1, hcc, haa, hbx⟩ := hcut
      cases e
      have hLe := HLL.out
      obtain ⟨ad, had⟩ : ∃ ad, ad = (affV plo phi allE 0 L).flatMap (partsV plo phi chg) := ⟨_, rfl⟩
      rw [← had] at haa k1
      obtain ⟨n, hn⟩ : ∃ n : Int, n = 60 + (at' : Int) := ⟨_, rfl⟩
      obtain ⟨pt, hpt⟩ : ∃ p : Int, p = n - 1 - (back : Int) % 60 := ⟨_, rfl⟩
      have hAE : applyE L cl ad n 100 = 0 := by rw [HCL.out, had, hLe]; exact past_e plo phi chg xs n HX10.out (by omega) (by omega)
      have hAT : atT (applyL L cl ad n 100) pt = atT L pt := by rw [HCL.out, hLe]; exact past_t plo phi ad xs n pt (by omega) (by omega) (by omega)
      have hl10 : L.length ≤ 10 := HLT.out
      have hcl10 : cl.length ≤ 10 := by rw [HCL.out, List.length_map]; exact Nat.le_trans (aff_len L) hl10
      have had30 : ad.length ≤ 30 := by
        have h1 := parts_len (plo := plo) (phi := phi) chg (affV plo phi allE 0 L)
        have h2 := aff_len (plo := plo) (phi := phi) L
        rw [had]; omega
      have hal : ∀ x ∈ ad, x.vals.length ≤ 1000 := by
        rw [had]
        exact parts_vals chg hchg _ (fun x hx => by rw [hLe] at hx; exact verOf_len x (aff_mem hx).1)
      have hci : ∀ x ∈ cl, In64 x := by
        rw [HCL.out]
        intro x hx
        obtain ⟨v', hv', rfl⟩ := List.mem_map.1 hx
        rw [hLe] at hv'
        exact verOf_id (by have := HX10.out; omega) v' (aff_mem hv').1
      have hAL : (applyL L cl ad n 100).length ≤ 1000 := by
        unfold applyL
        rw [List.length_append, newV_length]
        have := keepOne_length cl n L
        omega
      have AP : Hid (Calls Try.prog 25 #[vl, .agg #[.slice a1 cl.length c1', .slice a2 ad.length c2'], .int .i64 n, .int .i64 100] wc fun e w' => ∃ vo, e = .returned (.tuple #[vo, .int .i64 0]) ∧ Sl verE w' free vo (applyL L cl ad n 100) ∧ Below wc.heap.size wc w') := by
        refine (apply_ver vl _ _ L cl ad n 100 wc (HSL.out.below hbx).free hcc.free haa.free (by omega) (by omega) (by omega) (by rw [hLe]; exact verOf_id (by have := HX10.out; omega)) hci (by rw [hLe]; exact verOf_len) hal).mono ?_
        rintro e w' ⟨r, HR, h1, _, hb⟩
        obtain ⟨vo, he, hs⟩ := h1 (HR.out.trans hAE)
        exact ⟨vo, he, hs, hb⟩
      have HL := Lib.hid (HSL.out.below hbx).free
      have HBX : Hid (Below w.heap.size w wc) := HB3.out.trans (hbx.mono HB3.out.size)
      have HAT := Lib.hid hAT
      have HAL := Lib.hid hAL
      have hb60 : (back : Int) % 60 < 60 := by omega
      have hb0 : 0 ≤ (back : Int) % 60 := by omega
      have hn1 : IntKind.i64.wrap (60 + (at' : Int)) = n := by rw [hn]; exact IntWalk.i64_in _ (by omega)
      have hn2 : IntKind.i64.wrap (n - 1) = n - 1 := IntWalk.i64_in _ (by omega)
      have hn3 : IntKind.i64.wrap (n - 1 - (back : Int) % 60) = pt := by rw [hpt]; exact IntWalk.i64_in _ (by omega)
      clear hLe had hn hpt hAE hAT hl10 hcl10 had30 hal hci hAL hcc haa hbx hchg CD' HSL HB3
      go_wp2_with fail
      refine AP.out.mono ?_
      rintro _ w5 ⟨vo, rfl, hvo, hb5⟩
      obtain ⟨lo, hlo⟩ : ∃ lo, lo = applyL L cl ad n 100 := ⟨_, rfl⟩
      rw [← hlo] at HAT HAL hvo
      obtain ⟨ta, hta⟩ : ∃ ta, ta = atT L pt := ⟨_, rfl⟩
      have HTA := Lib.hid hta
      have C1 : ∀ W, Below w5.heap.size w5 W → Hid (Calls Try.prog 31 #[vo, .int .i64 pt] W (RetOwn tupE W ta)) := fun W hW => by
        have := atT_any vo lo pt W (hvo.below hW) HAL.out
        rw [HAT.out, ← hta] at this
        exact this
      have C2 : ∀ W, Below w5.heap.size w5 W → Hid (Calls Try.prog 31 #[vl, .int .i64 pt] W (RetOwn tupE W ta)) := fun W hW => by
        have := atT_any vl L pt W ((HL.out.below hb5).below hW) (by have := HLT.out; omega)
        rw [← hta] at this
        exact this
      have HB5 : Hid (Below w.heap.size w w5) := HBX.out.trans (hb5.mono HBX.out.size)
      obtain ⟨ao, co, rfl⟩ := hvo.shape
      obtain ⟨al, cl', rfl⟩ := HL.out.shape
      have h55 : Below w5.heap.size w5 w5 := .refl _ _
      clear hvo hb5 hlo HAT HAL hta AP HL HBX
      go_wp2_with fail
      refine (awake_any _).mono ?_
      rintro _ w6 ⟨rfl, hb6⟩
      have HB6 := Lib.hid (below_keep h55 hb6)
      clear hb6 h55
      go_wp2_with fail
      refine (C1 _ HB6.out).out.mono ?_
      rintro _ w7 ⟨vm, rfl, hOm, hb7⟩
      have HM := Lib.hid hOm.sl
      have HB7 := Lib.hid (below_keep HB6.out hb7)
      obtain ⟨am, cm, rfl⟩ := hOm.shape
      clear hOm hb7 HB6
      go_wp2_with fail
      refine (C2 _ HB7.out).out.mono ?_
      rintro _ w8 ⟨vn, rfl, hOn, hb8⟩
      have HS := Lib.hid (sameTups_any _ _ ta ta w8 (HM.out.below hb8) hOn.sl)
      rw [sameTups_refl] at HS
      have HB8 := Lib.hid (below_keep HB7.out hb8)
      obtain ⟨an, cn, rfl⟩ := hOn.shape
      clear hOn hb8 HB7
      go_wp2_with fail
      refine HS.out.mono ?_
      rintro _ w9 ⟨rfl, hb9⟩
      have HB9 := Lib.hid (below_keep HB8.out hb9)
      clear hb9
      go_wp2_with fail
      go_ret
      exact ⟨rfl, HB5.out.trans (HB9.out.mono HB5.out.size)⟩
end Go.Proofs.Ytminnkihcohflaa
