/- A part of the proofs of the laws of chapter 19: Pou. No condition beside sizes. -/
import Derived.Test.YtminnkihcohflaaMgR
import Derived.Test.YtminnkihcohflaaMgAA
import Derived.Test.YtminnkihcohflaaMgZ
import Derived.Deep.DeepCutAuto
namespace Go.Proofs.Ytminnkihcohflaa
open Go.RowKit Go.Lib Go.Maps Go.Shelf

set_option maxHeartbeats 8000000 in
set_option maxRecDepth 100000 in
theorem out_walk (v : Value) (l : List U6) (c1 c2 x0 x1 x2 x3 t : Nat) (rm : Bool) (w : World) (hv : Sl u6E w free v l) (hok : ∀ x ∈ l, x.ok) (h1 : c1 < 65536) (h2 : c2 < 65536) (g0 : x0 < 65536) (g1 : x1 < 65536) (g2 : x2 < 65536) (g3 : x3 < 65536) (ht : t < 65536) :
    Calls Try.prog 11 #[v, .int .u16 (c1 : Int), .int .u16 (c2 : Int), .agg #[.int .u16 (x0 : Int), .int .u16 (x1 : Int), .int .u16 (x2 : Int), .int .u16 (x3 : Int)], .bool rm, .int .u16 (t : Int)] w fun e' w' => e' = .returned (.bool true) ∧ Below w.heap.size w w' := by
  have CP := fun W => Lib.hid (period_any c1 c2 h1 h2 W)
  obtain ⟨plo, hplo⟩ : ∃ q, q = (gper c1 c2).1 := ⟨_, rfl⟩
  obtain ⟨phi, hphi⟩ : ∃ q, q = (gper c1 c2).2 := ⟨_, rfl⟩
  rw [← hplo, ← hphi] at CP
  have HPI : Hid (0 ≤ plo ∧ plo < phi ∧ phi ≤ 1000000) := by
    have := gper_ok c1 c2
    rw [← hplo, ← hphi] at this
    exact ⟨this.1, this.2.2.1, this.2.2.2⟩
  have hb0 := below_alloc w (.cells #[.int .u16 (x0 : Int), .int .u16 (x1 : Int), .int .u16 (x2 : Int), .int .u16 (x3 : Int)] 74)
  have CC := Lib.hid (curV_any v l _ (hv.below hb0) hok)
  obtain ⟨xs, hxs⟩ : ∃ xs, xs = l.take 10 := ⟨_, rfl⟩
  rw [← hxs] at CC
  have hx10 : xs.length ≤ 10 := by rw [hxs, List.length_take]; omega
  have HX10 := Lib.hid hx10
  have hbx := World.alloc_heap_new w (.cells #[.int .u16 (x0 : Int), .int .u16 (x1 : Int), .int .u16 (x2 : Int), .int .u16 (x3 : Int)] 74)
  have HB0 := Lib.hid hb0
  have HBX := Lib.hid hbx
  obtain ⟨day, hday⟩ : ∃ d : Int, d = (t : Int) % 60 := ⟨_, rfl⟩
  have hd1 : (t : Int) % 60 = day := hday.symm
  have hd2 : 0 ≤ day ∧ day < 60 := by omega
  have hd3 : IntKind.i64.wrap day = day := IntWalk.i64_in _ (by omega)
  clear hx10 hxs hv hok hplo hphi h1 h2 hb0 hbx hday
  go_enter Try.func11, Try.ntmps11
  go_wp2_with fail
  refine CC.out.mono ?_
  rintro _ w1 ⟨vl, rfl, hl, hb1⟩
  obtain ⟨L, hL⟩ : ∃ L, L = curL xs := ⟨_, rfl⟩
  rw [← hL] at hl
  have HL := Lib.hid hl.sl
  have HB1 := Lib.hid (HB0.out.trans (hb1.mono HB0.out.size))
  have HBX1 := Lib.hid (box_kept HBX.out hb1)
  have HLL := Lib.hid hL
  clear hl hb1 CC hL HB0 HBX
  go_wp2_with fail
  refine (CP _).out.mono ?_
  rintro _ w2 ⟨rfl, hb2⟩
  have HL2 := Lib.hid (HL.out.below hb2)
  have HB2 := Lib.hid (below_keep HB1.out hb2)
  have HBX2 := Lib.hid (box_kept HBX1.out hb2)
  clear hb2 HL HB1 CP HBX1
  have hgd := World.alloc_heap_new w2 (.cells #[.int .i64 plo, .int .i64 phi] 31)
  have hbd := below_alloc w2 (.cells #[.int .i64 plo, .int .i64 phi] 31)
  obtain ⟨w3, hw3⟩ : ∃ w3, w3 = w2.alloc (.cells #[.int .i64 plo, .int .i64 phi] 31) := ⟨_, rfl⟩
  rw [← hw3] at hgd hbd
  have HL3 := Lib.hid (HL2.out.below hbd)
  have HB3 := Lib.hid (below_keep HB2.out hbd)
  have hx3 := box_kept HBX2.out hbd
  obtain ⟨⟨b0, b1, b2, b3⟩, _, _, _, _⟩ := box_four hx3
  obtain ⟨d0, d1, _, _⟩ := box_two hgd
  have HW := Lib.hid hw3
  rw [hw3] at d0 d1 b0 b1 b2 b3
  clear hgd hbd HL2 HB2 hw3 hx3 HBX2
  go_upto_region 2 with fail
  rw [← HW.out] at d0 d1 b0 b1 b2 b3 ⊢
  clear HW
  obtain ⟨q, hq⟩ : ∃ q, q = decide (plo ≤ day ∧ day < phi) := ⟨_, rfl⟩
  have HQ := Lib.hid hq
  clear hq
  go_cut [38] (fun s38 wx => s38 = .bool q ∧ Hid (wx = w3))
  case first =>
    by_cases k1 : plo ≤ day
    · by_cases k2 : day < phi
      · go_wp2_with fail
        go_meet
        exact ⟨by rw [HQ.out]; congr 1; simp [k1, k2], Lib.hid rfl⟩
      · go_wp2_with fail
        go_meet
        exact ⟨by rw [HQ.out]; congr 1; simp; omega, Lib.hid rfl⟩
    · go_wp2_with fail
      go_meet
      exact ⟨by rw [HQ.out]; congr 1; simp; omega, Lib.hid rfl⟩
  case rest =>
    obtain ⟨rfl, hwx⟩ := hcut
    have e := hwx.out
    subst e
    clear hwx
    cases q
    · have hin : ¬ (plo ≤ day ∧ day < phi) := by have := HQ.out; simpa using this.symm
      have HIN := Lib.hid hin
      clear hin HQ
      go_upto_region 4 with fail
      obtain ⟨w3, rfl⟩ : ∃ w3 : World, w3 = wc := ⟨_, rfl⟩
      have hbb : Below w3.heap.size w3 w3 := .refl _ _
      go_cut [16, 17] (fun s16 s17 wx => ∃ ex : List GExp, Own expE wx w3.heap.size s16 ex ∧ s17 = .int .i64 ((ex.length : Int) - 1) ∧ PredOk ex ∧ Hid (Below w3.heap.size w3 wx))
      case first =>
        go_region_held3 (fun W => Below w3.heap.size w3 W ∧ W.cell? ⟨w.heap.size, 0, none⟩ = some (.int .u16 (x0 : Int)) ∧ W.cell? ⟨w.heap.size, 1, none⟩ = some (.int .u16 (x1 : Int)) ∧ W.cell? ⟨w.heap.size, 2, none⟩ = some (.int .u16 (x2 : Int)) ∧ W.cell? ⟨w.heap.size, 3, none⟩ = some (.int .u16 (x3 : Int)))
          ((go_split_ands; refine ⟨?_, ?_, ?_, ?_, ?_⟩ <;> (first | with_reducible assumption | with_reducible exact Below.drew (by assumption) | with_reducible exact cell_drew (by assumption) | with_reducible exact below_keep (by assumption) (by assumption) | with_reducible exact cell_keep (by assumption) (by assumption))))
          (first
            | (go_at_call 40; refine (kinds_any _).mono ?_; rintro e' wK ⟨vk, rfl, hkK, hbK⟩)
            | (go_at_call 39; go_split_ands; refine (pred_any vk x0 x1 x2 x3 g0 g1 g2 g3 _ (by first | exact hkK | exact hkK.below (Below.refl _ _).drew)).mono ?_; rintro e' wP ⟨ve, ex, rfl, hoP, hokP, hbP⟩))
        all_goals (
          go_split_ands
          go_wp2_with fail
          go_meet
          exact ⟨ex, hoP.mono (Nat.le_trans (Nat.le_refl _) hbK.size), rfl, hokP, Lib.hid (by assumption)⟩)
      case rest =>
        obtain ⟨ex, hO, rfl, hPO, HB4⟩ := hcut
        obtain ⟨ao, co, rfl⟩ := hO.shape
        obtain ⟨n, hn⟩ : ∃ n, n = ex.length := ⟨_, rfl⟩
        rw [← hn] at hO ⊢
        have hn4 : n ≤ 4 := by rw [hn]; exact hPO.2
        have p0 := cell_keep HB4.out d0
        have p1 := cell_keep HB4.out d1
        have HO := Lib.hid hO
        have HN := Lib.hid hn
        have hnb : ∀ j, (Value.slice ao n co).ownBlock = some j → w3.heap.size ≤ j := fun j hj => (hO.lt j hj).1
        have hlw : w2.heap.size < w3.heap.size := World.block_lt_of_cell? _ _ d0
        clear hO hn hbb b0 b1 b2 b3 d0 d1
        go_upto_region 6 with (at_builtin; refine wpList_push rfl (.tmp 46) (.tmp 48) 32 rfl expE Try.underlying32 w3.heap.size (.slice ao n co) ex rfl HO.out [⟨1, 0, 0, 0, gnull⟩] #[.int .i64 1, .int .i64 0, .int .i64 0, .int .i64 0, .int .i64 0, .int .i64 0, .string ⟨#[]⟩] (Els.one rfl) 1 1 rfl rfl (by decide) (by have := HN.out; unfold maxLen; omega) (by have := HN.out; show (_ + 1) * 64 ≤ _; omega) HB4.out.size ?_; intro g cap w5 hP hPa)
        rw [← HN.out]
        obtain ⟨es, hes⟩ : ∃ es, es = ex ++ [(⟨1, 0, 0, 0, gnull⟩ : GExp)] := ⟨_, rfl⟩
        rw [← hes] at hP
        have hesl : es.length = n + 1 := by rw [hes, List.length_append, HN.out]; rfl
        have hesc : ∀ x ∈ es, In64 x.c.n := by
          rw [hes]
          intro x hx
          rcases List.mem_append.1 hx with h | h
          · exact hPO.1 x h
          · simp at h; subst h; exact in64_null
        have HE5 := Lib.hid (hP.own' hesl).sl
        have HB5 : Hid (Below w3.heap.size w3 w5) := Lib.hid (HB4.out.trans hP.below)
        have q0 := hP.cell (fun e => by have := hnb _ e.symm; dsimp at this; omega) p0
        have q1 := hP.cell (fun e => by have := hnb _ e.symm; dsimp at this; omega) p1
        have HSL : Hid (Sl verE w3 (fun k => w3.heap.size ≤ k) vl L) := Lib.hid (HL3.out.old (Nat.le_refl _))
        have hL10 : L.length ≤ 10 := by rw [HLL.out, curL_length]; exact HX10.out
        obtain ⟨st, hst⟩ : ∃ st : List Asg, st = [⟨0, (n : Int)⟩] := ⟨_, rfl⟩
        obtain ⟨cl, hcl⟩ : ∃ cl, cl = (affV plo phi es ((n : Int) - 1) L).map Ver.id := ⟨_, rfl⟩
        have CU : ∀ W vs, Below w3.heap.size w3 W → Sl expE W free (.slice (some ⟨g, 0, none⟩) (n + 1) cap) es → Sl asgE W free vs st → Hid (Calls Try.prog 23 #[vl, .agg #[.int .i64 plo, .int .i64 phi], .slice (some ⟨g, 0, none⟩) (n + 1) cap, .int .i64 ((n : Int) - 1), vs] W (RetDelta w3.heap.size W cl ((affV plo phi es ((n : Int) - 1) L).flatMap (partsV plo phi (some (asgV es st)))))) := fun W vs hW he hs => hcl ▸ upd_m vl _ vs L plo phi es ((n : Int) - 1) st w3.heap.size W hW.size (HSL.out.below hW) he (by omega) (by omega) hesc (HLL.out ▸ curL_n) (HLL.out ▸ curL_len) hs
        have CD : ∀ W, Below w3.heap.size w3 W → Sl expE W free (.slice (some ⟨g, 0, none⟩) (n + 1) cap) es → Hid (Calls Try.prog 21 #[vl, .agg #[.int .i64 plo, .int .i64 phi], .slice (some ⟨g, 0, none⟩) (n + 1) cap, .int .i64 ((n : Int) - 1)] W (RetDelta w3.heap.size W cl ((affV plo phi es ((n : Int) - 1) L).flatMap (partsV plo phi none)))) := fun W hW he => hcl ▸ del_m vl _ L plo phi es ((n : Int) - 1) w3.heap.size W hW.size (HSL.out.below hW) he (by omega) (by omega) hesc (HLL.out ▸ curL_n) (HLL.out ▸ curL_len)
        have HLT := Lib.hid hL10
        have HCL := Lib.hid hcl
        have HST := Lib.hid hst
        have hn1 : IntKind.i64.wrap ((n : Int) + 1 - 1) = n := by rw [show (n : Int) + 1 - 1 = n by omega]; exact IntWalk.i64_in _ (by omega)
        have hb5 := below_alloc w5 (.cells #[.int .i64 0, .int .i64 (n : Int)] 83)
        have HSA : Hid (Sl asgE (w5.alloc (.cells #[.int .i64 0, .int .i64 (n : Int)] 83)) free (.slice (some ⟨w5.heap.size, 0, none⟩) 1 1) st) := Lib.hid (by rw [HST.out]; exact Sl.of_block (n := 1) (m := 1) (World.alloc_heap_new w5 _) (Els.one rfl) id rfl (by simp) (by simp))
        have CU' := Lib.hid (CU _ _ (HB5.out.trans (hb5.mono HB5.out.size)) (HE5.out.below hb5) HSA.out).out
        have HBA : Hid (Below w3.heap.size w3 (w5.alloc (.cells #[.int .i64 0, .int .i64 (n : Int)] 83))) := Lib.hid (HB5.out.trans (hb5.mono HB5.out.size))
        have CD' := Lib.hid CD
        clear CU CD hL10 hcl hst hP hPa hes hesl hesc p0 p1 HSA hb5 HO HL3
        go_wp2_with fail
        refine CU'.mono ?_
        rintro _ w6 ⟨vcU, vaU, rfl, hcU, haU, hbU⟩
        obtain ⟨acU, ccU, rfl⟩ := hcU.shape
        obtain ⟨aaU, caU, rfl⟩ := haU.shape
        have hb6 := below_keep HBA.out hbU
        have HE6 : Hid (Sl expE w6 free (.slice (some ⟨g, 0, none⟩) (n + 1) cap) es) := Lib.hid ((HE5.out.below (below_alloc w5 _)).below hbU)
        have r0 := cell_keep hbU (cell_alloc q0)
        have r1 := cell_keep hbU (cell_alloc q1)
        obtain ⟨adU, hadU⟩ : ∃ x, x = (affV plo phi es ((n : Int) - 1) L).flatMap (partsV plo phi (some (asgV es st))) := ⟨_, rfl⟩
        rw [← hadU] at haU ⊢
        have HDU := Lib.hid (delta_made rfl rfl hb6.size hcU haU hb6)
        have HADU := Lib.hid hadU
        obtain ⟨w7, hw7⟩ : ∃ w7, w7 = w6.alloc (.cells #[.slice acU cl.length ccU, .slice aaU adU.length caU] 38) := ⟨_, rfl⟩
        have hb67 : Below w6.heap.size w6 w7 := by rw [hw7]; exact below_alloc _ _
        have s0 := cell_keep hb67 r0
        have s1 := cell_keep hb67 r1
        have HE7 := Lib.hid (HE6.out.below hb67)
        have hgd : w3.heap.size ≤ w6.heap.size := hb6.size
        have hgne : w6.heap.size ≠ w2.heap.size := by omega
        obtain ⟨k0, k1, f0, f1⟩ := box_two (show w7.heap[w6.heap.size]? = some (.cells #[.slice acU cl.length ccU, .slice aaU adU.length caU] 38 (0, 0)) by rw [hw7]; exact World.alloc_heap_new _ _)
        have hb7 := below_keep hb6 hb67
        rw [← hw7] at HDU
        have HW := Lib.hid hw7
        clear hcU haU hbU hb6 HE6 HE5 hadU CU' HBA HB5 q0 q1 r0 r1 hw7 hb67
        go_upto_if 60 with fail
        rw [← HW.out]
        clear HW
        go_cut [] (fun wx => ∃ chg : Option (List GVal → List GVal), (∀ f, chg = some f → f = asgV es st) ∧ DeltaAt w3.heap.size w3 cl ((affV plo phi es ((n : Int) - 1) L).flatMap (partsV plo phi chg)) (.pointer (some ⟨w6.heap.size, 0, none⟩)) wx)
        case first =>
          cases rm
          · go_wp2_with fail
            go_meet
            exact ⟨some (asgV es st), (by rintro f ⟨⟩; rfl), HADU.out ▸ HDU.out⟩
          · go_wp2_with fail
            refine (CD'.out _ hb7 HE7.out).out.mono ?_
            rintro _ w8 ⟨vcD, vaD, rfl, hcD, haD, hbD⟩
            obtain ⟨acD, ccD, rfl⟩ := hcD.shape
            obtain ⟨aaD, caD, rfl⟩ := haD.shape
            have hbW := below_keep hb7 hbD
            have y0 := cell_keep hbD k0
            have y1 := cell_keep hbD k1
            have z0 := frozen_hold hbD k0 f0
            have z1 := frozen_hold hbD k1 f1
            have hga : w6.heap.size < w7.heap.size := World.block_lt_of_cell? w7 _ k0
            obtain ⟨adD, hadD⟩ : ∃ x, x = (affV plo phi es ((n : Int) - 1) L).flatMap (partsV plo phi none) := ⟨_, rfl⟩
            rw [← hadD] at haD ⊢
            have HD8 := Lib.hid (delta_old rfl rfl y0 y1 z0 z1 hgd (sl_off hcD ⟨hgd, hga⟩) (sl_off haD ⟨hgd, hga⟩) hbW)
            have HADD := Lib.hid hadD
            clear hcD haD hbD hadD hbW
            go_wp2_with fail
            go_meet
            exact ⟨none, (by intro f hf; cases hf), HADD.out ▸ HD8.out⟩
        case rest =>
          clear HDU k0 k1 f0 f1 s0 s1 HE7 CD' hb7
          obtain ⟨chg, hchg, gd', a1, c1', a2, c2', e, hgd', k0, k1, f0, f1, hcc, haa, hbx⟩ := hcut
          cases e
          have hLe := HLL.out
          have hcur : Cur L := by rw [hLe]; exact curL_rec
          have hfit : Fit L 2 100 := by rw [hLe]; exact curL_fit xs 2 100 (by decide) (by have := HX10.out; omega)
          obtain ⟨ad, had⟩ : ∃ ad, ad = (affV plo phi es ((n : Int) - 1) L).flatMap (partsV plo phi chg) := ⟨_, rfl⟩
          rw [← had] at haa k1
          have hAE : applyE L cl ad 2 100 = 0 := by rw [HCL.out, had]; exact edit_e plo phi es _ chg L 2 100 hfit (by decide) (by decide) (by decide) (by decide)
          have hROW : sortR (atDay (atT (applyL L cl ad 2 100) 2) day) = sortR (atDay (atT L 2) day) := by rw [HCL.out, had]; exact rows_out plo phi es _ chg L 2 100 day hcur hfit (by decide) (by decide) HIN.out
          have hl10 : L.length ≤ 10 := HLT.out
          have hcl10 : cl.length ≤ 10 := by rw [HCL.out, List.length_map]; exact Nat.le_trans (affV_len L) hl10
          have had30 : ad.length ≤ 30 := by
            have h1 := parts_len (plo := plo) (phi := phi) chg (affV plo phi es ((n : Int) - 1) L)
            have h2 := affV_len (plo := plo) (phi := phi) (e := es) (pred := (n : Int) - 1) L
            rw [had]; omega
          have hvl : ∀ x ∈ L, x.vals.length ≤ 1000 := by rw [hLe]; exact curL_len
          have hal : ∀ x ∈ ad, x.vals.length ≤ 1000 := by
            rw [had]
            exact parts_vals' chg (fun f hf r => by rw [hchg f hf]; exact asgV_len _ _ _) _ (fun x hx => hvl x (affV_mem hx).1)
          have hci : ∀ x ∈ cl, In64 x := by
            rw [HCL.out]
            intro x hx
            obtain ⟨v', hv', rfl⟩ := List.mem_map.1 hx
            rw [hLe] at hv'
            exact curL_id (by have := HX10.out; omega) v' (affV_mem hv').1
          have hAL : (applyL L cl ad 2 100).length ≤ 1000 := by
            unfold applyL
            rw [List.length_append, newV_length]
            have := keepOne_length cl 2 L
            omega
          have hAV : ∀ x ∈ applyL L cl ad 2 100, x.vals.length ≤ 1000 := applyL_vals hvl hal
          have hT1 := atT_small hAV 2
          have hT2 := atT_small hvl 2
          have hTL : (atT (applyL L cl ad 2 100) 2).length ≤ 100000 := Nat.le_trans (atT_len _ _) (by omega)
          have hTL2 : (atT L 2).length ≤ 100000 := Nat.le_trans (atT_len _ _) (by omega)
          have AP : Hid (Calls Try.prog 25 #[vl, .agg #[.slice a1 cl.length c1', .slice a2 ad.length c2'], .int .i64 2, .int .i64 100] wc fun e w' => ∃ vo, e = .returned (.tuple #[vo, .int .i64 0]) ∧ Sl verE w' free vo (applyL L cl ad 2 100) ∧ Below wc.heap.size wc w') := by
            refine (apply_ver vl _ _ L cl ad 2 100 wc (HSL.out.below hbx).free hcc.free haa.free (by omega) (by omega) (by omega) (by rw [hLe]; exact curL_id (by have := HX10.out; omega)) hci hvl hal).mono ?_
            rintro e w' ⟨r, HR, h1, _, hb⟩
            obtain ⟨vo, he, hs⟩ := h1 (HR.out.trans hAE)
            exact ⟨vo, he, hs, hb⟩
          have HL := Lib.hid (HSL.out.below hbx).free
          have HBX : Hid (Below w.heap.size w wc) := HB3.out.trans (hbx.mono HB3.out.size)
          obtain ⟨lo, hlo⟩ : ∃ lo, lo = applyL L cl ad 2 100 := ⟨_, rfl⟩
          rw [← hlo] at hROW hAL hT1 hTL AP
          obtain ⟨tm, htm⟩ : ∃ t, t = atT lo 2 := ⟨_, rfl⟩
          obtain ⟨tl, htl⟩ : ∃ t, t = atT L 2 := ⟨_, rfl⟩
          rw [← htm] at hROW hT1 hTL
          rw [← htl] at hROW hT2 hTL2
          obtain ⟨rows, hrows⟩ : ∃ r, r = sortR (atDay tl day) := ⟨_, rfl⟩
          rw [← hrows] at hROW
          have HROW := Lib.hid hROW
          have HROWS := Lib.hid hrows
          have HT1 := Lib.hid hT1
          have HT2 := Lib.hid hT2
          have HTM := Lib.hid htm
          have HTL := Lib.hid htl
          have HAL := Lib.hid hAL
          have HTLN := Lib.hid hTL
          have HTLN2 := Lib.hid hTL2
          clear hLe hcur hfit had hAE hROW hl10 hcl10 had30 hvl hal hci hAL hAV hT1 hT2 hcc haa hbx hchg HSL HB3 hrows htm htl hlo hTL hTL2
          go_wp2_with fail
          refine AP.out.mono ?_
          rintro _ w9 ⟨vo, rfl, hvo, hb9⟩
          have HVO := Lib.hid hvo
          have HL9 := Lib.hid (HL.out.below hb9)
          have HB9 : Hid (Below w.heap.size w w9) := HBX.out.trans (hb9.mono HBX.out.size)
          obtain ⟨ao', co', rfl⟩ := hvo.shape
          obtain ⟨al, cl', rfl⟩ := HL9.out.shape
          clear hvo hb9 AP HL HBX k0 k1 f0 f1
          go_wp2_with fail
          refine (awake_any _).mono ?_
          rintro _ w10 ⟨rfl, hb10⟩
          have HB10 := Lib.hid (below_keep HB9.out hb10)
          have HC1 := Lib.hid (atT_any _ lo 2 w10 (HVO.out.below hb10) HAL.out)
          have HL10 := Lib.hid (HL9.out.below hb10)
          rw [← HTM.out] at HC1
          clear hb10 HL9 HVO
          go_wp2_with fail
          refine HC1.out.mono ?_
          rintro _ w11 ⟨vm, rfl, hOm, hb11⟩
          obtain ⟨am, cm, rfl⟩ := hOm.shape
          have HB11 := Lib.hid (below_keep HB10.out hb11)
          have HL11 := Lib.hid (HL10.out.below hb11)
          have HS1 := Lib.hid (timeslice_any _ tm day w11 hOm.sl HTLN.out HT1.out)
          rw [HROW.out] at HS1
          clear hOm hb11 HC1 HL10
          go_wp2_with fail
          refine HS1.out.mono ?_
          rintro _ w12 ⟨vr, rfl, hOr, hb12⟩
          obtain ⟨ar, cr, rfl⟩ := hOr.shape
          have HB12 := Lib.hid (below_keep HB11.out hb12)
          have HR12 := Lib.hid hOr.sl
          have HC2 := Lib.hid (atT_any _ L 2 w12 (HL11.out.below hb12) (by have := HLT.out; omega))
          rw [← HTL.out] at HC2
          clear hOr hb12 HS1 HL11
          go_wp2_with fail
          refine HC2.out.mono ?_
          rintro _ w13 ⟨vn, rfl, hOn, hb13⟩
          obtain ⟨an, cn, rfl⟩ := hOn.shape
          have HB13 := Lib.hid (below_keep HB12.out hb13)
          have HR13 := Lib.hid (HR12.out.below hb13)
          have HS2 := Lib.hid (timeslice_any _ tl day w13 hOn.sl HTLN2.out HT2.out)
          rw [← HROWS.out] at HS2
          clear hOn hb13 HC2 HR12
          go_wp2_with fail
          refine HS2.out.mono ?_
          rintro _ w14 ⟨vq, rfl, hOq, hb14⟩
          obtain ⟨aq, cq, rfl⟩ := hOq.shape
          have HB14 := Lib.hid (below_keep HB13.out hb14)
          have HSM := Lib.hid (sameRows_eq _ _ rows w14 (HR13.out.below hb14) hOq.sl)
          clear hOq hb14 HS2 HR13
          go_wp2_with fail
          refine HSM.out.mono ?_
          rintro _ w15 ⟨rfl, hb15⟩
          have HB15 := Lib.hid (below_keep HB14.out hb15)
          clear hb15
          go_wp2_with fail
          go_ret
          exact ⟨rfl, HB15.out⟩
    · go_wp2_with fail
      refine (awake_any _).mono ?_
      rintro _ w4 ⟨rfl, hb4⟩
      have HB4 := Lib.hid (below_keep HB3.out hb4)
      clear hb4
      go_wp2_with fail
      go_ret
      exact ⟨rfl, HB4.out⟩
end Go.Proofs.Ytminnkihcohflaa
