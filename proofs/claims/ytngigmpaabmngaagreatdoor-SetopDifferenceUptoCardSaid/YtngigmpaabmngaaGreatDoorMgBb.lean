/- A part of the proofs: Rin, Rnp, Rnm, Rts, Rlv, Rno, Frw, Frr, Bin, Sfw. No condition beside sizes and tables that read as laid. -/
import Derived.Test.YtngigmpaabmngaaGreatDoorMgAd
import Derived.Test.YtngigmpaabmngaaGreatDoorMgBa
import Derived.Test.YtngigmpaabmngaaGreatDoorMgAa
import Derived.Deep.DeepCutAuto
import Derived.Test.YtngigmpaabmngaaGreatDoorMgAf
import Derived.Test.YtngigmpaabmngaaGreatDoorMgAb
import Derived.Test.YtngigmpaabmngaaGreatDoorMgAe
import Derived.BigQuiet
namespace Go.Proofs.YtngigmpaabmngaaGreatDoor
open Go.RowKit Go.Lib

theorem insP_at : ∀ {N : List (Int × Int)} {p : Int × Int} {k : Nat}, (∀ i q, i < k → N[i]? = some q → q.2 < p.1) → (∀ q, N[k]? = some q → ¬ q.2 < p.1) → k ≤ N.length → insP N p = N.take k ++ mergeP p (N.drop k)
  | [], p, k, _, _, h => by simp [insP, mergeP]
  | q :: r, p, 0, _, h, _ => by have := h q rfl; rw [insP, if_neg this]; rfl
  | q :: r, p, k + 1, h1, h2, h3 => by
    rw [insP, if_pos (h1 0 q (by omega) rfl), insP_at (k := k) (fun i y hi hy => h1 (i + 1) y (by omega) (by simpa using hy)) (fun y hy => h2 y (by simpa using hy)) (by simpa using h3)]
    rfl
theorem mergeP_step {N : List (Int × Int)} {p q : Int × Int} {j : Nat} (h : N[j]? = some q) (hc : q.1 ≤ p.2) : mergeP p (N.drop j) = mergeP (min p.1 q.1, max p.2 q.2) (N.drop (j + 1)) := by
  obtain ⟨hj, rfl⟩ := List.getElem?_eq_some_iff.1 h
  rw [List.drop_eq_getElem_cons hj, mergeP, if_pos hc]
theorem mergeP_end {N : List (Int × Int)} {p : Int × Int} {j : Nat} (h : ∀ q, N[j]? = some q → ¬ q.1 ≤ p.2) : mergeP p (N.drop j) = p :: N.drop j := by
  rcases Nat.lt_or_ge j N.length with hj | hj
  · rw [List.drop_eq_getElem_cons hj, mergeP, if_neg (h _ (List.getElem?_eq_getElem hj))]
  · rw [List.drop_eq_nil_of_le hj]; rfl
/-- A box of two whole numbers. -/
structure Box2 (w : World) (g : Nat) (x y : Int) : Prop where
  c0 : w.cell? ⟨g, 0, none⟩ = some (.int .i64 x)
  c1 : w.cell? ⟨g, 1, none⟩ = some (.int .i64 y)
  f0 : w.frozen? ⟨g, 0, none⟩ = false
  f1 : w.frozen? ⟨g, 1, none⟩ = false
theorem Box2.drew {w : World} {g : Nat} {x y : Int} (h : Box2 w g x y) : Box2 w.drew g x y := ⟨h.c0, h.c1, h.f0, h.f1⟩
theorem Box2.set0 {w : World} {g : Nat} {x y : Int} (h : Box2 w g x y) (z : Int) : Box2 (w.setCell ⟨g, 0, none⟩ (.int .i64 z)) g z y :=
  ⟨World.cell?_setCell_same _ _ _ h.c0, by rw [World.cell?_setCell_other _ _ _ _ (by intro e; cases e)]; exact h.c1, by simp [h.f0], by simp [h.f1]⟩
theorem Box2.set1 {w : World} {g : Nat} {x y : Int} (h : Box2 w g x y) (z : Int) : Box2 (w.setCell ⟨g, 1, none⟩ (.int .i64 z)) g x z :=
  ⟨by rw [World.cell?_setCell_other _ _ _ _ (by intro e; cases e)]; exact h.c0, World.cell?_setCell_same _ _ _ h.c1, by simp [h.f0], by simp [h.f1]⟩
theorem Kept.drewR {G : Nat → Prop} {w W : World} (h : Kept G w W) : Kept G w W.drew := ⟨h.1, h.2⟩
theorem Kept.setR {g j : Nat} {w W : World} {v : Value} (h : Kept (fun m => m = g) w W) : Kept (fun m => m = g) w (W.setCell ⟨g, j, none⟩ v) := h.trans (kept_set rfl)
theorem cell_lowB {B : Nat} {w W : World} {g j : Nat} {v : Value} (h : Below B w W) (hp : g < B) (_hB : B ≤ w.heap.size) (hc : w.cell? ⟨g, j, none⟩ = some v) : W.cell? ⟨g, j, none⟩ = some v :=
  Kept.cell (G := fun k => B ≤ k) ⟨h.size, fun k _ hn => h.block k (Nat.lt_of_not_le hn)⟩ (Nat.not_le_of_lt hp) hc
theorem belowB_alloc {B : Nat} {w W : World} {o : Obj} (h : Below B w W) (hB : B ≤ w.heap.size) : Below B w (W.alloc o) := h.trans ((below_alloc W o).mono (Nat.le_trans hB h.size))
set_option maxHeartbeats 8000000 in
set_option maxRecDepth 100000 in
theorem rinsert_any (v : Value) (N : List (Int × Int)) (lo hi : Int) (w : World) (hv : Sl perE w free v N) (hl : N.length ≤ 1000000) :
    Calls Tryz.prog 163 #[v, .agg #[.int .i64 lo, .int .i64 hi]] w (RetOwn perE w (insP N (lo, hi))) := by
  obtain ⟨a, c, rfl⟩ := hv.shape
  have hb0 := below_alloc w (.cells #[.int .i64 lo, .int .i64 hi] 50)
  have hbx := World.alloc_heap_new w (.cells #[.int .i64 lo, .int .i64 hi] 50)
  have hsz : (w.alloc (.cells #[.int .i64 lo, .int .i64 hi] 50)).heap.size = w.heap.size + 1 := World.size_alloc _ _
  have HV := Lib.hid (hv.old (Nat.le_refl _))
  have hcap := hv.cap
  have h63 := hv.1
  obtain ⟨n, hn⟩ : ∃ n, n = N.length := ⟨_, rfl⟩
  have HN := Lib.hid hn
  rw [← hn] at HV h63 hl hcap ⊢
  obtain ⟨W0, hW0⟩ : ∃ W0, W0 = w.alloc (.cells #[.int .i64 lo, .int .i64 hi] 50) := ⟨_, rfl⟩
  rw [← hW0] at hb0 hbx hsz
  have HB0 := Lib.hid hb0
  have HBX := Lib.hid hbx
  have HW0 := Lib.hid hW0
  have HSZ := Lib.hid hsz
  clear hv hn hb0 hbx hW0 hsz
  go_enter Tryz.func163, Tryz.ntmps163
  go_upto_region 2 with fail
  rw [← HW0.out]
  go_wp2_with fail
  go_loopw [6, 5] (fun i o wr => ∃ k : Nat, k ≤ n ∧ i = .int .i64 k ∧ Hid (∀ i q, i < k → N[i]? = some q → q.2 < lo) ∧ Own perE wr W0.heap.size o (N.take k) ∧ Hid (Below W0.heap.size W0 wr)) (fun i _ _ => n - (RowKit.intOf i).toNat)
  case atStart => exact ⟨0, Nat.zero_le _, rfl, Lib.hid (fun i q h => absurd h (Nat.not_lt_zero i)), Own.nil _ _ _, Lib.hid (.refl _ _)⟩
  case round =>
    obtain ⟨k, hk, rfl, HK, hO, HB⟩ := hrel
    obtain ⟨wo, rfl⟩ : ∃ wo : World, wo = wr := ⟨_, rfl⟩
    have hlk : (N.take k).length = k := by rw [List.length_take, ← HN.out]; omega
    obtain ⟨lk, hlke⟩ : ∃ lk, lk = N.take k := ⟨_, rfl⟩
    have HLK := Lib.hid hlke
    rw [← hlke] at hO hlk
    obtain ⟨ao, co, rfl⟩ := hO.shape
    have HL := Lib.hid hlk
    have HBW := Lib.hid (HB0.out.trans (HB.out.mono HB0.out.size))
    obtain ⟨e0, e1, f0, f1⟩ := box_two (box_kept HBX.out HB.out)
    clear hlke
    by_cases hgo : ∃ x, N[k]? = some x ∧ x.2 < lo
    · obtain ⟨x, hx, hxl⟩ := hgo
      have hlt : k < n := by rw [HN.out]; exact (List.getElem?_eq_some_iff.1 hx).1
      obtain ⟨b, o, rfl, p0, p1⟩ := pers_at (HV.out.below HBW.out) hx
      have HX := Lib.hid hx
      have HT : Hid (N.take (k + 1) = lk ++ [x]) := by show _ = _; rw [take_get hx, HLK.out]
      obtain ⟨x0, x1⟩ := x
      dsimp only at p0 p1 hxl
      clear hx
      have hbd : Below wo.heap.size wo wo.drew := (Below.refl _ _).drew
      have HOD := Lib.hid (hO.below hbd)
      have HBD := Lib.hid (below_keep HB.out hbd)
      go_wp2_with fail
      go_region
      all_goals (
        go_wp2_with (at_builtin; refine wpList_push rfl (.tmp 21) (.tmp 26) 68 rfl perE Tryz.underlying68 W0.heap.size (.slice ao lk.length co) lk rfl HOD.out [(x0, x1)] #[.int .i64 x0, .int .i64 x1] (Els.one rfl) 1 1 rfl rfl (by decide) (by have := HL.out; unfold maxLen; omega) (by have := HL.out; show _ * 16 ≤ _; omega) HBD.out.size ?_; intro g cap w5 hP hPa)
        go_roundw
        case rel =>
          refine ⟨k + 1, by omega, by go_num, Lib.hid (fun i q hi hq => ?_), by rw [HT.out]; exact hP.own' (by simp <;> omega), Lib.hid (HBD.out.trans hP.below)⟩
          rcases Nat.lt_or_ge i k with h | h
          · exact HK.out i q h hq
          · have : i = k := by omega
            subst this
            rw [HX.out] at hq; cases hq; exact hxl
        case measure => simp [RowKit.intOf]; omega)
    · have hend : ∀ q, N[k]? = some q → ¬ q.2 < lo := fun q hq h => hgo ⟨q, hq, h⟩
      have HEND : Hid (insP N (lo, hi) = lk ++ mergeP (lo, hi) (N.drop k)) := by show _ = _; rw [HLK.out]; exact insP_at HK.out hend (by rw [← HN.out]; exact hk)
      have HO := Lib.hid hO
      have hbd : Below wo.heap.size wo wo.drew := (Below.refl _ _).drew
      have HBD := Lib.hid (below_keep HBW.out hbd)
      have hcs : (k < n ∧ ∃ x0 x1 : Int, ∃ b o, a = some ⟨b, o, none⟩ ∧ wo.cell? ⟨b, o + k * 2, none⟩ = some (.int .i64 x0) ∧ wo.cell? ⟨b, o + k * 2 + 1, none⟩ = some (.int .i64 x1) ∧ ¬ x1 < lo) ∨ ¬ k < n := by
        by_cases hlt : k < n
        · obtain ⟨x, hx⟩ := lget_some N k (by rw [← HN.out]; exact hlt)
          obtain ⟨b, o, ha, p0, p1⟩ := pers_at (HV.out.below HBW.out) hx
          exact .inl ⟨hlt, x.1, x.2, b, o, ha, p0, p1, hend x hx⟩
        · exact .inr hlt
      have hkn : k ≤ n := hk
      clear hgo hO hend HK
      rcases hcs with ⟨hlt, x0, x1, b, o, rfl, p0, p1, hxl⟩ | hlt
      all_goals (
        go_wp2_with fail
        go_region
        all_goals (
        go_wp2_with fail
        go_loopw [6] (fun i wr => ∃ (j : Nat) (l2 h2 : Int), k ≤ j ∧ j ≤ n ∧ i = .int .i64 j ∧ Hid (mergeP (lo, hi) (N.drop k) = mergeP (l2, h2) (N.drop j)) ∧ wr.cell? ⟨w.heap.size, 0, none⟩ = some (.int .i64 l2) ∧ wr.cell? ⟨w.heap.size, 1, none⟩ = some (.int .i64 h2) ∧ wr.frozen? ⟨w.heap.size, 0, none⟩ = false ∧ wr.frozen? ⟨w.heap.size, 1, none⟩ = false ∧ Hid (Kept (fun m => m = w.heap.size) wo wr) ∧ Hid (Below w.heap.size w wr)) (fun i _ => n - (RowKit.intOf i).toNat)
        case atStart => exact ⟨k, lo, hi, Nat.le_refl _, hkn, rfl, Lib.hid rfl, e0, e1, f0, f1, Lib.hid ⟨Nat.le_refl _, fun _ _ _ => rfl⟩, HBD⟩
        case round =>
          try clear p0 p1
          obtain ⟨j, l2, h2, hkj, hj, rfl, HM, e0', e1', f0', f1', HKp, HBp⟩ := hrel
          obtain ⟨wp, rfl⟩ : ∃ wp : World, wp = wr := ⟨_, rfl⟩
          have HSp := Lib.hid (HV.out.below HBp.out)
          by_cases hgo : ∃ x, N[j]? = some x ∧ x.1 ≤ h2
          · obtain ⟨x, hx, hxl⟩ := hgo
            have hlt2 : j < n := by rw [HN.out]; exact (List.getElem?_eq_some_iff.1 hx).1
            by_cases hkn2 : k < n
            case neg => exfalso; omega
            case pos =>
              first
              | (exfalso; omega)
              | (
                obtain ⟨b2, o2, eb, z0, z1⟩ := pers_at HSp.out hx
                have HMS : Hid (mergeP (lo, hi) (N.drop k) = mergeP (min l2 x.1, max h2 x.2) (N.drop (j + 1))) := Lib.hid (HM.out.trans (mergeP_step hx hxl))
                obtain ⟨x2, x3⟩ := x
                dsimp only at z0 z1 hxl HMS
                cases eb
                have hbw : b < w.heap.size := by
                  obtain ⟨b3, o3, eb, y0, _⟩ := pers_at HV.out hx
                  cases eb
                  exact World.block_lt_of_cell? _ _ y0
                have hX0 : Box2 wp w.heap.size l2 h2 := ⟨e0', e1', f0', f1'⟩
                obtain ⟨W1, hW1⟩ : ∃ W1, W1 = (wp.setCell ⟨w.heap.size, 0, none⟩ (.int .i64 (min l2 x2))).drew.drew := ⟨_, rfl⟩
                have hX1 : Box2 W1 w.heap.size (min l2 x2) h2 := by rw [hW1]; exact (hX0.set0 _).drew.drew
                have hz1 : W1.cell? ⟨b, o + j * 2 + 1, none⟩ = some (.int .i64 x3) := by rw [hW1]; show (wp.setCell _ _).cell? _ = _; rw [World.cell?_setCell_far _ _ _ _ (by show w.heap.size ≠ b; omega)]; exact z1
                have hK1 : Kept (fun m => m = w.heap.size) wo W1 := by rw [hW1]; exact HKp.out.setR.drewR.drewR
                have hB1 : Below w.heap.size w W1 := by rw [hW1]; exact (HBp.out.setCell (p := ⟨w.heap.size, 0, none⟩) (Nat.le_refl _) _).drew.drew
                have q1 := hX1.c1
                have q2 := hX1.f1
                have HX1 := Lib.hid hX1
                have HK1 := Lib.hid hK1
                have HB1 := Lib.hid hB1
                have HW1 := Lib.hid hW1
                clear hx hX0 hX1 hK1 hB1
                rw [hW1] at q1 q2 hz1
                clear hW1
                go_wp2_with fail
                go_region
                all_goals go_wp2_with fail
                all_goals go_region
                all_goals (
                  rw [← HW1.out] at q1 q2 hz1 ⊢
                  go_wp2_with fail
                  go_region
                  all_goals (
                    go_wp2_with fail
                    go_roundw
                    case rel => exact ⟨j + 1, min l2 x2, max h2 x3, by omega, by omega, by go_num, HMS, (HX1.out.set1 _).c0, (HX1.out.set1 _).c1, (HX1.out.set1 _).f0, (HX1.out.set1 _).f1, Lib.hid HK1.out.setR.drewR, Lib.hid (HB1.out.setCell (p := ⟨w.heap.size, 1, none⟩) (Nat.le_refl _) _).drew⟩
                    case measure => simp [RowKit.intOf]; omega)))
          · have hend : ∀ q, N[j]? = some q → ¬ q.1 ≤ h2 := fun q hq h => hgo ⟨q, hq, h⟩
            have HRES : Hid (insP N (lo, hi) = lk ++ [(l2, h2)] ++ N.drop j) := by show _ = _; rw [HEND.out, HM.out, mergeP_end hend, List.append_assoc]; rfl
            have HOp : Hid (Own perE wp W0.heap.size (.slice ao k co) lk) := Lib.hid (by rw [← hlk]; exact HO.out.kept_flat perE_flat HKp.out (fun kk hkk e => by have := (HO.out.lt kk hkk).1; have := HSZ.out; omega))
            have HW0p : Hid (W0.heap.size ≤ wp.heap.size) := Lib.hid (Nat.le_trans HB.out.size HKp.out.1)
            have hji1 : (j : Int) ≤ (c : Int) := by omega
            have hji2 : (0 : Int) ≤ (j : Int) := by omega
            have hji3 : (j : Int) ≤ (n : Int) := by omega
            have hji4 : (n : Int) ≤ (c : Int) := by omega
            have hx0 : ∀ x, N[j]? = some x → ¬ x.1 ≤ h2 := hend
            obtain ⟨wz, hwz⟩ : ∃ wz, wz = wp.drew := ⟨_, rfl⟩
            have HBz : Hid (Below w.heap.size w wz) := Lib.hid (by rw [hwz]; exact HBp.out.drew)
            have HOz : Hid (Own perE wz W0.heap.size (.slice ao k co) lk) := Lib.hid (by rw [hwz]; exact HOp.out.drew)
            have HW0z : Hid (W0.heap.size ≤ wz.heap.size) := Lib.hid (by rw [hwz]; exact HW0p.out)
            have E0 : Hid (wz.cell? ⟨w.heap.size, 0, none⟩ = some (.int .i64 l2)) := Lib.hid (by rw [hwz]; exact e0')
            have E1 : Hid (wz.cell? ⟨w.heap.size, 1, none⟩ = some (.int .i64 h2)) := Lib.hid (by rw [hwz]; exact e1')
            have HWZ := Lib.hid hwz
            have HTOT : Hid ((lk ++ [(l2, h2)]).length + (N.drop j).length = k + 1 + (n - j)) := Lib.hid (by rw [List.length_append, List.length_drop, ← HN.out, HL.out]; rfl)
            clear hwz
            by_cases hlt2 : j < n
            case pos =>
              first
              | (exfalso; omega)
              | (
                obtain ⟨x, hx⟩ := lget_some N j (by rw [← HN.out]; exact hlt2)
                obtain ⟨b2, o2, eb, z0, z1⟩ := pers_at HSp.out hx
                have hxl := hend x hx
                obtain ⟨x2, x3⟩ := x
                dsimp only at z0 z1 hxl
                cases eb
                have HD : Hid (Sl perE w (fun mm => w.heap.size ≤ mm) (.slice (some ⟨b, o + j * 2, none⟩) (n - j) (c - j)) (N.drop j)) := by
                  have h := HV.out.dropS hj
                  rw [show j * perE.size = j * 2 from rfl] at h
                  rw [Option.map_some, Addr.add_lit] at h
                  exact h
                obtain ⟨tot, htot⟩ : ∃ t, t = k + 1 + (n - j) := ⟨_, rfl⟩
                have HTO3 : Hid ((lk ++ [(l2, h2)]).length + (N.drop j).length = tot) := Lib.hid (by rw [HTOT.out, htot])
                have htl : tot ≤ 2000003 := by omega
                have hck : ¬ c = j := by omega
                have hck2 : ¬ j = c := by omega
                have hck3 : ¬ n - j = 0 := by omega
                have hck4 : ¬ c - j = 0 := by omega
                clear hx hend hx0 hgo htot
                go_wp2_with fail
                go_region
                all_goals go_wp2_with fail
                all_goals (
                  rw [← HWZ.out]
                  go_region_held3 (fun W => Below W0.heap.size wz W ∧ W.cell? ⟨w.heap.size, 0, none⟩ = some (.int .i64 l2) ∧ W.cell? ⟨w.heap.size, 1, none⟩ = some (.int .i64 h2))
                    ((refine (fun hBB => ⟨hBB, cell_lowB hBB (by have := HSZ.out; omega) HW0z.out E0.out, cell_lowB hBB (by have := HSZ.out; omega) HW0z.out E1.out⟩) ?_; go_split_ands; first | with_reducible assumption | exact (Below.refl _ _).drew | exact Below.refl _ _ | exact Below.drew (by assumption) | exact belowB_alloc (by assumption) HW0z.out | exact belowB_alloc (Below.refl _ _).drew HW0z.out | exact Below.trans (by assumption) (Joined.below (by assumption)) | exact Below.trans (by assumption) (Pushed.below (by assumption)) | exact Below.trans (Below.refl _ _).drew (Pushed.below (by assumption))))
                    (first
                      | (refine step_push rfl (.tmp 64) (.tmp 66) 68 rfl perE Tryz.underlying68 W0.heap.size (.slice ao k co) lk rfl HOz.out.drew [(l2, h2)] #[.int .i64 l2, .int .i64 h2] (Els.one rfl) 1 1 rfl rfl (by decide) (by unfold maxLen; omega) (by show _ * 16 ≤ _; omega) HW0z.out ?_; intro g cap w2 hP hPa)
                      | (refine step_join rfl (.tmp 67) (.tmp 70) 68 rfl perE Tryz.underlying68 W0.heap.size (.slice (some ⟨g, 0, none⟩) (lk.length + 1) cap) (.slice (some ⟨b, o + j * 2, none⟩) (n - j) (c - j)) (lk ++ [(l2, h2)]) (N.drop j) (by first | rfl | (rw [hlk]; rfl)) rfl (hP.own' (by simp)) ((HD.out.below (HBz.out.trans (Below.mono (by go_split_ands; assumption : Below W0.heap.size wz _) HB0.out.size))).mono (fun mm _ hh => Nat.le_trans HB0.out.size ((hP.own' (n := lk.length + 1) (by simp)).lt mm hh.symm).1)) (by rw [HTO3.out]; unfold maxLen; omega) (by rw [HTO3.out]; show _ * 16 ≤ _; omega) (Nat.le_trans HW0z.out (Below.size (by go_split_ands; assumption : Below W0.heap.size wz _))) tot HTO3.out ?_; intro x3 y3 w3 hJ3))
                  all_goals (
                    have hb9 : Below W0.heap.size wz w3 := by go_split_ands; assumption
                    have HB9 := Lib.hid (HBz.out.trans (hb9.mono HB0.out.size))
                    have HO9 := Lib.hid (hJ3.own.mono HB0.out.size)
                    go_wp2_with fail
                    go_ret
                    exact ⟨_, rfl, by rw [HRES.out]; exact HO9.out, HB9.out⟩)))
            case neg =>
              have HTO2 : Hid ((lk ++ [(l2, h2)]).length + (N.drop j).length = k + 1) := Lib.hid (by rw [HTOT.out]; omega)
              by_cases hck : c = j
              · have hck' := hck.symm
                subst hck'
                have HD : ∀ a, Hid (Sl perE w (fun mm => w.heap.size ≤ mm) (.slice a 0 0) (N.drop j)) := fun a => Sl.none_left (by rw [← HN.out]; omega) rfl
                clear hend hx0 hgo
                first
                | (
                  replace HD := HD (some ⟨b, o, none⟩)
                  go_wp2_with fail
                  go_region
                  all_goals go_wp2_with fail
                  all_goals (
                    rw [← HWZ.out]
                    go_region_held3 (fun W => Below W0.heap.size wz W ∧ W.cell? ⟨w.heap.size, 0, none⟩ = some (.int .i64 l2) ∧ W.cell? ⟨w.heap.size, 1, none⟩ = some (.int .i64 h2))
                      ((refine (fun hBB => ⟨hBB, cell_lowB hBB (by have := HSZ.out; omega) HW0z.out E0.out, cell_lowB hBB (by have := HSZ.out; omega) HW0z.out E1.out⟩) ?_; go_split_ands; first | with_reducible assumption | exact (Below.refl _ _).drew | exact Below.refl _ _ | exact Below.drew (by assumption) | exact belowB_alloc (by assumption) HW0z.out | exact belowB_alloc (Below.refl _ _).drew HW0z.out | exact Below.trans (by assumption) (Joined.below (by assumption)) | exact Below.trans (by assumption) (Pushed.below (by assumption)) | exact Below.trans (Below.refl _ _).drew (Pushed.below (by assumption))))
                      (first
                        | (refine step_push rfl (.tmp 64) (.tmp 66) 68 rfl perE Tryz.underlying68 W0.heap.size (.slice ao k co) lk rfl HOz.out.drew [(l2, h2)] #[.int .i64 l2, .int .i64 h2] (Els.one rfl) 1 1 rfl rfl (by decide) (by unfold maxLen; omega) (by show _ * 16 ≤ _; omega) HW0z.out ?_; intro g cap w2 hP hPa)
                        | (refine step_join rfl (.tmp 67) (.tmp 70) 68 rfl perE Tryz.underlying68 W0.heap.size (.slice (some ⟨g, 0, none⟩) (lk.length + 1) cap) (.slice (some ⟨b, o, none⟩) 0 0) (lk ++ [(l2, h2)]) (N.drop j) (by first | rfl | (rw [hlk]; rfl)) rfl (hP.own' (by simp)) ((HD.out.below (HBz.out.trans (Below.mono (by go_split_ands; assumption : Below W0.heap.size wz _) HB0.out.size))).mono (fun mm _ hh => Nat.le_trans HB0.out.size ((hP.own' (n := lk.length + 1) (by simp)).lt mm hh.symm).1)) (by rw [HTOT.out]; unfold maxLen; omega) (by rw [HTOT.out]; show _ * 16 ≤ _; omega) (Nat.le_trans HW0z.out (Below.size (by go_split_ands; assumption : Below W0.heap.size wz _))) (k + 1) HTO2.out ?_; intro x3 y3 w3 hJ3))
                    all_goals (
                      have hb9 : Below W0.heap.size wz w3 := by go_split_ands; assumption
                      have HB9 := Lib.hid (HBz.out.trans (hb9.mono HB0.out.size))
                      have HO9 := Lib.hid (hJ3.own.mono HB0.out.size)
                      go_wp2_with fail
                      go_ret
                      exact ⟨_, rfl, by rw [HRES.out]; exact HO9.out, HB9.out⟩)))
                | (
                  replace HD := HD a
                  go_wp2_with fail
                  go_region
                  all_goals go_wp2_with fail
                  all_goals (
                    rw [← HWZ.out]
                    go_region_held3 (fun W => Below W0.heap.size wz W ∧ W.cell? ⟨w.heap.size, 0, none⟩ = some (.int .i64 l2) ∧ W.cell? ⟨w.heap.size, 1, none⟩ = some (.int .i64 h2))
                      ((refine (fun hBB => ⟨hBB, cell_lowB hBB (by have := HSZ.out; omega) HW0z.out E0.out, cell_lowB hBB (by have := HSZ.out; omega) HW0z.out E1.out⟩) ?_; go_split_ands; first | with_reducible assumption | exact (Below.refl _ _).drew | exact Below.refl _ _ | exact Below.drew (by assumption) | exact belowB_alloc (by assumption) HW0z.out | exact belowB_alloc (Below.refl _ _).drew HW0z.out | exact Below.trans (by assumption) (Joined.below (by assumption)) | exact Below.trans (by assumption) (Pushed.below (by assumption)) | exact Below.trans (Below.refl _ _).drew (Pushed.below (by assumption))))
                      (first
                        | (refine step_push rfl (.tmp 64) (.tmp 66) 68 rfl perE Tryz.underlying68 W0.heap.size (.slice ao k co) lk rfl HOz.out.drew [(l2, h2)] #[.int .i64 l2, .int .i64 h2] (Els.one rfl) 1 1 rfl rfl (by decide) (by unfold maxLen; omega) (by show _ * 16 ≤ _; omega) HW0z.out ?_; intro g cap w2 hP hPa)
                        | (refine step_join rfl (.tmp 67) (.tmp 70) 68 rfl perE Tryz.underlying68 W0.heap.size (.slice (some ⟨g, 0, none⟩) (lk.length + 1) cap) (.slice a 0 0) (lk ++ [(l2, h2)]) (N.drop j) (by first | rfl | (rw [hlk]; rfl)) rfl (hP.own' (by simp)) ((HD.out.below (HBz.out.trans (Below.mono (by go_split_ands; assumption : Below W0.heap.size wz _) HB0.out.size))).mono (fun mm _ hh => Nat.le_trans HB0.out.size ((hP.own' (n := lk.length + 1) (by simp)).lt mm hh.symm).1)) (by rw [HTOT.out]; unfold maxLen; omega) (by rw [HTOT.out]; show _ * 16 ≤ _; omega) (Nat.le_trans HW0z.out (Below.size (by go_split_ands; assumption : Below W0.heap.size wz _))) (k + 1) HTO2.out ?_; intro x3 y3 w3 hJ3))
                    all_goals (
                      have hb9 : Below W0.heap.size wz w3 := by go_split_ands; assumption
                      have HB9 := Lib.hid (HBz.out.trans (hb9.mono HB0.out.size))
                      have HO9 := Lib.hid (hJ3.own.mono HB0.out.size)
                      go_wp2_with fail
                      go_ret
                      exact ⟨_, rfl, by rw [HRES.out]; exact HO9.out, HB9.out⟩)))
              · have HD0 := HV.out.dropS hj
                rw [show j * perE.size = j * 2 from rfl] at HD0
                clear hend hx0 hgo
                first
                | (
                  have HD : Hid (Sl perE w (fun mm => w.heap.size ≤ mm) (.slice (some ⟨b, o + j * 2, none⟩) (n - j) (c - j)) (N.drop j)) := by
                    rw [Option.map_some, Addr.add_lit] at HD0
                    exact HD0
                  go_wp2_with fail
                  go_region
                  all_goals go_wp2_with fail
                  all_goals (
                    rw [← HWZ.out]
                    go_region_held3 (fun W => Below W0.heap.size wz W ∧ W.cell? ⟨w.heap.size, 0, none⟩ = some (.int .i64 l2) ∧ W.cell? ⟨w.heap.size, 1, none⟩ = some (.int .i64 h2))
                      ((refine (fun hBB => ⟨hBB, cell_lowB hBB (by have := HSZ.out; omega) HW0z.out E0.out, cell_lowB hBB (by have := HSZ.out; omega) HW0z.out E1.out⟩) ?_; go_split_ands; first | with_reducible assumption | exact (Below.refl _ _).drew | exact Below.refl _ _ | exact Below.drew (by assumption) | exact belowB_alloc (by assumption) HW0z.out | exact belowB_alloc (Below.refl _ _).drew HW0z.out | exact Below.trans (by assumption) (Joined.below (by assumption)) | exact Below.trans (by assumption) (Pushed.below (by assumption)) | exact Below.trans (Below.refl _ _).drew (Pushed.below (by assumption))))
                      (first
                        | (refine step_push rfl (.tmp 64) (.tmp 66) 68 rfl perE Tryz.underlying68 W0.heap.size (.slice ao k co) lk rfl HOz.out.drew [(l2, h2)] #[.int .i64 l2, .int .i64 h2] (Els.one rfl) 1 1 rfl rfl (by decide) (by unfold maxLen; omega) (by show _ * 16 ≤ _; omega) HW0z.out ?_; intro g cap w2 hP hPa)
                        | (refine step_join rfl (.tmp 67) (.tmp 70) 68 rfl perE Tryz.underlying68 W0.heap.size (.slice (some ⟨g, 0, none⟩) (lk.length + 1) cap) (.slice (some ⟨b, o + j * 2, none⟩) (n - j) (c - j)) (lk ++ [(l2, h2)]) (N.drop j) (by first | rfl | (rw [hlk]; rfl)) rfl (hP.own' (by simp)) ((HD.out.below (HBz.out.trans (Below.mono (by go_split_ands; assumption : Below W0.heap.size wz _) HB0.out.size))).mono (fun mm _ hh => Nat.le_trans HB0.out.size ((hP.own' (n := lk.length + 1) (by simp)).lt mm hh.symm).1)) (by rw [HTOT.out]; unfold maxLen; omega) (by rw [HTOT.out]; show _ * 16 ≤ _; omega) (Nat.le_trans HW0z.out (Below.size (by go_split_ands; assumption : Below W0.heap.size wz _))) (k + 1) HTO2.out ?_; intro x3 y3 w3 hJ3))
                    all_goals (
                      have hb9 : Below W0.heap.size wz w3 := by go_split_ands; assumption
                      have HB9 := Lib.hid (HBz.out.trans (hb9.mono HB0.out.size))
                      have HO9 := Lib.hid (hJ3.own.mono HB0.out.size)
                      go_wp2_with fail
                      go_ret
                      exact ⟨_, rfl, by rw [HRES.out]; exact HO9.out, HB9.out⟩)))
                | (
                  have HD : Hid (Sl perE w (fun mm => w.heap.size ≤ mm) (.slice (a.map fun y => y.add (j * 2)) (n - j) (c - j)) (N.drop j)) := HD0
                  go_wp2_with fail
                  go_region
                  all_goals go_wp2_with fail
                  all_goals (
                    rw [← HWZ.out]
                    go_region_held3 (fun W => Below W0.heap.size wz W ∧ W.cell? ⟨w.heap.size, 0, none⟩ = some (.int .i64 l2) ∧ W.cell? ⟨w.heap.size, 1, none⟩ = some (.int .i64 h2))
                      ((refine (fun hBB => ⟨hBB, cell_lowB hBB (by have := HSZ.out; omega) HW0z.out E0.out, cell_lowB hBB (by have := HSZ.out; omega) HW0z.out E1.out⟩) ?_; go_split_ands; first | with_reducible assumption | exact (Below.refl _ _).drew | exact Below.refl _ _ | exact Below.drew (by assumption) | exact belowB_alloc (by assumption) HW0z.out | exact belowB_alloc (Below.refl _ _).drew HW0z.out | exact Below.trans (by assumption) (Joined.below (by assumption)) | exact Below.trans (by assumption) (Pushed.below (by assumption)) | exact Below.trans (Below.refl _ _).drew (Pushed.below (by assumption))))
                      (first
                        | (refine step_push rfl (.tmp 64) (.tmp 66) 68 rfl perE Tryz.underlying68 W0.heap.size (.slice ao k co) lk rfl HOz.out.drew [(l2, h2)] #[.int .i64 l2, .int .i64 h2] (Els.one rfl) 1 1 rfl rfl (by decide) (by unfold maxLen; omega) (by show _ * 16 ≤ _; omega) HW0z.out ?_; intro g cap w2 hP hPa)
                        | (refine step_join rfl (.tmp 67) (.tmp 70) 68 rfl perE Tryz.underlying68 W0.heap.size (.slice (some ⟨g, 0, none⟩) (lk.length + 1) cap) (.slice (a.map fun y => y.add (j * 2)) (n - j) (c - j)) (lk ++ [(l2, h2)]) (N.drop j) (by first | rfl | (rw [hlk]; rfl)) rfl (hP.own' (by simp)) ((HD.out.below (HBz.out.trans (Below.mono (by go_split_ands; assumption : Below W0.heap.size wz _) HB0.out.size))).mono (fun mm _ hh => Nat.le_trans HB0.out.size ((hP.own' (n := lk.length + 1) (by simp)).lt mm hh.symm).1)) (by rw [HTOT.out]; unfold maxLen; omega) (by rw [HTOT.out]; show _ * 16 ≤ _; omega) (Nat.le_trans HW0z.out (Below.size (by go_split_ands; assumption : Below W0.heap.size wz _))) (k + 1) HTO2.out ?_; intro x3 y3 w3 hJ3))
                    all_goals (
                      have hb9 : Below W0.heap.size wz w3 := by go_split_ands; assumption
                      have HB9 := Lib.hid (HBz.out.trans (hb9.mono HB0.out.size))
                      have HO9 := Lib.hid (hJ3.own.mono HB0.out.size)
                      go_wp2_with fail
                      go_ret
                      exact ⟨_, rfl, by rw [HRES.out]; exact HO9.out, HB9.out⟩)))))
end Go.Proofs.YtngigmpaabmngaaGreatDoor

namespace Go.Proofs.YtngigmpaabmngaaGreatDoor
open Go.RowKit

def perT (x : Tup) : Int × Int := (x.lo, x.hi)
theorem day_cnt (l : List Tup) (t : Int) : cntP (l.map perT) t = (atDay l t).length := by
  unfold cntP atDay
  rw [List.length_map, List.countP_map, List.countP_eq_length_filter]; rfl
/-- The periods from each point to the next. -/
def segs : List Int → List (Int × Int)
  | a :: b :: r => (a, b) :: segs (b :: r)
  | [_] => []
  | [] => []
theorem segs_length : ∀ l : List Int, (segs l).length = l.length - 1
  | [] => rfl
  | [_] => rfl
  | a :: b :: r => by rw [segs, List.length_cons, segs_length (b :: r)]; simp
theorem segs_get : ∀ {l : List Int} {i : Nat} {a b : Int}, l[i]? = some a → l[i + 1]? = some b → (segs l)[i]? = some (a, b)
  | [], _, _, _, h, _ => by simp at h
  | [x], i, _, _, _, h2 => by simp at h2
  | x :: y :: r, 0, a, b, h, h2 => by simp at h h2; subst h h2; rfl
  | x :: y :: r, i + 1, a, b, h, h2 => by
    rw [segs, List.getElem?_cons_succ]
    exact segs_get (l := y :: r) (by simpa using h) (by simpa using h2)
theorem segs_mem : ∀ {l : List Int}, l.Pairwise (· < ·) → ∀ {s : Int × Int}, s ∈ segs l → s.1 ∈ l ∧ s.2 ∈ l ∧ s.1 < s.2 ∧ ∀ x ∈ l, x ≤ s.1 ∨ s.2 ≤ x
  | [], _, s, h => by simp [segs] at h
  | [x], _, s, h => by simp [segs] at h
  | x :: y :: r, hs, s, h => by
    obtain ⟨h1, h2⟩ := List.pairwise_cons.1 hs
    rw [segs] at h
    rcases List.mem_cons.1 h with rfl | h
    · refine ⟨.head _, .tail _ (.head _), h1 y (.head _), fun z hz => ?_⟩
      rcases List.mem_cons.1 hz with rfl | hz
      · exact .inl (Int.le_refl _)
      · rcases List.mem_cons.1 hz with rfl | hz
        · exact .inr (Int.le_refl _)
        · have := (List.pairwise_cons.1 h2).1 z hz; exact .inr (by dsimp only; omega)
    · obtain ⟨a1, a2, a3, a4⟩ := segs_mem h2 h
      refine ⟨.tail _ a1, .tail _ a2, a3, fun z hz => ?_⟩
      rcases List.mem_cons.1 hz with rfl | hz
      · have := h1 _ a1; exact .inl (by omega)
      · exact a4 z hz
theorem segs_at : ∀ {l : List Int} {t u v : Int}, u ∈ l → v ∈ l → u ≤ t → t < v → l.Pairwise (· < ·) → ∃ s ∈ segs l, s.1 ≤ t ∧ t < s.2
  | [], _, _, _, h, _, _, _, _ => by simp at h
  | [x], t, u, v, h, h', h1, h2, _ => by simp at h h'; omega
  | x :: y :: r, t, u, v, hu, hv, h1, h2, hs => by
    obtain ⟨a1, a2⟩ := List.pairwise_cons.1 hs
    rw [segs]
    by_cases hy : t < y
    · refine ⟨(x, y), .head _, ?_, hy⟩
      rcases List.mem_cons.1 hu with rfl | hu
      · exact h1
      · exfalso
        rcases List.mem_cons.1 hu with rfl | hu
        · omega
        · have := (List.pairwise_cons.1 a2).1 u hu; omega
    · have hv' : v ∈ y :: r := by
        rcases List.mem_cons.1 hv with rfl | hv
        · exfalso; have := a1 y (.head _); omega
        · exact hv
      obtain ⟨s, h3, h4⟩ := segs_at (u := y) (.head _) hv' (by omega) h2 a2
      exact ⟨s, .tail _ h3, h4⟩
/-- The stretches on which at least k hold. -/
def setK (l : List Tup) (k : Nat) : List (Int × Int) := (segs (refBnd l)).filter fun s => decide (k ≤ cntP (l.map perT) s.1)
theorem segs_valid (l : List Tup) : ∀ s ∈ segs (refBnd l), pvalid s.1 s.2 = true := fun s hsm => by
  obtain ⟨h1, h2, h3, _⟩ := segs_mem (refBnd_asc l) hsm
  obtain ⟨x, _, hx, e⟩ := ends_mem.1 ((refBnd_mem l _).1 h1)
  obtain ⟨y, _, hy, f⟩ := ends_mem.1 ((refBnd_mem l _).1 h2)
  have := pvalid_iff.1 hx
  have := pvalid_iff.1 hy
  exact pvalid_iff.2 (by omega)
theorem segs_same (l : List Tup) {s : Int × Int} (hsm : s ∈ segs (refBnd l)) {t : Int} (ha : s.1 ≤ t) (hb : t < s.2) : cntP (l.map perT) t = cntP (l.map perT) s.1 := by
  obtain ⟨_, _, _, h4⟩ := segs_mem (refBnd_asc l) hsm
  rw [day_cnt, day_cnt, atDay_between ha fun p hp => ?_]
  rcases h4 p ((refBnd_mem l p).2 hp) with h | h
  · exact .inl h
  · exact .inr (by omega)
theorem layer_of (l : List Tup) (k : Nat) (hk : 1 ≤ k) : Layer (cntP (l.map perT)) k (normP (setK l k)) := by
  obtain ⟨h1, h2⟩ := normP_spec (setK l k)
  refine ⟨h1, fun t => (h2 t).trans ?_⟩
  constructor
  · rintro ⟨s, hsm, ha, hb⟩
    obtain ⟨h3, h4⟩ := List.mem_filter.1 (List.mem_filter.1 hsm).1
    rw [segs_same l h3 ha hb]
    simpa using h4
  · intro hkt
    have hp : 0 < (atDay l t).length := by rw [← day_cnt]; omega
    obtain ⟨r, hr⟩ := List.exists_mem_of_length_pos hp
    obtain ⟨x, hx, _, hi⟩ := mem_atDay.1 hr
    obtain ⟨hpv, hlo, hhi⟩ := pincl_iff.1 hi
    have e1 : x.lo ∈ refBnd l := (refBnd_mem l _).2 (ends_mem.2 ⟨x, hx, hpv, .inl rfl⟩)
    have e2 : x.hi ∈ refBnd l := (refBnd_mem l _).2 (ends_mem.2 ⟨x, hx, hpv, .inr rfl⟩)
    obtain ⟨s, hsm, ha, hb⟩ := segs_at e1 e2 hlo hhi (refBnd_asc l)
    refine ⟨s, List.mem_filter.2 ⟨List.mem_filter.2 ⟨hsm, ?_⟩, segs_valid l s hsm⟩, ha, hb⟩
    rw [← segs_same l hsm ha hb]
    simpa using hkt
theorem mergeP_len : ∀ (N : List (Int × Int)) (p : Int × Int), (mergeP p N).length ≤ N.length + 1
  | [], p => by simp [mergeP]
  | q :: r, p => by
    rw [mergeP]
    split
    · have := mergeP_len r (min p.1 q.1, max p.2 q.2); rw [List.length_cons]; omega
    · simp
theorem insP_len : ∀ (N : List (Int × Int)) (p : Int × Int), (insP N p).length ≤ N.length + 1
  | [], p => by simp [insP]
  | q :: r, p => by
    rw [insP]
    split
    · have := insP_len r p; rw [List.length_cons, List.length_cons]; omega
    · exact mergeP_len _ _
theorem normP_len (s : List (Int × Int)) : (normP s).length ≤ s.length := by
  suffices h : ∀ o : List (Int × Int), (s.foldl (fun o p => if pvalid p.1 p.2 = true then insP o p else o) o).length ≤ o.length + s.length by simpa [normP] using h []
  induction s with
  | nil => intro o; simp
  | cons p s ih =>
    intro o
    rw [List.foldl_cons, List.length_cons]
    have h1 := ih (if pvalid p.1 p.2 = true then insP o p else o)
    have h2 := insP_len o p
    split at h1 <;> rename_i h3
    · rw [if_pos h3]; omega
    · rw [if_neg h3]; omega
theorem setK_len (l : List Tup) (k : Nat) : (setK l k).length ≤ l.length * 2 := by
  have h1 := List.length_filter_le (fun s : Int × Int => decide (k ≤ cntP (l.map perT) s.1)) (segs (refBnd l))
  have h2 := refBnd_length l
  rw [segs_length] at h1
  unfold setK
  omega
/-- Order of periods: by start, then by end. -/
def ltP (p q : Int × Int) : Prop := p.1 < q.1 ∨ (p.1 = q.1 ∧ p.2 < q.2)
def SrtP (M : List (Int × Int)) : Prop := M.Pairwise fun a b => ¬ ltP b a
/-- A period is laid in between what is not above it and what is above it. -/
theorem ins_done {out : List (Int × Int)} {p : Int × Int} {j : Nat} (hs : SrtP out) (h0 : ∀ q, out[j - 1]? = some q → j = 0 ∨ ¬ ltP p q) (hd : ∀ q ∈ out.drop j, ltP p q) (hj : j ≤ out.length) :
    SrtP (out.take j ++ p :: out.drop j) ∧ (out.take j ++ p :: out.drop j).Perm (out ++ [p]) := by
  constructor
  · have hs' : (out.take j ++ out.drop j).Pairwise fun a b => ¬ ltP b a := by rw [List.take_append_drop]; exact hs
    obtain ⟨h1, h2, h3⟩ := List.pairwise_append.1 hs'
    have hle : ∀ q ∈ out.take j, ¬ ltP p q := by
      intro q hq
      obtain ⟨i, hi, rfl⟩ := List.getElem_of_mem hq
      have hi' : i < j := by rw [List.length_take] at hi; omega
      have hjl : j - 1 < out.length := by omega
      have h4 := h0 out[j - 1] (List.getElem?_eq_getElem hjl)
      rcases h4 with h4 | h4
      · omega
      · rw [List.getElem_take]
        rcases Nat.lt_or_ge i (j - 1) with h5 | h5
        · have h6 := List.pairwise_iff_getElem.1 hs i (j - 1) (by omega) hjl h5
          unfold ltP at *
          omega
        · have : i = j - 1 := by omega
          subst this
          exact h4
    refine List.pairwise_append.2 ⟨h1, List.pairwise_cons.2 ⟨fun q hq => ?_, h2⟩, fun a ha b hb => ?_⟩
    · have := hd q hq
      unfold ltP at *
      omega
    · rcases List.mem_cons.1 hb with rfl | hb
      · exact hle a ha
      · exact h3 a ha b hb
  · refine List.perm_middle.trans ?_
    rw [List.take_append_drop]
    exact (List.perm_append_singleton p out).symm
/-- What is made of the tuples whose keys are done (no count of what is made). -/
structure NdI (l : List Tup) (L : List UInt8 → Bool) (out : List Tup) : Prop where
  lev : Lev out
  key : ∀ x ∈ out, L (keyT x) = false
  day : ∀ t, (atDay out t).Perm (atDay (l.filter fun x => !L (keyT x)) t)
theorem NdI.step {l out : List Tup} {M : List (Int × Int)} {L : List UInt8 → Bool} {r : GRow} (h : NdI l L out) (hL : L (rowKeyL r) = true) (hM : LevOf (perOf l (rowKeyL r)) M) :
    NdI l (fun z => L z && !(z == rowKeyL r)) (out ++ M.map fun p => (⟨r.vals, p.1, p.2, r.lin⟩ : Tup)) := by
  obtain ⟨h1, h2⟩ := lev_rows hM r
  have hk : ∀ y ∈ M.map (fun p => (⟨r.vals, p.1, p.2, r.lin⟩ : Tup)), keyT y = rowKeyL r := by
    intro y hy
    obtain ⟨p, _, rfl⟩ := List.mem_map.1 hy
    rfl
  refine ⟨⟨fun x hx => ?_, ?_⟩, fun x hx => ?_, fun t => ?_⟩
  · rcases List.mem_append.1 hx with hx | hx
    · exact h.lev.valid x hx
    · exact h1.valid x hx
  · rw [List.pairwise_append]
    refine ⟨h.lev.lam, h1.lam, fun x hx y hy e => ?_⟩
    have h3 := h.key x hx
    have h4 : keyT x = keyT y := congrArg rowKeyL e
    rw [h4, hk y hy, hL] at h3
    cases h3
  · rcases List.mem_append.1 hx with hx | hx
    · rw [h.key x hx]; rfl
    · rw [hk x hx]; simp
  · rw [atDay_append, h2 t, ← perOf_cnt l r t]
    refine ((h.day t).append_right _).trans ?_
    rw [← atDay_append]
    refine atDay_perm (filter_parts (fun x => ?_) fun x hx => ?_) t
    · cases L (keyT x) <;> cases (keyT x == rowKeyL r) <;> rfl
    · rw [beq_eq_false_iff_ne]
      intro e
      rw [e, hL] at hx
      cases hx
/-- The rows of a list that are still to be done. -/
def todo (done : List GRow) (s : List UInt8) : Bool := !(done.any fun r => rowKeyL r == s)
theorem todo_row (done : List GRow) (r : GRow) : todo done (rowKeyL r) = false ↔ r ∈ done := by
  unfold todo
  rw [Bool.not_eq_false', List.any_eq_true]
  constructor
  · rintro ⟨x, hx, he⟩
    have := rowKey_inj (by simpa using he : rowKeyL x = rowKeyL r)
    exact this ▸ hx
  · exact fun h => ⟨r, h, by simp⟩
theorem todo_snoc (done : List GRow) (r : GRow) : todo (done ++ [r]) = fun z => todo done z && !(z == rowKeyL r) := by
  funext z
  unfold todo
  rw [List.any_append, Bool.not_or]
  simp [Bool.beq_comm]
theorem NdI.skip {l out : List Tup} {done : List GRow} {r : GRow} (h : NdI l (todo done) out) (hr : r ∈ done) : NdI l (todo (done ++ [r])) out := by
  have e : todo (done ++ [r]) = todo done := by
    rw [todo_snoc]
    funext z
    by_cases hz : z = rowKeyL r
    · subst hz; rw [(todo_row done r).2 hr]; rfl
    · have : (z == rowKeyL r) = false := by rw [beq_eq_false_iff_ne]; exact hz
      rw [this]; simp
  rw [e]; exact h
theorem NdI.start (l : List Tup) : NdI l (todo []) [] := by
  refine ⟨Lev.nil, by simp, fun t => ?_⟩
  have : (l.filter fun x => !todo [] (keyT x)) = [] := List.filter_eq_nil_iff.2 fun x _ => by simp [todo]
  rw [this]
/-- The rows of l, in order. -/
def rowsOf (l : List Tup) : List GRow := sortR (l.map Tup.row)
theorem rowsOf_length (l : List Tup) : (rowsOf l).length = l.length := by rw [rowsOf, sortR_length, List.length_map]
theorem rowsOf_mem {l : List Tup} {r : GRow} : r ∈ rowsOf l ↔ ∃ x ∈ l, x.row = r := by rw [rowsOf, (sortR_perm _).mem_iff, List.mem_map]
theorem rowsOf_sorted (l : List Tup) : (rowsOf l).Pairwise fun a b => cmpRow a b ≤ 0 := sortR_pairwise _
/-- What the definition's Normalize has made after i of the sorted rows. -/
structure RnI (l : List Tup) (i : Nat) (out : List Tup) : Prop where
  nd : NdI l (todo ((rowsOf l).take i)) out
  srt : out.Pairwise fun a b => ¬ cmpTup b a < 0
  rows : ∀ x ∈ out, x.row ∈ (rowsOf l).take i
  len : out.length ≤ i * (l.length * (l.length * 2))
theorem RnI.start (l : List Tup) : RnI l 0 [] := ⟨NdI.start l, .nil, by simp, Nat.zero_le _⟩
theorem RnI.skip {l out : List Tup} {i : Nat} {a r : GRow} (h : RnI l (i + 1) out) (ha : (rowsOf l)[i]? = some a) (hr : (rowsOf l)[i + 1]? = some r) (e : a = r) : RnI l (i + 2) out := by
  have hm : r ∈ (rowsOf l).take (i + 1) := by rw [take_get ha, e]; simp
  refine ⟨?_, h.srt, fun x hx => ?_, Nat.le_trans h.len (Nat.mul_le_mul_right _ (by omega))⟩
  · rw [take_get hr]; exact h.nd.skip hm
  · rw [take_get hr]; exact List.mem_append_left _ (h.rows x hx)
theorem cmpTup_row {a b : Tup} (h : cmpRow a.row b.row < 0) : cmpTup a b < 0 := by
  unfold cmpTup or2
  rw [if_neg (by omega)]
  exact h
theorem cmpTup_per {v : List GVal} {u : List Int} {p q : Int × Int} (h : ¬ ltP q p) : ¬ cmpTup ⟨v, q.1, q.2, u⟩ ⟨v, p.1, p.2, u⟩ < 0 := by
  have e : cmpRow (Tup.row ⟨v, q.1, q.2, u⟩) (Tup.row ⟨v, p.1, p.2, u⟩) = 0 := cmpRow_zero.2 rfl
  unfold cmpTup or2
  rw [if_pos e]
  unfold ltP at h
  unfold cmpI
  dsimp only
  (repeat' split) <;> omega
theorem RnI.next {l out : List Tup} {i : Nat} {r : GRow} {M : List (Int × Int)} (h : RnI l i out) (hr : (rowsOf l)[i]? = some r) (hne : ∀ a, (rowsOf l)[i - 1]? = some a → i = 0 ∨ a ≠ r) (hM : LevOf (perOf l (rowKeyL r)) M) (hs : SrtP M) (hl : M.length ≤ l.length * (l.length * 2)) :
    RnI l (i + 1) (out ++ M.map fun p => (⟨r.vals, p.1, p.2, r.lin⟩ : Tup)) := by
  have hsrt := List.pairwise_iff_getElem.1 (rowsOf_sorted l)
  obtain ⟨hi, hre⟩ := List.getElem?_eq_some_iff.1 hr
  have hlt : ∀ a ∈ (rowsOf l).take i, cmpRow a r < 0 := by
    intro a ha
    obtain ⟨j, hj, rfl⟩ := List.getElem_of_mem ha
    have hj' : j < i := by rw [List.length_take] at hj; omega
    rw [List.getElem_take]
    have h1 := hne (rowsOf l)[i - 1] (List.getElem?_eq_getElem (by omega))
    have h2 : (rowsOf l)[i - 1] ≠ r := by rcases h1 with h1 | h1; omega; exact h1
    have h3 := hsrt (i - 1) i (by omega) hi (by omega)
    rw [hre] at h3
    have h4 : cmpRow (rowsOf l)[i - 1] r ≠ 0 := fun e => h2 (cmpRow_zero.1 e)
    rcases Nat.lt_or_ge j (i - 1) with h5 | h5
    · have h6 := hsrt j (i - 1) (by omega) (by omega) h5
      have h7 := sgn_row (rowsOf l)[j] (rowsOf l)[i - 1] r
      unfold Sgn3 at h7
      omega
    · have : j = i - 1 := by omega
      subst this
      omega
  have hnm : r ∉ (rowsOf l).take i := fun hm => by
    have h1 := hlt r hm
    rw [cmpRow_zero.2 rfl] at h1
    omega
  have hL : todo ((rowsOf l).take i) (rowKeyL r) = true := by
    cases hq : todo ((rowsOf l).take i) (rowKeyL r)
    · exact absurd ((todo_row _ _).1 hq) hnm
    · rfl
  have hrow : ∀ x ∈ M.map (fun p => (⟨r.vals, p.1, p.2, r.lin⟩ : Tup)), x.row = r := by
    intro x hx
    obtain ⟨p, _, rfl⟩ := List.mem_map.1 hx
    rfl
  refine ⟨?_, ?_, fun x hx => ?_, ?_⟩
  · rw [take_get hr, todo_snoc]
    exact h.nd.step hL hM
  · refine List.pairwise_append.2 ⟨h.srt, ?_, fun a ha b hb => ?_⟩
    · rw [List.pairwise_map]
      exact hs.imp fun hab => cmpTup_per hab
    · have h1 := hlt _ (h.rows a ha)
      rw [← hrow b hb] at h1
      have h2 := cmpTup_row h1
      have h3 := sgn_tup a b a
      have h4 : cmpTup a a = 0 := cmpTup_zero.2 rfl
      unfold Sgn3 at h3
      omega
  · rw [take_get hr]
    rcases List.mem_append.1 hx with hx | hx
    · exact List.mem_append_left _ (h.rows x hx)
    · exact List.mem_append_right _ (by rw [hrow x hx]; simp)
  · have h1 := h.len
    rw [List.length_append, List.length_map, Nat.succ_mul]
    omega
theorem RnI.done {l out : List Tup} {i : Nat} (h : RnI l i out) (hi : (rowsOf l).length ≤ i) : IsNF l out := by
  refine ⟨h.nd.lev, h.srt, fun t => (h.nd.day t).trans ?_⟩
  have : (l.filter fun x => !todo ((rowsOf l).take i) (keyT x)) = l := List.filter_eq_self.2 fun x hx => by
    have h1 : x.row ∈ (rowsOf l).take i := by rw [List.take_of_length_le hi]; exact rowsOf_mem.2 ⟨x, hx, rfl⟩
    have h2 := (todo_row _ _).2 h1
    show (!todo _ (rowKeyL x.row)) = true
    rw [h2]; rfl
  rw [this]
/-- The tuples of one row. -/
def grpOf (l : List Tup) (r : GRow) : List Tup := l.filter fun x => sameRowL x.vals r.vals x.lin r.lin
theorem sameRowL_row (x : Tup) (r : GRow) : sameRowL x.vals r.vals x.lin r.lin = true ↔ x.row = r := by
  rw [sameRowL_iff]
  obtain ⟨v, a, b, u⟩ := x
  obtain ⟨v', u'⟩ := r
  show _ ↔ (⟨v, u⟩ : GRow) = _
  simp
theorem grp_per (l : List Tup) (r : GRow) (t : Int) : cntP ((grpOf l r).map perT) t = cntP (perOf l (rowKeyL r)) t := by
  have h1 := perOf_cnt l r t
  have e : (l.filter fun x => keyT x == rowKeyL r) = grpOf l r := List.filter_congr fun x _ => by
    rw [Bool.eq_iff_iff, beq_iff_eq, sameRowL_row]
    exact ⟨fun h => rowKey_inj h, fun h => congrArg rowKeyL h⟩
  rw [e] at h1
  rw [day_cnt, h1, List.length_replicate]
theorem LevOf.group {l : List Tup} {r : GRow} {M : List (Int × Int)} (h : LevOf ((grpOf l r).map perT) M) : LevOf (perOf l (rowKeyL r)) M := ⟨h.valid, h.lam, fun t => (h.cnt t).trans (grp_per l r t)⟩
/-- How many of the first k tuples hold at t. -/
def ctL (l : List Tup) (k : Nat) (t : Int) : Nat := cntP ((l.take k).map perT) t
theorem ctL_snoc {l : List Tup} {k : Nat} {x : Tup} (hx : l[k]? = some x) (t : Int) : ctL l (k + 1) t = ctL l k t + if pincl x.lo x.hi t = true then 1 else 0 := by
  unfold ctL cntP
  rw [take_get hx, List.map_append, List.countP_append]
  congr 1
  show List.countP _ [perT x] = _
  rw [List.countP_singleton]
  rfl
theorem ctL_le (l : List Tup) (k : Nat) (t : Int) : ctL l k t ≤ k := by
  have h := cntP_le ((l.take k).map perT) t
  rw [List.length_map, List.length_take] at h
  unfold ctL
  omega
/-- The counts at the first i points. -/
def cntsL (l : List Tup) (i : Nat) : List Int := ((segs (refBnd l)).take i).map fun s => ((ctL l l.length s.1 : Nat) : Int)
theorem cntsL_snoc {l : List Tup} {i : Nat} {a b : Int} (ha : (refBnd l)[i]? = some a) (hb : (refBnd l)[i + 1]? = some b) : cntsL l (i + 1) = cntsL l i ++ [((ctL l l.length a : Nat) : Int)] := by
  unfold cntsL
  rw [take_get (segs_get ha hb), List.map_append]; rfl
theorem cntsL_length (l : List Tup) (i : Nat) (h : i ≤ (refBnd l).length - 1) : (cntsL l i).length = i := by
  unfold cntsL
  rw [List.length_map, List.length_take, segs_length]
  omega
theorem cntsL_get {l : List Tup} {m i : Nat} {a b : Int} (hm : i < m) (ha : (refBnd l)[i]? = some a) (hb : (refBnd l)[i + 1]? = some b) : (cntsL l m)[i]? = some ((ctL l l.length a : Nat) : Int) := by
  unfold cntsL
  rw [List.getElem?_map, List.getElem?_take, if_pos hm, segs_get ha hb]; rfl
/-- The first i stretches on which at least k hold. -/
def stLv (l : List Tup) (k i : Nat) : List (Int × Int) := ((segs (refBnd l)).take i).filter fun s => decide (k ≤ ctL l l.length s.1)
theorem stLv_snoc {l : List Tup} {k i : Nat} {a b : Int} (ha : (refBnd l)[i]? = some a) (hb : (refBnd l)[i + 1]? = some b) : stLv l k (i + 1) = stLv l k i ++ if k ≤ ctL l l.length a then [(a, b)] else [] := by
  unfold stLv
  rw [take_get (segs_get ha hb), List.filter_append, List.filter_cons, List.filter_nil]
  congr 1
  by_cases h : k ≤ ctL l l.length a
  · rw [if_pos h, if_pos (by simpa using h)]
  · rw [if_neg h, if_neg (by simpa using h)]
theorem stLv_all {l : List Tup} {k i : Nat} (h : (refBnd l).length - 1 ≤ i) : stLv l k i = setK l k := by
  unfold stLv setK ctL
  simp only [List.take_length]
  rw [List.take_of_length_le (l := segs (refBnd l)) (by rw [segs_length]; exact h)]
theorem stLv_len (l : List Tup) (k i : Nat) : (stLv l k i).length ≤ l.length * 2 := by
  have h1 := List.length_filter_le (fun s : Int × Int => decide (k ≤ ctL l l.length s.1)) ((segs (refBnd l)).take i)
  have h2 := refBnd_length l
  rw [List.length_take, segs_length] at h1
  unfold stLv
  omega
/-- What levels has made of the first k levels. -/
structure LvD (l : List Tup) (k : Nat) (M : List (Int × Int)) : Prop where
  lay : LayersTo (cntP (l.map perT)) k M
  srt : SrtP M
  len : M.length ≤ k * (l.length * 2)
theorem LvD.start (l : List Tup) : LvD l 0 [] := ⟨.nil _, .nil, Nat.zero_le _⟩
/-- The first i periods of N laid into M. -/
structure LvJ (M N : List (Int × Int)) (i : Nat) (O : List (Int × Int)) : Prop where
  srt : SrtP O
  perm : O.Perm (M ++ N.take i)
theorem LvJ.start {M : List (Int × Int)} (N : List (Int × Int)) (h : SrtP M) : LvJ M N 0 M := ⟨h, by simp⟩
theorem LvJ.len {M N O : List (Int × Int)} {i : Nat} (h : LvJ M N i O) : O.length ≤ M.length + N.length := by
  rw [h.perm.length_eq, List.length_append, List.length_take]; omega
theorem LvJ.step {M N O O' : List (Int × Int)} {i : Nat} {p : Int × Int} (h : LvJ M N i O) (hx : N[i]? = some p) (hs : SrtP O') (hp : O'.Perm (O ++ [p])) : LvJ M N (i + 1) O' := by
  refine ⟨hs, hp.trans ?_⟩
  rw [take_get hx, ← List.append_assoc]
  exact h.perm.append_right _
theorem LvD.next {l : List Tup} {k i : Nat} {M O : List (Int × Int)} (h : LvD l k M) (hj : LvJ M (normP (setK l (k + 1))) i O) (hi : (normP (setK l (k + 1))).length ≤ i) : LvD l (k + 1) O := by
  have hp := hj.perm
  rw [List.take_of_length_le hi] at hp
  refine ⟨h.lay.next (layer_of l (k + 1) (by omega)) hp, hj.srt, ?_⟩
  have h1 := h.len
  have h2 := normP_len (setK l (k + 1))
  have h3 := setK_len l (k + 1)
  rw [hp.length_eq, List.length_append, Nat.succ_mul]
  omega
theorem LvD.done {l : List Tup} {k : Nat} {M : List (Int × Int)} (h : LvD l k M) (hk : k = l.length) : LevOf (l.map perT) M := by
  subst hk
  exact LayersTo.done (ps := l.map perT) (by rw [List.length_map]; exact h.lay)
end Go.Proofs.YtngigmpaabmngaaGreatDoor

namespace Go.Proofs.YtngigmpaabmngaaGreatDoor
open Go.RowKit Go.Lib

set_option maxHeartbeats 4000000 in
set_option maxRecDepth 100000 in
theorem rnormP_any (v : Value) (s : List (Int × Int)) (w : World) (hv : Sl perE w free v s) (hl : s.length ≤ 1000000) :
    Calls Tryz.prog 132 #[v] w (RetOwn perE w (normP s)) := by
  obtain ⟨a, c, rfl⟩ := hv.shape
  have h63 := hv.1
  have HV := Lib.hid hv
  obtain ⟨n, hn⟩ : ∃ n, n = s.length := ⟨_, rfl⟩
  have HN := Lib.hid hn
  rw [← hn] at HV h63 hl ⊢
  clear hv hn
  go_enter Tryz.func132, Tryz.ntmps132
  go_wp2_with fail
  go_loopw [4, 3] (fun i o wr => ∃ k : Nat, k ≤ n ∧ i = .int .i64 k ∧ Own perE wr w.heap.size o (normP (s.take k)) ∧ Hid (Below w.heap.size w wr)) (fun i _ _ => n - (RowKit.intOf i).toNat)
  case atStart => exact ⟨0, Nat.zero_le _, rfl, Own.nil _ _ _, Lib.hid (.refl _ _)⟩
  case round =>
    obtain ⟨k, hk, rfl, hO, HB⟩ := hrel
    obtain ⟨wo, rfl⟩ : ∃ wo : World, wo = wr := ⟨_, rfl⟩
    by_cases hlt : k < n
    · obtain ⟨x, hx⟩ := lget_some s k (by rw [← HN.out]; exact hlt)
      obtain ⟨b, o, rfl, p0, p1⟩ := pers_at (HV.out.below HB.out) hx
      have HT : Hid (normP (s.take (k + 1)) = if pvalid x.1 x.2 = true then insP (normP (s.take k)) x else normP (s.take k)) := by show _ = _; rw [take_get hx, normP_snoc]
      obtain ⟨lk, hlke⟩ : ∃ lk, lk = normP (s.take k) := ⟨_, rfl⟩
      have hlk : lk.length ≤ 1000000 := by rw [hlke]; exact Nat.le_trans (normP_len _) (by rw [List.length_take]; omega)
      rw [← hlke] at hO HT
      obtain ⟨x0, x1⟩ := x
      dsimp only at p0 p1 HT
      have HP := Lib.hid (rprd_valid x0 x1 wo)
      obtain ⟨q, hq⟩ : ∃ q, q = pvalid x0 x1 := ⟨_, rfl⟩
      rw [← hq] at HP HT
      obtain ⟨ao, co, rfl⟩ := hO.shape
      have HO := Lib.hid hO
      clear hx hlke hq hO
      go_wp2_with fail
      refine HP.out.mono ?_
      rintro _ w2 ⟨rfl, hb2⟩
      have HB2 := Lib.hid (below_keep HB.out hb2)
      have HO2 := Lib.hid (HO.out.below hb2)
      replace p0 := cell_keep hb2 p0
      replace p1 := cell_keep hb2 p1
      clear hb2 HP HO
      cases q
      · have HT' : Hid (normP (s.take (k + 1)) = lk) := by show _ = _; rw [HT.out, if_neg (by decide)]
        go_wp2_with fail
        go_roundw
        case rel => exact ⟨k + 1, by omega, by go_num, by rw [HT'.out]; exact HO2.out, HB2⟩
        case measure => simp [RowKit.intOf]; omega
      · have HT' : Hid (normP (s.take (k + 1)) = insP lk (x0, x1)) := by show _ = _; rw [HT.out, if_pos rfl]
        have HI := Lib.hid (rinsert_any _ lk x0 x1 w2 HO2.out.sl hlk)
        go_wp2_with fail
        refine HI.out.mono ?_
        rintro _ w3 ⟨v3, rfl, hO3, hb3⟩
        obtain ⟨a3, c3, rfl⟩ := hO3.shape
        have HO3 := Lib.hid (hO3.mono HB2.out.size)
        have HB3 := Lib.hid (below_keep HB2.out hb3)
        clear hO3 hb3 HI HO2
        go_wp2_with fail
        go_roundw
        case rel => exact ⟨k + 1, by omega, by go_num, by rw [HT'.out]; exact HO3.out, HB3⟩
        case measure => simp [RowKit.intOf]; omega
    · have hkk : s.take k = s := List.take_of_length_le (by rw [← HN.out]; omega)
      rw [hkk] at hO
      obtain ⟨ao, co, rfl⟩ := hO.shape
      have HO := Lib.hid hO
      clear hO hkk
      go_wp2_with fail
      go_ret
      exact ⟨_, rfl, HO.out, HB.out⟩
end Go.Proofs.YtngigmpaabmngaaGreatDoor

namespace Go.Proofs.YtngigmpaabmngaaGreatDoor
open Go.RowKit Go.Lib

set_option maxHeartbeats 1000000 in
theorem rincl_any (lo hi t : Int) (w : World) : Calls Tryz.prog 91 #[.agg #[.int .i64 lo, .int .i64 hi], .int .i64 t] w fun e w' => e = .returned (.bool (pincl lo hi t)) ∧ Below w.heap.size w w' := by
  have HR : Hid (pincl lo hi t = (pvalid lo hi && (decide (lo ≤ t) && decide (t < hi)))) := Lib.hid rfl
  have HV := fun W => Lib.hid (rprd_valid lo hi W)
  generalize pvalid lo hi = q at HR HV
  generalize pincl lo hi t = r at HR ⊢
  have hg := World.alloc_heap_new w (.cells #[.int .i64 lo, .int .i64 hi] 50)
  go_enter Tryz.func91, Tryz.ntmps91
  go_wp2_with fail
  refine (HV _).out.mono ?_
  rintro _ w2 ⟨rfl, hb⟩
  have hk := box_kept hg hb
  obtain ⟨d0, d1, _, _⟩ := box_two hk
  have HB := Lib.hid (below_alloc2' hb)
  clear hb hk hg
  cases q
  · go_wp2_with fail
    go_ret
    exact ⟨ret_bool (by rw [HR.out]; rfl), HB.out⟩
  · by_cases h1 : lo ≤ t
    · by_cases h2 : t < hi
      · go_wp2_with fail
        go_ret
        exact ⟨ret_bool (by rw [HR.out]; simp; omega), HB.out⟩
      · go_wp2_with fail
        go_ret
        exact ⟨ret_bool (by rw [HR.out]; simp; omega), HB.out⟩
    · go_wp2_with fail
      go_ret
      exact ⟨ret_bool (by rw [HR.out]; simp; omega), HB.out⟩
set_option maxHeartbeats 4000000 in
set_option maxRecDepth 100000 in
theorem rtimeslice_g {D : Nat → Prop} (v : Value) (l : List Tup) (t : Int) (w : World) (hv : Sl (tupE.avoid D) w free v l) (hl : l.length ≤ 100000) (hs : ∀ x ∈ l, x.vals.length ≤ 1000 ∧ x.lin.length ≤ 1000) :
    Calls Tryz.prog 48 #[v, .int .i64 t] w (RetOwn (rowE.avoid D) w (sortR (atDay l t))) := by
  obtain ⟨a, c, rfl⟩ := hv.shape
  have h63 := hv.1
  have HV := Lib.hid hv
  have HS := Lib.hid (atDay_small hs t)
  obtain ⟨n, hn⟩ : ∃ n, n = l.length := ⟨_, rfl⟩
  have HN := Lib.hid hn
  rw [← hn] at HV h63 hl ⊢
  clear hv hn hs
  go_enter Tryz.func48, Tryz.ntmps48
  go_wp2_with fail
  go_loopw [10, 5] (fun i o wr => ∃ k : Nat, k ≤ n ∧ i = .int .i64 k ∧ Own (rowE.avoid D) wr w.heap.size o (atDay (l.take k) t) ∧ Hid (Below w.heap.size w wr)) (fun i _ _ => n - (RowKit.intOf i).toNat)
  case atStart => exact ⟨0, Nat.zero_le _, rfl, Own.nil _ _ _, Lib.hid (.refl _ _)⟩
  case round =>
    obtain ⟨k, hk, rfl, hO, HB⟩ := hrel
    obtain ⟨wo, rfl⟩ : ∃ wo : World, wo = wr := ⟨_, rfl⟩
    by_cases hlt : k < n
    · obtain ⟨x, hx⟩ := lget_some l k (by rw [← HN.out]; exact hlt)
      obtain ⟨b, o, a1, n1, e1, m1, rfl, hvv, hll, p0, p1, p2, p3⟩ := tupsD_at (HV.out.old (Nat.le_refl _)) hx
      replace p0 := cell_keep HB.out p0
      replace p1 := cell_keep HB.out p1
      replace p2 := cell_keep HB.out p2
      replace p3 := cell_keep HB.out p3
      have HT : Hid (atDay (l.take (k + 1)) t = atDay (l.take k) t ++ if pincl x.lo x.hi t = true then [⟨x.vals, x.lin⟩] else []) := by show _ = _; rw [take_get hx, atDay_snoc]
      obtain ⟨lk, hlke⟩ : ∃ lk, lk = atDay (l.take k) t := ⟨_, rfl⟩
      have hlk : lk.length ≤ 100000 := by rw [hlke]; exact Nat.le_trans (atDay_len _ _) (by rw [List.length_take]; omega)
      rw [← hlke] at hO HT
      obtain ⟨ao, co, rfl⟩ := hO.shape
      obtain ⟨xv, xlo, xhi, xl⟩ := x
      dsimp only at p0 p1 p2 p3 hvv hll HT
      obtain ⟨q, hq⟩ : ∃ q, q = pincl xlo xhi t := ⟨_, rfl⟩
      have HI := fun W => Lib.hid (rincl_any xlo xhi t W)
      rw [← hq] at HT HI
      have HVV := Lib.hid hvv
      have HLL := Lib.hid hll
      have hg := World.alloc_heap_new wo (.cells #[.slice a1 xv.length n1, .int .i64 xlo, .int .i64 xhi, .slice e1 xl.length m1] 52)
      have HB1 : Hid (Below w.heap.size w (wo.alloc (.cells #[.slice a1 xv.length n1, .int .i64 xlo, .int .i64 xhi, .slice e1 xl.length m1] 52))) := Lib.hid (below_alloc_keep HB.out)
      have HO1 := Lib.hid (hO.below (below_alloc wo (.cells #[.slice a1 xv.length n1, .int .i64 xlo, .int .i64 xhi, .slice e1 xl.length m1] 52)))
      have HG := Lib.hid hg
      clear hx hvv hll hO hlke hq hg
      go_wp2_with fail
      refine (HI _).out.mono ?_
      rintro _ w3 ⟨rfl, hb3⟩
      obtain ⟨⟨d0, d1, d2, d3⟩, _, _, _, _⟩ := box_four (box_kept HG.out hb3)
      have HB3 : Hid (Below w.heap.size w w3) := Lib.hid (below_keep HB1.out hb3)
      have HO3 := Lib.hid (HO1.out.below hb3)
      clear hb3 HG HB1 HO1 HI
      cases q
      · have HT' : Hid (atDay (l.take (k + 1)) t = lk) := by show _ = _; rw [HT.out, if_neg (by decide), List.append_nil]
        go_wp2_with fail
        go_roundw
        case rel => exact ⟨k + 1, by omega, by go_num, by rw [HT'.out]; exact HO3.out, HB3⟩
        case measure => simp [RowKit.intOf]; omega
      · have HT' : Hid (atDay (l.take (k + 1)) t = lk ++ [⟨xv, xl⟩]) := by show _ = _; rw [HT.out, if_pos rfl]
        have HIS : Hid (Els (rowE.avoid D) w3 (fun j => some j = (Value.slice ao lk.length co).ownBlock) [⟨xv, xl⟩] [.slice a1 xv.length n1, .slice e1 xl.length m1]) := Lib.hid (Els.one ⟨_, _, rfl, (HVV.out.below HB3.out).mono (fun j _ hj => hj.imp (fun hj => (HO3.out.lt j hj.symm).1) id), (HLL.out.below HB3.out).mono (fun j _ hj => hj.imp (fun hj => (HO3.out.lt j hj.symm).1) id)⟩)
        go_wp2_with (at_builtin; refine wpList_push rfl (.tmp 18) (.tmp 24) 35 rfl (rowE.avoid D) Tryz.underlying35 w.heap.size (.slice ao lk.length co) lk rfl HO3.out [⟨xv, xl⟩] #[.slice a1 xv.length n1, .slice e1 xl.length m1] HIS.out 1 1 rfl rfl (by decide) (by unfold maxLen; omega) (by show _ * 48 ≤ _; omega) HB3.out.size ?_; intro g cap w5 hP hPa)
        go_roundw
        case rel => exact ⟨k + 1, by omega, by go_num, by rw [HT'.out]; exact hP.own' (by simp), Lib.hid (HB3.out.trans hP.below)⟩
        case measure => simp [RowKit.intOf]; omega
    · have hkk : l.take k = l := List.take_of_length_le (by rw [← HN.out]; omega)
      rw [hkk] at hO
      obtain ⟨ao, co, rfl⟩ := hO.shape
      have HSR := Lib.hid (refSort_g _ (Nat.le_trans (atDay_len _ _) (by rw [← HN.out]; exact hl)) _ (atDay l t) wo rfl hO.sl)
      clear hO hkk
      go_wp2_with fail
      refine HSR.out.mono ?_
      rintro _ w2 ⟨vo, rfl, hO2, hb2⟩
      obtain ⟨ao2, co2, rfl⟩ := hO2.shape
      have HO2 := Lib.hid (hO2.mono HB.out.size)
      have HB2 := Lib.hid (below_keep HB.out hb2)
      clear hO2 hb2
      go_wp2_with fail
      go_ret
      exact ⟨_, rfl, HO2.out, HB2.out⟩
theorem rtimeslice_any (v : Value) (l : List Tup) (t : Int) (w : World) (hv : Tups w v l) (hl : l.length ≤ 100000) (hs : ∀ x ∈ l, x.vals.length ≤ 1000 ∧ x.lin.length ≤ 1000) :
    Calls Tryz.prog 48 #[v, .int .i64 t] w (RetOwn rowE w (sortR (atDay l t))) :=
  (rtimeslice_g v l t w hv.toD hl hs).mono fun _ _ h => h.forget
end Go.Proofs.YtngigmpaabmngaaGreatDoor

namespace Go.Proofs.YtngigmpaabmngaaGreatDoor
open Go.RowKit Go.Lib

theorem ownper_put {w : World} {B g n c k : Nat} {l : List (Int × Int)} {x : Int × Int} (h : Own perE w B (.slice (some ⟨g, 0, none⟩) n c) l) (hn : l.length = n) (hk : k < n) :
    Own perE ((w.setCell ⟨g, k * 2, none⟩ (.int .i64 x.1)).setCell ⟨g, k * 2 + 1, none⟩ (.int .i64 x.2)) B (.slice (some ⟨g, 0, none⟩) n c) (l.set k x) ∧ w.grownBy ((w.setCell ⟨g, k * 2, none⟩ (.int .i64 x.1)).setCell ⟨g, k * 2 + 1, none⟩ (.int .i64 x.2)) (some g) :=
  h.put hn hk (x := x) (cs := [.int .i64 x.1, .int .i64 x.2]) rfl
theorem ownper_at {w : World} {B g n c k : Nat} {l : List (Int × Int)} {x : Int × Int} (h : Own perE w B (.slice (some ⟨g, 0, none⟩) n c) l) (hk : l[k]? = some x) :
    w.cell? ⟨g, k * 2, none⟩ = some (.int .i64 x.1) ∧ w.cell? ⟨g, k * 2 + 1, none⟩ = some (.int .i64 x.2) := by
  obtain ⟨cs, rfl, hc⟩ := h.at hk
  exact ⟨hc 0 _ rfl, hc 1 _ rfl⟩
theorem hole_len {O : List (Int × Int)} {x : Int × Int} {j : Nat} (hj : j ≤ O.length) : (O.take j ++ x :: O.drop j).length = O.length + 1 := by
  rw [List.length_append, List.length_cons, List.length_take, List.length_drop]; omega
theorem hole_at {O : List (Int × Int)} {x y : Int × Int} {j i : Nat} (hi : i < j) (hy : O[i]? = some y) : (O.take j ++ x :: O.drop j)[i]? = some y := by
  have := (List.getElem?_eq_some_iff.1 hy).1
  rw [List.getElem?_append_left (by rw [List.length_take]; omega), List.getElem?_take, if_pos hi, hy]
theorem hole_set {O : List (Int × Int)} {x y : Int × Int} {j : Nat} (hj : j ≤ O.length) : (O.take j ++ x :: O.drop j).set j y = O.take j ++ y :: O.drop j := by
  have h : (O.take j).length = j := by rw [List.length_take]; omega
  rw [List.set_append_right j y (by omega), h, Nat.sub_self]; rfl
theorem hole_shift {O : List (Int × Int)} {y : Int × Int} {i : Nat} (hy : O[i]? = some y) : O.take (i + 1) ++ y :: O.drop (i + 1) = O.take i ++ y :: O.drop i := by
  obtain ⟨hi, rfl⟩ := List.getElem?_eq_some_iff.1 hy
  rw [List.drop_eq_getElem_cons hi, take_get (List.getElem?_eq_getElem hi), List.append_assoc]
  rfl
set_option maxHeartbeats 16000000 in
set_option maxRecDepth 100000 in
theorem rlevels_any (v : Value) (l : List Tup) (w : World) (hv : Tups w v l) (hl : l.length ≤ 3000) :
    Calls Tryz.prog 98 #[v] w fun e w' => ∃ M, LevOf (l.map perT) M ∧ SrtP M ∧ M.length ≤ l.length * (l.length * 2) ∧ RetOwn perE w M e w' := by
  obtain ⟨a, c, rfl⟩ := hv.shape
  have h63 := hv.1
  have HV := Lib.hid hv
  have HPT := Lib.hid (refBnd_any _ l w hv (by omega))
  have hrl := refBnd_length l
  obtain ⟨n, hn⟩ : ∃ n, n = l.length := ⟨_, rfl⟩
  have HN := Lib.hid hn
  rw [← hn] at HV HPT h63 hl hrl ⊢
  clear hv hn
  go_enter Tryz.func98, Tryz.ntmps98
  go_wp2_with fail
  refine HPT.out.mono ?_
  rintro _ w1 ⟨vp, rfl, hOp, hb1⟩
  obtain ⟨ap, cp, rfl⟩ := hOp.shape
  have HP := Lib.hid hOp.sl
  obtain ⟨m, hm⟩ : ∃ m, m = (refBnd l).length := ⟨_, rfl⟩
  have HM := Lib.hid hm
  rw [← hm] at HP hrl ⊢
  have HB1 := Lib.hid hb1
  have HV1 := Lib.hid (HV.out.below hb1)
  clear hOp hm hb1 HPT
  go_wp2_with fail
  go_loopw [5, 4] (fun i o wr => ∃ k : Nat, k ≤ m - 1 ∧ i = .int .i64 k ∧ Own intE wr w1.heap.size o (cntsL l k) ∧ Hid (Below w1.heap.size w1 wr)) (fun i _ _ => m - (RowKit.intOf i).toNat)
  case atStart => exact ⟨0, Nat.zero_le _, rfl, Own.nil _ _ _, Lib.hid (.refl _ _)⟩
  case round =>
    obtain ⟨k, hk, rfl, hO, HB⟩ := hrel
    obtain ⟨wo, rfl⟩ : ∃ wo : World, wo = wr := ⟨_, rfl⟩
    have hw1 : IntKind.i64.wrap ((k : Int) + 1) = (k : Int) + 1 := IntWalk.i64_in _ (by omega)
    by_cases hlt : k + 1 < m
    · obtain ⟨p, hp⟩ := lget_some (refBnd l) k (by rw [← HM.out]; omega)
      obtain ⟨p', hp'⟩ := lget_some (refBnd l) (k + 1) (by rw [← HM.out]; omega)
      have HSN : Hid (cntsL l (k + 1) = cntsL l k ++ [((ctL l l.length p : Nat) : Int)]) := Lib.hid (cntsL_snoc hp hp')
      obtain ⟨b, o, rfl, q0⟩ := ints_at (HP.out.below HB.out) hp
      have hkc : (k : Int) + 1 < (m : Int) := by omega
      have hkm : (k : Int) < (m : Int) := by omega
      have hkm2 : k < m := by omega
      have hlk : (cntsL l k).length = k := cntsL_length l k (by rw [← HM.out]; exact hk)
      obtain ⟨lk, hlke⟩ : ∃ lk, lk = cntsL l k := ⟨_, rfl⟩
      rw [← hlke] at hO hlk HSN
      obtain ⟨ao, co, rfl⟩ := hO.shape
      have HO := Lib.hid hO
      have HLK := Lib.hid hlk
      have HBO := Lib.hid (HV1.out.below HB.out)
      clear hp hp' hlke hO hlk
      go_wp2_with fail
      go_loopw [28, 6] (fun t z wr => ∃ j : Nat, j ≤ n ∧ t = .int .i64 j ∧ z = .int .i64 (ctL l j p : Nat) ∧ Hid (Below wo.heap.size wo wr)) (fun t _ _ => n - (RowKit.intOf t).toNat)
      case atStart => exact ⟨0, Nat.zero_le _, rfl, rfl, Lib.hid (.refl _ _)⟩
      case round =>
        obtain ⟨j, hj, rfl, rfl, HBj⟩ := hrel
        obtain ⟨wp, rfl⟩ : ∃ wp : World, wp = wr := ⟨_, rfl⟩
        have hcl := ctL_le l j p
        by_cases hlt2 : j < n
        · obtain ⟨x, hx⟩ := lget_some l j (by rw [← HN.out]; exact hlt2)
          obtain ⟨b2, o2, a1, n1, e1, m1, rfl, hvv, hll, p0, p1, p2, p3⟩ := tups_at (HBO.out.below HBj.out) hx
          have HC : Hid (ctL l (j + 1) p = ctL l j p + if pincl x.lo x.hi p = true then 1 else 0) := Lib.hid (ctL_snoc hx p)
          obtain ⟨cj, hcj⟩ : ∃ cj, cj = ctL l j p := ⟨_, rfl⟩
          rw [← hcj] at hcl HC ⊢
          obtain ⟨xv, xlo, xhi, xl⟩ := x
          dsimp only at p0 p1 p2 p3 HC
          have q1 := cell_keep HBj.out q0
          have hba := below_alloc wp (.cells #[.slice a1 xv.length n1, .int .i64 xlo, .int .i64 xhi, .slice e1 xl.length m1] 52)
          have hgx := World.alloc_heap_new wp (.cells #[.slice a1 xv.length n1, .int .i64 xlo, .int .i64 xhi, .slice e1 xl.length m1] 52)
          obtain ⟨w3, hw3⟩ : ∃ w3, w3 = wp.alloc (.cells #[.slice a1 xv.length n1, .int .i64 xlo, .int .i64 xhi, .slice e1 xl.length m1] 52) := ⟨_, rfl⟩
          rw [← hw3] at hba hgx
          have CI := fun W => Lib.hid (rincl_any xlo xhi p W)
          obtain ⟨q, hq⟩ : ∃ q, q = pincl xlo xhi p := ⟨_, rfl⟩
          rw [← hq] at CI HC
          obtain ⟨⟨d0, d1, d2, d3⟩, _⟩ := box_four hgx
          have q2 := cell_keep hba q1
          have HW3 := Lib.hid hw3
          have HB3 := Lib.hid (below_keep HBj.out hba)
          rw [hw3] at d0 d1 d2 d3 q2
          clear hx hcj hvv hll hba hgx hw3 hq
          go_upto_region 10 with fail
          rw [← HW3.out] at d0 d1 d2 d3 q2 ⊢
          have hbb : Below w3.heap.size w3 w3 := .refl _ _
          go_region_held3 (fun W => Below w3.heap.size w3 W ∧ W.cell? ⟨wp.heap.size, 1, none⟩ = some (.int .i64 xlo) ∧ W.cell? ⟨wp.heap.size, 2, none⟩ = some (.int .i64 xhi) ∧ W.cell? ⟨b, o + k, none⟩ = some (.int .i64 p))
            ((go_split_ands; refine ⟨?_, ?_, ?_, ?_⟩ <;> (first | with_reducible assumption | with_reducible exact Below.drew (by assumption) | with_reducible exact cell_drew (by assumption) | with_reducible exact below_keep (by assumption) (by assumption) | with_reducible exact cell_keep (by assumption) (by assumption))))
            (first | (go_at_call 91; refine (CI _).out.mono ?_; rintro e' wK ⟨rfl, hbK⟩))
          all_goals (
            go_split_ands
            cases q
            · go_wp2_with fail
              go_roundw
              case rel => exact ⟨j + 1, by omega, by go_num, by rw [HC.out, if_neg (by decide)]; rfl, Lib.hid (below_keep HB3.out (by assumption))⟩
              case measure => simp [RowKit.intOf]; omega
            · have HCW : Hid (IntKind.i64.wrap ((cj : Int) + 1) = (cj : Int) + 1) := Lib.hid (IntWalk.i64_in _ (by omega))
              go_wp2_with fail
              go_roundw
              case rel => exact ⟨j + 1, by omega, by go_num, by rw [HC.out, if_pos rfl]; first | rw [HCW.out]; rfl | rfl, Lib.hid (below_keep HB3.out (by assumption))⟩
              case measure => simp [RowKit.intOf]; omega)
        · obtain rfl : j = n := by omega
          have HSN' : Hid (cntsL l (k + 1) = lk ++ [((ctL l j p : Nat) : Int)]) := Lib.hid (by rw [HSN.out, ← HN.out])
          obtain ⟨cj, hcj⟩ : ∃ cj, cj = ctL l j p := ⟨_, rfl⟩
          rw [← hcj] at HSN' hcl ⊢
          have HOj := Lib.hid (HO.out.below HBj.out)
          have HBk := Lib.hid (below_keep HB.out HBj.out)
          clear hcj HSN
          go_wp2_with (at_builtin; refine wpList_push rfl (.tmp 42) (.tmp 44) 23 rfl intE Tryz.underlying23 w1.heap.size (.slice ao lk.length co) lk rfl HOj.out [((cj : Nat) : Int)] #[.int .i64 (cj : Int)] (Els.one rfl) 1 1 rfl rfl (by decide) (by have := HLK.out; unfold maxLen; omega) (by have := HLK.out; show _ * 8 ≤ _; omega) HBk.out.size ?_; intro g cap w5 hP hPa)
          go_roundw
          case rel => exact ⟨k + 1, by omega, by go_num, by rw [HSN'.out]; exact hP.own' (by simp), Lib.hid (HBk.out.trans hP.below)⟩
          case measure => simp [RowKit.intOf]; omega
    · have hlk : (cntsL l k).length = k := cntsL_length l k (by rw [← HM.out]; exact hk)
      obtain ⟨ac, cc, rfl⟩ := hO.shape
      have HC : Hid (Sl intE wo free (.slice ac (cntsL l k).length cc) (cntsL l k)) := Lib.hid hO.sl
      rw [hlk] at HC ⊢
      have HVo := Lib.hid (HV1.out.below HB.out)
      have HPo := Lib.hid (HP.out.below HB.out)
      have HBo := Lib.hid (below_keep HB1.out HB.out)
      clear hO hlk
      go_wp2_with fail
      go_loopw [10, 9] (fun s10 s9 wr => ∃ (q : Nat) (M : List (Int × Int)), q ≤ n ∧ s10 = .int .i64 ((q : Int) + 1) ∧ Hid (LvD l q M) ∧ Own perE wr wo.heap.size s9 M ∧ Hid (Below wo.heap.size wo wr)) (fun s _ _ => n + 1 - (RowKit.intOf s).toNat)
      case atStart => exact ⟨0, [], Nat.zero_le _, rfl, Lib.hid (LvD.start l), Own.nil _ _ _, Lib.hid (.refl _ _)⟩
      case round =>
        obtain ⟨q, M, hq, rfl, HD, hO9, HB9⟩ := hrel
        obtain ⟨wq, rfl⟩ : ∃ wq : World, wq = wr := ⟨_, rfl⟩
        have hML : M.length ≤ q * (n * 2) := by rw [HN.out]; exact HD.out.len
        have hML2 : M.length ≤ 18000000 := Nat.le_trans hML (Nat.mul_le_mul (Nat.le_trans hq hl) (Nat.mul_le_mul_right 2 hl))
        obtain ⟨a9, c9, rfl⟩ := hO9.shape
        by_cases hlt3 : q < n
        · have hc3 : (q : Int) + 1 ≤ (n : Int) := by omega
          have HO9 := Lib.hid hO9
          clear hO9
          go_wp2_with fail
          go_loopw [54, 11] (fun t s wr => ∃ i : Nat, i ≤ k ∧ t = .int .i64 i ∧ Own perE wr wq.heap.size s (stLv l (q + 1) i) ∧ Hid (Below wq.heap.size wq wr)) (fun t _ _ => k - (RowKit.intOf t).toNat)
          case atStart => exact ⟨0, Nat.zero_le _, rfl, Own.nil _ _ _, Lib.hid (.refl _ _)⟩
          case round =>
            obtain ⟨i, hi, rfl, hOs, HBs⟩ := hrel
            obtain ⟨wp, rfl⟩ : ∃ wp : World, wp = wr := ⟨_, rfl⟩
            have hsl := stLv_len l (q + 1) i
            rw [← HN.out] at hsl
            by_cases hlt4 : i < k
            · obtain ⟨x, hx⟩ := lget_some (refBnd l) i (by rw [← HM.out]; omega)
              obtain ⟨y, hy⟩ := lget_some (refBnd l) (i + 1) (by rw [← HM.out]; omega)
              have HSS : Hid (stLv l (q + 1) (i + 1) = stLv l (q + 1) i ++ if q + 1 ≤ ctL l l.length x then [(x, y)] else []) := Lib.hid (stLv_snoc hx hy)
              obtain ⟨bc, oc, rfl, z0⟩ := ints_at ((HC.out.below HB9.out).below HBs.out) (cntsL_get hlt4 hx hy)
              obtain ⟨bp, op, rfl, z1q⟩ := ints_at (HPo.out.below HB9.out) hx
              obtain ⟨bp', op', eb, z2q⟩ := ints_at (HPo.out.below HB9.out) hy
              cases eb
              have z1 := cell_keep HBs.out z1q
              have z2 := cell_keep HBs.out z2q
              obtain ⟨ct, hct⟩ : ∃ ct, ct = ctL l l.length x := ⟨_, rfl⟩
              rw [← hct] at z0 HSS
              have hctn : ct ≤ n := by rw [hct, HN.out]; exact ctL_le l l.length x
              obtain ⟨sl, hsle⟩ : ∃ sl, sl = stLv l (q + 1) i := ⟨_, rfl⟩
              rw [← hsle] at hOs hsl HSS
              obtain ⟨sa, sc, rfl⟩ := hOs.shape
              have hiw : IntKind.i64.wrap ((i : Int) + 1) = (i : Int) + 1 := IntWalk.i64_in _ (by omega)
              have hil : (i : Int) < (k : Int) := by omega
              have him : (i : Int) < (m : Int) := by omega
              have him2 : (i : Int) + 1 < (m : Int) := by omega
              have him3 : i < m := by omega
              have him4 : i + 1 < m := by omega
              have him0 : (0 : Int) ≤ (i : Int) + 1 := by omega
              have HOs := Lib.hid hOs
              have HSW := HBs.out.size
              have HSL := Lib.hid hsl
              clear hx hy hct hsle
              by_cases hge : q + 1 ≤ ct
              · have HSS' : Hid (stLv l (q + 1) (i + 1) = sl ++ [(x, y)]) := by show _ = _; rw [HSS.out, if_pos hge]
                have hgi : (q : Int) + 1 ≤ (ct : Int) := by omega
                have hbb : Below wp.heap.size wp wp := .refl _ _
                clear hOs
                go_upto_region 23 with fail
                go_region_held3 (fun W => Below wq.heap.size wq W ∧ W.cell? ⟨bp, op + i, none⟩ = some (.int .i64 x) ∧ W.cell? ⟨bp, op + (i + 1), none⟩ = some (.int .i64 y))
                  ((refine (fun hBB => ⟨hBB, cell_keep hBB z1q, cell_keep hBB z2q⟩) ?_; go_split_ands; first | with_reducible assumption | exact HBs.out | exact HBs.out.drew | exact Below.drew (by assumption) | exact below_alloc_keep (by assumption) | exact Below.trans (by assumption) (Pushed.below (by assumption))))
                  (first
                    | (refine step_push rfl (.tmp 62) (.tmp 73) 68 rfl perE Tryz.underlying68 wq.heap.size (.slice sa sl.length sc) sl rfl HOs.out.drew [(x, y)] #[.int .i64 x, .int .i64 y] (Els.one rfl) 1 1 rfl rfl (by decide) (by have := HSL.out; unfold maxLen; omega) (by have := HSL.out; show _ * 16 ≤ _; omega) HSW ?_; intro g cap w5 hP hPa))
                all_goals (
                  have hb5 : Below wq.heap.size wq w5 := by go_split_ands; assumption
                  have HB5 := Lib.hid hb5
                  go_wp2_with fail
                  go_roundw
                  case rel => exact ⟨i + 1, by omega, by go_num, by rw [HSS'.out]; exact hP.own' (by simp), HB5⟩
                  case measure => simp [RowKit.intOf]; omega)
              · have HSS' : Hid (stLv l (q + 1) (i + 1) = sl) := by show _ = _; rw [HSS.out, if_neg hge, List.append_nil]
                have hgi : ¬ (q : Int) + 1 ≤ (ct : Int) := by omega
                go_wp2_with fail
                go_roundw
                case rel => exact ⟨i + 1, by omega, by go_num, by rw [HSS'.out]; exact hOs, HBs⟩
                case measure => simp [RowKit.intOf]; omega
            · have HSA : Hid (stLv l (q + 1) i = setK l (q + 1)) := Lib.hid (stLv_all (by rw [← HM.out]; omega))
              rw [HSA.out] at hOs hsl
              obtain ⟨sa, sc, rfl⟩ := hOs.shape
              have HNS := Lib.hid (rnormP_any _ (setK l (q + 1)) wp hOs.sl (by omega))
              obtain ⟨N, hN⟩ : ∃ N, N = normP (setK l (q + 1)) := ⟨_, rfl⟩
              rw [← hN] at HNS
              have hNl : N.length ≤ n * 2 := by rw [hN, HN.out]; exact Nat.le_trans (normP_len _) (setK_len l (q + 1))
              have HNE := Lib.hid hN
              have HO9' := Lib.hid (HO9.out.below HBs.out)
              have HBq := Lib.hid (below_keep HB9.out HBs.out)
              have hszq := HBs.out.size
              clear hOs hN hsl HSA
              go_wp2_with fail
              refine HNS.out.mono ?_
              rintro _ w4 ⟨vN, rfl, hON, hb4⟩
              obtain ⟨aN, cN, rfl⟩ := hON.shape
              obtain ⟨nN, hnN⟩ : ∃ x, x = N.length := ⟨_, rfl⟩
              have HnN := Lib.hid hnN
              rw [← hnN] at hON hNl ⊢
              have HO4 := Lib.hid (HO9'.out.below hb4)
              have HB4 := Lib.hid (below_keep HBq.out hb4)
              have HAP : Hid (Apart (.slice aN nN cN) (.slice a9 M.length c9)) := Lib.hid fun kk h1 h2 => by have := (hON.lt kk h1).1; have := (HO9.out.lt kk h2).2; omega
              have HON := Lib.hid (hON.mono (Nat.le_trans HB9.out.size hszq))
              clear hON hnN hb4 HNS HO9'
              go_wp2_with fail
              go_loopw [79, 9] (fun t s wr => ∃ (i : Nat) (O : List (Int × Int)), i ≤ nN ∧ t = .int .i64 i ∧ Hid (LvJ M N i O) ∧ Own perE wr wo.heap.size s O ∧ Own perE wr wo.heap.size (.slice aN nN cN) N ∧ Apart (.slice aN nN cN) s ∧ Hid (Below wo.heap.size wo wr)) (fun t _ _ => nN - (RowKit.intOf t).toNat)
              case atStart => exact ⟨0, M, Nat.zero_le _, rfl, Lib.hid (LvJ.start N HD.out.srt), HO4.out, HON.out, HAP.out, HB4⟩
              case round =>
                obtain ⟨i, O, hi, rfl, HJ, hO, hNo, hA, HBi⟩ := hrel
                obtain ⟨wp2, rfl⟩ : ∃ wp2 : World, wp2 = wr := ⟨_, rfl⟩
                obtain ⟨aO, cO, rfl⟩ := hO.shape
                have hOl : O.length ≤ 18100000 := by have := HJ.out.len; rw [← HnN.out] at this; omega
                by_cases hlt5 : i < nN
                · obtain ⟨p, hp⟩ := lget_some N i (by rw [← HnN.out]; exact hlt5)
                  obtain ⟨gN, rfl⟩ : ∃ gN, aN = some ⟨gN, 0, none⟩ := by
                    obtain ⟨g', c', e⟩ := Own.shape_lt hNo (by rw [← HnN.out]; omega)
                    simp at e
                    exact ⟨g', e.1⟩
                  obtain ⟨z0, z1⟩ := ownper_at hNo hp
                  have HPN := Lib.hid hp
                  obtain ⟨p0, p1⟩ := p
                  dsimp only at z0 z1
                  have hba := below_alloc wp2 (.cells #[.int .i64 p0, .int .i64 p1] 50)
                  have hgx := World.alloc_heap_new wp2 (.cells #[.int .i64 p0, .int .i64 p1] 50)
                  obtain ⟨w6, hw6⟩ : ∃ w6, w6 = wp2.alloc (.cells #[.int .i64 p0, .int .i64 p1] 50) := ⟨_, rfl⟩
                  rw [← hw6] at hba hgx
                  have hO6 := hO.below hba
                  have HN6 := Lib.hid (hNo.below hba)
                  have HB6 := Lib.hid (below_keep HBi.out hba)
                  have hsz6 : wp2.heap.size < w6.heap.size := by rw [hw6, World.size_alloc]; omega
                  have hbo : some wp2.heap.size ≠ (Value.slice aO O.length cO).ownBlock := fun e => by have := (hO.lt _ e.symm).2; omega
                  obtain ⟨d0, d1, _, _⟩ := box_two hgx
                  have HW6 := Lib.hid hw6
                  have HA := Lib.hid hA
                  have HO6 := Lib.hid hO6
                  rw [hw6] at d0 d1
                  clear hp hba hgx hw6 hO hNo hA hO6
                  go_upto_region 29 with fail
                  rw [← HW6.out] at d0 d1 ⊢
                  go_wp2_with (at_builtin; refine wpList_push rfl (.tmp 85) (.tmp 87) 68 rfl perE Tryz.underlying68 wo.heap.size (.slice aO O.length cO) O rfl HO6.out [(p0, p1)] #[.int .i64 p0, .int .i64 p1] (Els.one rfl) 1 1 rfl rfl (by decide) (by unfold maxLen; omega) (by show _ * 16 ≤ _; omega) HB6.out.size ?_; intro g cap w7 hP hPa)
                  have e0 := hP.cell hbo d0
                  have e1 := hP.cell hbo d1
                  have hbg : wp2.heap.size ≠ g := hP.ne hbo hsz6
                  have HE00 := Lib.hid e0
                  have HE11 := Lib.hid e1
                  have HN7 := Lib.hid (hP.keep perE_flat HA.out.symm HN6.out)
                  have HA7 := Lib.hid ((hP.apart (n := O.length + 1) HA.out.symm (fun kk hk => (HN6.out.lt kk hk).2)).symm)
                  have HB7 := Lib.hid (HB6.out.trans hP.below)
                  have HO7 : Hid (Own perE w7 wo.heap.size (.slice (some ⟨g, 0, none⟩) (O.length + 1) cap) (O.take O.length ++ (p0, p1) :: O.drop O.length)) := Lib.hid (by rw [List.take_of_length_le (Nat.le_refl _), List.drop_eq_nil_of_le (Nat.le_refl _)]; exact hP.own' (by simp))
                  obtain ⟨no, hno⟩ : ∃ no, no = O.length := ⟨_, rfl⟩
                  have HNO := Lib.hid hno
                  rw [← hno] at HO7 HA7 hOl ⊢
                  clear hP hPa hno d0 d1 HO6 HN6 HA
                  go_wp2_with fail
                  go_loopw [16] (fun s16 wr => ∃ (j : Nat) (x : Int × Int), j ≤ no ∧ s16 = .int .i64 j ∧ Own perE wr wo.heap.size (.slice (some ⟨g, 0, none⟩) (no + 1) cap) (O.take j ++ x :: O.drop j) ∧ Hid (∀ q ∈ O.drop j, ltP (p0, p1) q) ∧ Hid (Kept (fun kk => kk = g) w7 wr) ∧ Hid (Below wo.heap.size wo wr)) (fun s _ => (RowKit.intOf s).toNat)
                  case atStart => exact ⟨no, (p0, p1), Nat.le_refl _, rfl, HO7.out, Lib.hid (by rw [HNO.out, List.drop_eq_nil_of_le (Nat.le_refl _)]; intro q h; cases h), Lib.hid ⟨Nat.le_refl _, fun _ _ _ => rfl⟩, HB7⟩
                  case round =>
                    obtain ⟨j, x, hj, rfl, hOj, HL, HK, HBj⟩ := hrel
                    obtain ⟨wq2, rfl⟩ : ∃ wq2 : World, wq2 = wr := ⟨_, rfl⟩
                    have e0' := HK.out.cell (p := ⟨wp2.heap.size, 0, none⟩) hbg e0
                    have e1' := HK.out.cell (p := ⟨wp2.heap.size, 1, none⟩) hbg e1
                    have hjO : j ≤ O.length := by rw [← HNO.out]; exact hj
                    have hSl : (O.take j ++ x :: O.drop j).length = no + 1 := by rw [hole_len hjO, ← HNO.out]
                    have hjb : (j : Int) < (no : Int) + 1 := by omega
                    have hjb0 : (0 : Int) ≤ (j : Int) := by omega
                    have HOj := Lib.hid hOj
                    have HSl := Lib.hid hSl
                    have HE0 := Lib.hid e0'
                    have HE1 := Lib.hid e1'
                    clear hOj hSl hjO
                    go_upto_region 30 with fail
                    go_cut [123] (fun s123 wx => ∃ b : Bool, s123 = .bool b ∧ Hid (b = true ↔ j ≠ 0 ∧ ∀ y, O[j - 1]? = some y → ltP (p0, p1) y) ∧ Hid (Below wq2.heap.size wq2 wx))
                    case first =>
                      by_cases h0 : j = 0
                      · have hdj : decide ((0 : Int) < (j : Int)) = false := decide_eq_false (by omega)
                        have HF : Hid (false = true ↔ j ≠ 0 ∧ ∀ y, O[j - 1]? = some y → ltP (p0, p1) y) := Lib.hid ⟨fun h => (by cases h), fun h => absurd h0 h.1⟩
                        have hjn : ¬ 0 < j := by omega
                        clear h0
                        go_region
                        all_goals (
                          go_wp2_with fail
                          go_meet
                          exact ⟨false, rfl, HF, Lib.hid ((Below.refl _ _).drew)⟩)
                      · obtain ⟨t, ht⟩ : ∃ t, t = j - 1 := ⟨_, rfl⟩
                        have hs1 : (j : Int) - 1 = (t : Int) := by omega
                        have hj0 : (0 : Int) < (j : Int) := by omega
                        have hdj : decide ((0 : Int) < (j : Int)) = true := decide_eq_true hj0
                        have hjn : 0 < j := by omega
                        have ht0 : (0 : Int) ≤ (t : Int) := by omega
                        have htb : (t : Int) < (no : Int) + 1 := by omega
                        have htj : t < j := by omega
                        obtain ⟨y, hy⟩ := lget_some O t (by rw [← HNO.out]; omega)
                        obtain ⟨cy0, cy1⟩ := ownper_at HOj.out (hole_at htj hy)
                        have HF : Hid (∀ b : Bool, (b = true ↔ ltP (p0, p1) y) → (b = true ↔ j ≠ 0 ∧ ∀ y, O[j - 1]? = some y → ltP (p0, p1) y)) := Lib.hid (fun b hb => by
                          rw [hb, ← ht]
                          exact ⟨fun h => ⟨h0, fun q hq => by rw [hy] at hq; cases hq; exact h⟩, fun h => h.2 y hy⟩)
                        obtain ⟨y0, y1⟩ := y
                        dsimp only at cy0 cy1
                        clear ht h0 hy
                        by_cases a1 : p0 < y0
                        · have a1d : decide (p0 < y0) = true := decide_eq_true a1
                          go_region
                          all_goals (
                            go_wp2_with fail
                            go_meet
                            exact ⟨true, rfl, Lib.hid (HF.out true ⟨fun _ => .inl a1, fun _ => rfl⟩), Lib.hid ((Below.refl _ _).drew)⟩)
                        · have a1d : decide (p0 < y0) = false := decide_eq_false a1
                          by_cases a2 : p0 = y0
                          · subst a2
                            have a2b : (p0 == p0) = true := by simp
                            by_cases a3 : p1 < y1
                            · have a3d : decide (p1 < y1) = true := decide_eq_true a3
                              go_region
                              all_goals (
                                go_wp2_with fail
                                go_meet
                                exact ⟨true, rfl, Lib.hid (HF.out true ⟨fun _ => .inr ⟨rfl, a3⟩, fun _ => rfl⟩), Lib.hid ((Below.refl _ _).drew)⟩)
                            · have a3d : decide (p1 < y1) = false := decide_eq_false a3
                              go_region
                              all_goals (
                                go_wp2_with fail
                                go_meet
                                exact ⟨false, rfl, Lib.hid (HF.out false ⟨fun h => (by cases h), fun h => (by unfold ltP at h; dsimp only at h; omega)⟩), Lib.hid ((Below.refl _ _).drew)⟩)
                          · have a2b : (p0 == y0) = false := by simpa using a2
                            go_region
                            all_goals (
                              go_wp2_with fail
                              go_meet
                              exact ⟨false, rfl, Lib.hid (HF.out false ⟨fun h => (by cases h), fun h => (by unfold ltP at h; dsimp only at h; omega)⟩), Lib.hid ((Below.refl _ _).drew)⟩)
                    case rest =>
                      obtain ⟨b, rfl, HQ, HWN⟩ := hcut
                      have hwn := HWN.out
                      obtain ⟨wd, rfl⟩ : ∃ wd : World, wd = wc := ⟨_, rfl⟩
                      have HOd : Hid (Own perE wd wo.heap.size (.slice (some ⟨g, 0, none⟩) (no + 1) cap) (O.take j ++ x :: O.drop j)) := Lib.hid (HOj.out.below hwn)
                      have HBd : Hid (Below wo.heap.size wo wd) := Lib.hid (HBj.out.trans (hwn.mono HBj.out.size))
                      have HKd : Hid (Kept (fun kk => kk = g) w7 wd) := Lib.hid (HK.out.trans (.of_below hwn))
                      have e0d : wd.cell? ⟨wp2.heap.size, 0, none⟩ = some (.int .i64 p0) := HKd.out.cell (p := ⟨wp2.heap.size, 0, none⟩) hbg HE00.out
                      have e1d : wd.cell? ⟨wp2.heap.size, 1, none⟩ = some (.int .i64 p1) := HKd.out.cell (p := ⟨wp2.heap.size, 1, none⟩) hbg HE11.out
                      have hjO : j ≤ O.length := by rw [← HNO.out]; exact hj
                      have hxat : (O.take j ++ x :: O.drop j)[j]? = some x := by rw [List.getElem?_append_right (by rw [List.length_take]; omega), List.length_take, Nat.min_eq_left hjO, Nat.sub_self]; rfl
                      obtain ⟨cx0, cx1⟩ := ownper_at HOd.out hxat
                      have fx0 := HOd.out.frozen HSl.out (j * 2)
                      have fx1 := HOd.out.frozen HSl.out (j * 2 + 1)
                      have hgw : wo.heap.size ≤ g := (HOd.out.lt g rfl).1
                      obtain ⟨x0, x1⟩ := x
                      dsimp only at cx0 cx1
                      clear hwn hxat HWN
                      cases b
                      · have hex : ∀ y, O[j - 1]? = some y → j = 0 ∨ ¬ ltP (p0, p1) y := fun y hy => by
                          by_cases h0 : j = 0
                          · exact .inl h0
                          · refine .inr fun hlt => ?_
                            have := HQ.out.2 ⟨h0, fun z hz => by rw [hy] at hz; cases hz; exact hlt⟩
                            cases this
                        have hid := ins_done (p := (p0, p1)) HJ.out.srt (j := j) hex HL.out hjO
                        have HJ2 := Lib.hid (HJ.out.step HPN.out hid.1 hid.2)
                        obtain ⟨hput, hgr⟩ := ownper_put (x := (p0, p1)) HOd.out HSl.out (k := j) (by omega)
                        rw [hole_set hjO] at hput
                        have HPUT := Lib.hid hput
                        have HGB : Hid (Below wo.heap.size wo ((wd.setCell ⟨g, j * 2, none⟩ (.int .i64 p0)).setCell ⟨g, j * 2 + 1, none⟩ (.int .i64 p1))) := Lib.hid (((HBd.out).setCell (p := ⟨g, j * 2, none⟩) hgw _).setCell (p := ⟨g, j * 2 + 1, none⟩) hgw _)
                        have HNF : Hid (Own perE ((wd.setCell ⟨g, j * 2, none⟩ (.int .i64 p0)).setCell ⟨g, j * 2 + 1, none⟩ (.int .i64 p1)) wo.heap.size (.slice (some ⟨gN, 0, none⟩) nN cN) N) := Lib.hid (HN7.out.kept_flat perE_flat HKd.out.setR.setR (fun kk hk e => HA7.out kk hk (by rw [e]; rfl)))
                        clear hid hput hgr hex hjO HQ
                        go_wp2_with fail
                        go_roundw
                        case rel => exact ⟨i + 1, _, by omega, by go_num, HJ2, HPUT.out, HNF.out, HA7.out, HGB⟩
                        case measure => simp [RowKit.intOf]; omega
                      · obtain ⟨t, ht⟩ : ∃ t, t = j - 1 := ⟨_, rfl⟩
                        have hQ1 := HQ.out.1 rfl
                        have hij : Hid (j = t + 1) := Lib.hid (by show _ = _; omega)
                        have hs1 : (j : Int) - 1 = (t : Int) := by omega
                        have ht0 : (0 : Int) ≤ (t : Int) := by omega
                        have htb : (t : Int) < (no : Int) + 1 := by omega
                        have htj : t < j := by omega
                        obtain ⟨y, hy⟩ := lget_some O t (by rw [← HNO.out]; omega)
                        obtain ⟨cy0, cy1⟩ := ownper_at HOd.out (hole_at htj hy)
                        have hly := hQ1.2 y (by rw [← ht]; exact hy)
                        obtain ⟨y0, y1⟩ := y
                        dsimp only at cy0 cy1
                        obtain ⟨hput, hgr⟩ := ownper_put (x := (y0, y1)) HOd.out HSl.out (k := j) (by omega)
                        rw [hole_set hjO, hij.out, hole_shift hy] at hput
                        have HPUT : Hid (Own perE ((wd.setCell ⟨g, j * 2, none⟩ (.int .i64 y0)).setCell ⟨g, j * 2 + 1, none⟩ (.int .i64 y1)) wo.heap.size (.slice (some ⟨g, 0, none⟩) (no + 1) cap) (O.take t ++ (y0, y1) :: O.drop t)) := Lib.hid (by rw [hij.out]; exact hput)
                        have HGB : Hid (Below wo.heap.size wo ((wd.setCell ⟨g, j * 2, none⟩ (.int .i64 y0)).setCell ⟨g, j * 2 + 1, none⟩ (.int .i64 y1))) := Lib.hid (((HBd.out).setCell (p := ⟨g, j * 2, none⟩) hgw _).setCell (p := ⟨g, j * 2 + 1, none⟩) hgw _)
                        have HKG : Hid (Kept (fun kk => kk = g) w7 ((wd.setCell ⟨g, j * 2, none⟩ (.int .i64 y0)).setCell ⟨g, j * 2 + 1, none⟩ (.int .i64 y1))) := Lib.hid (HKd.out.setR.setR)
                        have HL2 : Hid (∀ q ∈ O.drop t, ltP (p0, p1) q) := Lib.hid (by
                          intro q hq
                          rw [List.drop_eq_getElem_cons (List.getElem?_eq_some_iff.1 hy).1] at hq
                          rcases List.mem_cons.1 hq with rfl | hq
                          · rw [(List.getElem?_eq_some_iff.1 hy).2]; exact hly
                          · exact HL.out q (by rw [hij.out]; exact hq))
                        clear hput hgr hy hly hQ1 ht hjO HQ
                        go_wp2_with fail
                        go_roundw
                        case rel => exact ⟨t, (y0, y1), by omega, by first | rfl | go_num, HPUT.out, HL2, HKG, HGB⟩
                        case measure => simp [RowKit.intOf]; omega
                · have HJE : Hid (LvD l (q + 1) O) := Lib.hid (by have h := HJ.out; rw [HNE.out] at h; exact HD.out.next h (by rw [← HNE.out, ← HnN.out]; omega))
                  have HO := Lib.hid hO
                  clear hO hNo hA
                  go_wp2_with fail
                  go_roundw
                  case rel => exact ⟨q + 1, O, by omega, by go_num, HJE, HO.out, HBi⟩
                  case measure => simp [RowKit.intOf]; omega
        · have hqn : ¬ (q : Int) + 1 ≤ (n : Int) := by omega
          have HO9 := Lib.hid (hO9.mono HBo.out.size)
          have HBE := Lib.hid (below_keep HBo.out HB9.out)
          have hqe : q = n := by omega
          have HLE : Hid (LevOf (l.map perT) M ∧ SrtP M ∧ M.length ≤ n * (n * 2)) := Lib.hid ⟨HD.out.done (by rw [← HN.out]; omega), HD.out.srt, hqe ▸ hML⟩
          clear hO9 hqe
          go_wp2_with fail
          go_ret
          exact ⟨M, HLE.out.1, HLE.out.2.1, HLE.out.2.2, _, rfl, HO9.out, HBE.out⟩
end Go.Proofs.YtngigmpaabmngaaGreatDoor

namespace Go.Proofs.YtngigmpaabmngaaGreatDoor
open Go.RowKit Go.Lib

theorem grpOf_snoc {l : List Tup} {k : Nat} {x : Tup} (hx : l[k]? = some x) (r : GRow) : grpOf (l.take (k + 1)) r = grpOf (l.take k) r ++ if sameRowL x.vals r.vals x.lin r.lin = true then [x] else [] := by
  unfold grpOf
  rw [take_get hx, List.filter_append, List.filter_cons, List.filter_nil]
theorem grpOf_len (l : List Tup) (r : GRow) : (grpOf l r).length ≤ l.length := List.length_filter_le _ _
set_option maxHeartbeats 16000000 in
set_option maxRecDepth 100000 in
theorem rnormalize_any (v : Value) (l : List Tup) (w : World) (hv : Tups w v l) (hl : l.length ≤ 3000) (_hs : ∀ x ∈ l, x.vals.length ≤ 1000 ∧ x.lin.length ≤ 1000) :
    Calls Tryz.prog 55 #[v] w fun e w' => ∃ T, IsNF l T ∧ RetOwn tupE w T e w' := by
  obtain ⟨a, c, rfl⟩ := hv.shape
  have h63 := hv.1
  have HV := Lib.hid hv
  obtain ⟨n, hn⟩ : ∃ n, n = l.length := ⟨_, rfl⟩
  have HN := Lib.hid hn
  rw [← hn] at HV h63 hl ⊢
  clear hv hn
  go_enter Tryz.func55, Tryz.ntmps55
  go_wp2_with fail
  go_loopw [15, 3] (fun i o wr => ∃ k : Nat, k ≤ n ∧ i = .int .i64 k ∧ Own rowE wr w.heap.size o ((l.take k).map Tup.row) ∧ Hid (Below w.heap.size w wr)) (fun i _ _ => n - (RowKit.intOf i).toNat)
  case atStart => exact ⟨0, Nat.zero_le _, rfl, Own.nil _ _ _, Lib.hid (.refl _ _)⟩
  case round =>
    obtain ⟨k, hk, rfl, hO, HB⟩ := hrel
    obtain ⟨wo, rfl⟩ : ∃ wo : World, wo = wr := ⟨_, rfl⟩
    by_cases hlt : k < n
    · obtain ⟨x, hx⟩ := lget_some l k (by rw [← HN.out]; exact hlt)
      obtain ⟨b, o, a1, n1, e1, m1, rfl, hvv, hll, p0, p1, p2, p3⟩ := tups_at HV.out hx
      replace p0 := cell_keep HB.out p0
      replace p1 := cell_keep HB.out p1
      replace p2 := cell_keep HB.out p2
      replace p3 := cell_keep HB.out p3
      have HT : Hid ((l.take (k + 1)).map Tup.row = (l.take k).map Tup.row ++ [⟨x.vals, x.lin⟩]) := by show _ = _; rw [take_get hx, List.map_append]; rfl
      obtain ⟨lk, hlke⟩ : ∃ lk, lk = (l.take k).map Tup.row := ⟨_, rfl⟩
      have hlk : lk.length ≤ 3000 := by rw [hlke, List.length_map, List.length_take]; omega
      rw [← hlke] at hO HT
      obtain ⟨ao, co, rfl⟩ := hO.shape
      obtain ⟨xv, xlo, xhi, xl⟩ := x
      dsimp only at p0 p1 p2 p3 hvv hll HT
      have HVV := Lib.hid hvv
      have HLL := Lib.hid hll
      have HRW := fun W => Lib.hid (refRow_any (.slice a1 xv.length n1) (.slice e1 xl.length m1) xlo xhi W _ _ _ _ _ _ rfl rfl)
      have HB1 : Hid (Below w.heap.size w (wo.alloc (.cells #[.slice a1 xv.length n1, .int .i64 xlo, .int .i64 xhi, .slice e1 xl.length m1] 52))) := Lib.hid (below_alloc_keep HB.out)
      have HO1 := Lib.hid (hO.below (below_alloc wo (.cells #[.slice a1 xv.length n1, .int .i64 xlo, .int .i64 xhi, .slice e1 xl.length m1] 52)))
      clear hx hvv hll hO hlke
      go_wp2_with fail
      refine (HRW _).out.mono ?_
      rintro _ w3 ⟨rfl, hb3⟩
      have HB3 : Hid (Below w.heap.size w w3) := Lib.hid (below_keep HB1.out hb3)
      have HO3 := Lib.hid (HO1.out.below hb3)
      clear hb3 HB1 HO1 HRW
      have HIS : Hid (Els rowE w3 (fun j => some j = (Value.slice ao lk.length co).ownBlock) [⟨xv, xl⟩] [.slice a1 xv.length n1, .slice e1 xl.length m1]) := Lib.hid (Els.one ⟨_, _, rfl, ((HVV.out.old (Nat.le_refl _)).below HB3.out).mono (fun j _ hj => (HO3.out.lt j hj.symm).1), ((HLL.out.old (Nat.le_refl _)).below HB3.out).mono (fun j _ hj => (HO3.out.lt j hj.symm).1)⟩)
      go_wp2_with (at_builtin; refine wpList_push rfl (.tmp 19) (.tmp 22) 35 rfl rowE Tryz.underlying35 w.heap.size (.slice ao lk.length co) lk rfl HO3.out [⟨xv, xl⟩] #[.slice a1 xv.length n1, .slice e1 xl.length m1] HIS.out 1 1 rfl rfl (by decide) (by unfold maxLen; omega) (by show _ * 48 ≤ _; omega) HB3.out.size ?_; intro g cap w5 hP hPa)
      go_roundw
      case rel => exact ⟨k + 1, by omega, by go_num, by rw [HT.out]; exact hP.own' (by simp), Lib.hid (HB3.out.trans hP.below)⟩
      case measure => simp [RowKit.intOf]; omega
    · have hkk : l.take k = l := List.take_of_length_le (by rw [← HN.out]; omega)
      rw [hkk] at hO
      obtain ⟨ao, co, rfl⟩ := hO.shape
      have hml : (l.map Tup.row).length = n := by rw [List.length_map, ← HN.out]
      have hsl := hO.sl
      rw [hml] at hsl ⊢
      have HSR := Lib.hid (refSort_all _ (by rw [List.length_map, ← HN.out]; omega) _ (l.map Tup.row) wo rfl hsl)
      clear hml hsl
      clear hO hkk
      go_wp2_with fail
      refine HSR.out.mono ?_
      rintro _ w2 ⟨vo, rfl, hO2, hb2⟩
      have hrl : (rowsOf l).length = n := by rw [rowsOf_length, ← HN.out]
      obtain ⟨ar, cr, rfl⟩ := hO2.shape
      have HR : Hid (Sl rowE w2 free (.slice ar (rowsOf l).length cr) (rowsOf l)) := Lib.hid hO2.sl
      rw [show (sortR (l.map Tup.row)).length = n from hrl]
      rw [hrl] at HR
      have HRL := Lib.hid hrl
      have HB2 := Lib.hid (below_keep HB.out hb2)
      have HV2 := Lib.hid (HV.out.below HB2.out)
      clear hO2 hb2 HSR hrl
      go_wp2_with fail
      go_loopw [7, 6] (fun s7 s6 wr => ∃ (i : Nat) (out : List Tup), i ≤ n ∧ s7 = .int .i64 i ∧ Hid (RnI l i out) ∧ Own tupE wr w2.heap.size s6 out ∧ Hid (Below w2.heap.size w2 wr)) (fun s _ _ => n - (RowKit.intOf s).toNat)
      case atStart => exact ⟨0, [], Nat.zero_le _, rfl, Lib.hid (RnI.start l), Own.nil _ _ _, Lib.hid (.refl _ _)⟩
      case round =>
        obtain ⟨i, out, hi, rfl, HI, hO, HBi⟩ := hrel
        obtain ⟨wq, rfl⟩ : ∃ wq : World, wq = wr := ⟨_, rfl⟩
        have hol : out.length ≤ 3000 * 18000000 := Nat.le_trans HI.out.len (Nat.mul_le_mul (Nat.le_trans hi hl) (by rw [← HN.out]; exact Nat.mul_le_mul hl (Nat.mul_le_mul_right 2 hl)))
        obtain ⟨a6, c6, rfl⟩ := hO.shape
        by_cases hlt : i < n
        · obtain ⟨r, hr⟩ := lget_some (rowsOf l) i (by rw [HRL.out]; exact hlt)
          obtain ⟨br, or, a1, n1, e1, m1, rfl, hvr, hur, p0, p1⟩ := rows_at (HR.out.below HBi.out) hr
          have HRI := Lib.hid hr
          have HO := Lib.hid hO
          have hwq : w2.heap.size ≤ wq.heap.size := HBi.out.size
          have CSM : ∀ W (x : GRow) v u, Below wq.heap.size wq W → Sl valE wq free v x.vals → Sl intE wq free u x.lin → Hid (Calls Tryz.prog 38 #[.agg #[v, u], .agg #[.slice a1 r.vals.length n1, .slice e1 r.lin.length m1]] W fun e w' => e = .returned (.bool (sameRowL x.vals r.vals x.lin r.lin)) ∧ Below W.heap.size W w') := fun W x v u h hv hu => sameRow_any v u _ _ x.vals r.vals x.lin r.lin W (hv.below h).vals (hu.below h).ints (hvr.below h).vals (hur.below h).ints
          have CSM' := Lib.hid CSM
          have HVR := Lib.hid hvr
          have HUR := Lib.hid hur
          clear CSM hvr hur hO hr
          go_upto_region 12 with fail
          go_cut [46] (fun s46 wx => ∃ q : Bool, s46 = .bool q ∧ Hid (q = true ↔ i ≠ 0 ∧ (rowsOf l)[i - 1]? = some r) ∧ Hid (Below wq.heap.size wq wx))
          case first =>
            by_cases h0 : i = 0
            · have hi0 : ¬ (0 : Int) < (i : Int) := by omega
              have hin : ¬ 0 < i := by omega
              have HFQ : Hid (false = true ↔ i ≠ 0 ∧ (rowsOf l)[i - 1]? = some r) := Lib.hid ⟨fun h => (by cases h), fun h => absurd h0 h.1⟩
              clear h0
              go_region
              all_goals (
                go_wp2_with fail
                go_meet
                exact ⟨false, rfl, HFQ, Lib.hid (Below.refl _ _).drew⟩)
            · have hi0 : (0 : Int) < (i : Int) := by omega
              have hin : 0 < i := by omega
              obtain ⟨t, ht⟩ : ∃ t, t = i - 1 := ⟨_, rfl⟩
              have hs1 : (i : Int) - 1 = (t : Int) := by omega
              have htb : (t : Int) < (n : Int) := by omega
              have htn : t < n := by omega
              have hwt : IntKind.i64.wrap (t : Int) = t := IntWalk.i64_in _ (by omega)
              have htb0 : (0 : Int) ≤ (t : Int) := by omega
              have hib : (i : Int) < (n : Int) := by omega
              obtain ⟨y, hy⟩ := lget_some (rowsOf l) t (by rw [HRL.out]; omega)
              obtain ⟨br2, or2, a3, n3, e3, m3, eb, hvy, huy, q0, q1⟩ := rows_at (HR.out.below HBi.out) hy
              cases eb
              have HSM := fun W (h : Below wq.heap.size wq W) => CSM'.out W y _ _ h hvy huy
              obtain ⟨q, hq⟩ : ∃ q, q = sameRowL y.vals r.vals y.lin r.lin := ⟨_, rfl⟩
              rw [← hq] at HSM
              have HFQ : Hid (q = true ↔ i ≠ 0 ∧ (rowsOf l)[i - 1]? = some r) := Lib.hid (by
                rw [hq, ← ht, hy]
                have : sameRowL y.vals r.vals y.lin r.lin = true ↔ y = r := by
                  rw [sameRowL_iff]; obtain ⟨v, u⟩ := y; obtain ⟨v', u'⟩ := r; simp
                rw [this]
                exact ⟨fun h => ⟨h0, by rw [h]⟩, fun h => by have := h.2; simpa using this⟩)
              have HSM' := Lib.hid HSM
              have hbb : Below wq.heap.size wq wq := .refl _ _
              clear hy hvy huy hq HSM ht h0
              go_region_held3 (fun W => Below wq.heap.size wq W ∧ W.cell? ⟨br, or + t * 2, none⟩ = some (.slice a3 y.vals.length n3) ∧ W.cell? ⟨br, or + t * 2 + 1, none⟩ = some (.slice e3 y.lin.length m3) ∧ W.cell? ⟨br, or + i * 2, none⟩ = some (.slice a1 r.vals.length n1) ∧ W.cell? ⟨br, or + i * 2 + 1, none⟩ = some (.slice e1 r.lin.length m1))
                ((go_split_ands; refine ⟨?_, ?_, ?_, ?_, ?_⟩ <;> (first | with_reducible assumption | with_reducible exact Below.drew (by assumption) | with_reducible exact cell_drew (by assumption) | with_reducible exact cell_keep (by assumption) (by assumption) | with_reducible exact below_keep (by assumption) (by assumption))))
                (first | (go_at_call 38; go_split_ands; refine (HSM'.out _ (by first | assumption | exact Below.drew (by assumption))).out.mono ?_; rintro e' wS ⟨rfl, hbS⟩))
              all_goals (
                go_split_ands
                go_wp2_with fail
                go_meet
                exact ⟨q, rfl, HFQ, Lib.hid (by assumption)⟩)
          case rest =>
            obtain ⟨q, rfl, HQ, HBc⟩ := hcut
            have p0c := cell_keep HBc.out p0
            have p1c := cell_keep HBc.out p1
            have HOc := Lib.hid (HO.out.below HBc.out)
            have HB2c := Lib.hid (below_keep HBi.out HBc.out)
            cases q
            · have hne : ∀ a, (rowsOf l)[i - 1]? = some a → i = 0 ∨ a ≠ r := fun a ha => by
                by_cases h0 : i = 0
                · exact .inl h0
                · refine .inr fun e => ?_
                  have := HQ.out.2 ⟨h0, by rw [ha, e]⟩
                  cases this
              have HNE := Lib.hid hne
              have HVc := Lib.hid (HV2.out.below HB2c.out)
              obtain ⟨wz, rfl⟩ : ∃ wz : World, wz = wc := ⟨_, rfl⟩
              clear hne p0 p1 HQ
              go_wp2_with fail
              go_loopw [49, 8] (fun t s wr => ∃ j : Nat, j ≤ n ∧ t = .int .i64 j ∧ Own tupE wr wz.heap.size s (grpOf (l.take j) r) ∧ Hid (Below wz.heap.size wz wr)) (fun t _ _ => n - (RowKit.intOf t).toNat)
              case atStart => exact ⟨0, Nat.zero_le _, rfl, Own.nil _ _ _, Lib.hid (.refl _ _)⟩
              case round =>
                obtain ⟨j, hj, rfl, hOg, HBg⟩ := hrel
                obtain ⟨wp, rfl⟩ : ∃ wp : World, wp = wr := ⟨_, rfl⟩
                obtain ⟨ag, cg, rfl⟩ := hOg.shape
                have hgl : (grpOf (l.take j) r).length ≤ j := Nat.le_trans (grpOf_len _ _) (by rw [List.length_take]; omega)
                by_cases hlt2 : j < n
                · obtain ⟨x, hx⟩ := lget_some l j (by rw [← HN.out]; exact hlt2)
                  obtain ⟨b2, o2, a3, n3, e3, m3, rfl, hvv, hll, z0, z1, z2, z3⟩ := tups_at HVc.out hx
                  replace z0 := cell_keep HBg.out z0
                  replace z1 := cell_keep HBg.out z1
                  replace z2 := cell_keep HBg.out z2
                  replace z3 := cell_keep HBg.out z3
                  have HG : Hid (grpOf (l.take (j + 1)) r = grpOf (l.take j) r ++ if sameRowL x.vals r.vals x.lin r.lin = true then [x] else []) := Lib.hid (grpOf_snoc hx r)
                  have hba := below_alloc wp (.cells #[.slice a3 x.vals.length n3, .int .i64 x.lo, .int .i64 x.hi, .slice e3 x.lin.length m3] 52)
                  have hgx := World.alloc_heap_new wp (.cells #[.slice a3 x.vals.length n3, .int .i64 x.lo, .int .i64 x.hi, .slice e3 x.lin.length m3] 52)
                  obtain ⟨w5, hw5⟩ : ∃ w5, w5 = wp.alloc (.cells #[.slice a3 x.vals.length n3, .int .i64 x.lo, .int .i64 x.hi, .slice e3 x.lin.length m3] 52) := ⟨_, rfl⟩
                  rw [← hw5] at hba hgx
                  obtain ⟨⟨d0, d1, d2, d3⟩, _⟩ := box_four hgx
                  have HVZ := Lib.hid hvv
                  have HLZ := Lib.hid hll
                  have HVX := Lib.hid (hvv.below (below_keep HBg.out hba))
                  have HLX := Lib.hid (hll.below (below_keep HBg.out hba))
                  have g0 := cell_keep (below_keep HBg.out hba) p0c
                  have g1 := cell_keep (below_keep HBg.out hba) p1c
                  have hbq := below_keep (below_keep HBc.out HBg.out) hba
                  have CRW := fun W => Lib.hid (refRow_any (.slice a3 x.vals.length n3) (.slice e3 x.lin.length m3) x.lo x.hi W _ _ _ _ _ _ rfl rfl)
                  have CSX := fun W (h : Below w5.heap.size w5 W) => Lib.hid (sameRow_any _ _ _ _ x.vals r.vals x.lin r.lin W (HVX.out.below h).vals (HLX.out.below h).ints ((HVR.out.below hbq).below h).vals ((HUR.out.below hbq).below h).ints)
                  obtain ⟨q, hq⟩ : ∃ q, q = sameRowL x.vals r.vals x.lin r.lin := ⟨_, rfl⟩
                  rw [← hq] at CSX HG
                  have CSX' := Lib.hid CSX
                  obtain ⟨gl, hgl0⟩ : ∃ gl, gl = grpOf (l.take j) r := ⟨_, rfl⟩
                  rw [← hgl0] at hOg hgl HG ⊢
                  have HOg := Lib.hid (hOg.below hba)
                  have HB5 := Lib.hid (below_keep HBg.out hba)
                  have HW5 := Lib.hid hw5
                  have hib : (i : Int) < (n : Int) := by omega
                  rw [hw5] at d0 d1 d2 d3 g0 g1
                  obtain ⟨xv, xlo, xhi, xl⟩ := x
                  dsimp only at d0 d1 d2 d3 z0 z1 z2 z3 CRW CSX' HVX HLX HVZ HLZ HW5
                  clear hx hvv hll hba hgx hw5 hbq CSX hq hgl0 hOg
                  go_upto_region 17 with fail
                  rw [← HW5.out] at d0 d1 d2 d3 g0 g1 ⊢
                  have hbb : Below w5.heap.size w5 w5 := .refl _ _
                  go_region_held3 (fun W => Below w5.heap.size w5 W ∧ W.cell? ⟨wp.heap.size, 0, none⟩ = some (.slice a3 xv.length n3) ∧ W.cell? ⟨wp.heap.size, 1, none⟩ = some (.int .i64 xlo) ∧ W.cell? ⟨wp.heap.size, 2, none⟩ = some (.int .i64 xhi) ∧ W.cell? ⟨wp.heap.size, 3, none⟩ = some (.slice e3 xl.length m3) ∧ W.cell? ⟨br, or + i * 2, none⟩ = some (.slice a1 r.vals.length n1) ∧ W.cell? ⟨br, or + i * 2 + 1, none⟩ = some (.slice e1 r.lin.length m1))
                    ((go_split_ands; refine ⟨?_, ?_, ?_, ?_, ?_, ?_, ?_⟩ <;> (first | with_reducible assumption | with_reducible exact Below.drew (by assumption) | with_reducible exact cell_drew (by assumption) | with_reducible exact cell_keep (by assumption) (by assumption) | with_reducible exact below_keep (by assumption) (by assumption))))
                    (first
                      | (go_at_call 39; refine (CRW _).out.mono ?_; rintro e' wR ⟨rfl, hbR⟩)
                      | (go_at_call 38; go_split_ands; refine (CSX'.out _ (by first | assumption | exact Below.drew (by assumption))).out.mono ?_; rintro e' wS ⟨rfl, hbS⟩))
                  all_goals (
                    go_split_ands
                    have hbS5 : Below w5.heap.size w5 wS := by assumption
                    have HBS := Lib.hid (below_keep HB5.out hbS5)
                    have HOS := Lib.hid (HOg.out.below hbS5)
                    have HIS : Hid (Els tupE wS (fun k => some k = (Value.slice ag gl.length cg).ownBlock) [⟨xv, xlo, xhi, xl⟩] [.slice a3 xv.length n3, .int .i64 xlo, .int .i64 xhi, .slice e3 xl.length m3]) := Lib.hid (Els.one ⟨_, _, rfl, ((HVZ.out.old (Nat.le_refl _)).below HBS.out).mono (fun k _ hk => (HOS.out.lt k hk.symm).1), ((HLZ.out.old (Nat.le_refl _)).below HBS.out).mono (fun k _ hk => (HOS.out.lt k hk.symm).1)⟩)
                    cases q
                    · have HG' : Hid (grpOf (l.take (j + 1)) r = gl) := by show _ = _; rw [HG.out, if_neg (by decide), List.append_nil]
                      go_wp2_with fail
                      go_roundw
                      case rel => exact ⟨j + 1, by omega, by go_num, by rw [HG'.out]; exact HOS.out, HBS⟩
                      case measure => simp [RowKit.intOf]; omega
                    · have HG' : Hid (grpOf (l.take (j + 1)) r = gl ++ [⟨xv, xlo, xhi, xl⟩]) := by show _ = _; rw [HG.out, if_pos rfl]
                      go_wp2_with (at_builtin; refine wpList_push rfl (.tmp 60) (.tmp 62) 24 rfl tupE Tryz.underlying24 wz.heap.size (.slice ag gl.length cg) gl rfl HOS.out [⟨xv, xlo, xhi, xl⟩] #[.slice a3 xv.length n3, .int .i64 xlo, .int .i64 xhi, .slice e3 xl.length m3] HIS.out 1 1 rfl rfl (by decide) (by unfold maxLen; omega) (by show _ * 64 ≤ _; omega) HBS.out.size ?_; intro g cap w7 hP hPa)
                      go_roundw
                      case rel => exact ⟨j + 1, by omega, by go_num, by rw [HG'.out]; exact hP.own' (by simp), Lib.hid (HBS.out.trans hP.below)⟩
                      case measure => simp [RowKit.intOf]; omega)
                · have hkk : l.take j = l := List.take_of_length_le (by rw [← HN.out]; omega)
                  rw [hkk] at hOg hgl ⊢
                  have HLV := Lib.hid (rlevels_any _ (grpOf l r) wp hOg.sl (by omega))
                  have HLM : Hid (∀ M, LevOf ((grpOf l r).map perT) M → SrtP M → M.length ≤ (grpOf l r).length * ((grpOf l r).length * 2) → RnI l (i + 1) (out ++ M.map fun p => (⟨r.vals, p.1, p.2, r.lin⟩ : Tup)) ∧ M.length ≤ 18000000) := Lib.hid (fun M h1 h2 h3 => by
                    have h4 : M.length ≤ l.length * (l.length * 2) := Nat.le_trans h3 (Nat.mul_le_mul (grpOf_len l r) (Nat.mul_le_mul_right 2 (grpOf_len l r)))
                    exact ⟨HI.out.next HRI.out HNE.out h1.group h2 h4, Nat.le_trans h4 (by rw [← HN.out]; exact Nat.mul_le_mul hl (Nat.mul_le_mul_right 2 hl))⟩)
                  have HOp := Lib.hid (HOc.out.below HBg.out)
                  have HBp := Lib.hid (below_keep HB2c.out HBg.out)
                  have hszp : wz.heap.size ≤ wp.heap.size := HBg.out.size
                  generalize (grpOf l r).length = ng at HLV HLM ⊢
                  clear hkk hOg hgl
                  go_wp2_with fail
                  refine HLV.out.mono ?_
                  rintro _ w4 ⟨M, hM, hMs, hMl, vM, rfl, hOM, hb4⟩
                  obtain ⟨aM, cM, rfl⟩ := hOM.shape
                  obtain ⟨hRN, hM18⟩ := HLM.out M hM hMs hMl
                  have HRN := Lib.hid hRN
                  obtain ⟨nM, hnM⟩ : ∃ x, x = M.length := ⟨_, rfl⟩
                  have HnM := Lib.hid hnM
                  rw [← hnM] at hOM hM18 ⊢
                  have HO4 := Lib.hid (HOp.out.below hb4)
                  have HB4 := Lib.hid (below_keep HBp.out hb4)
                  have HAP : Hid (Apart (.slice aM nM cM) (.slice a6 out.length c6)) := Lib.hid fun kk h1 h2 => by have := (hOM.lt kk h1).1; have := (HOc.out.lt kk h2).2; omega
                  have HOM := Lib.hid (hOM.mono (Nat.le_trans HB2c.out.size hszp))
                  clear hM hMs hMl hOM hb4 hRN hnM HLV HLM
                  go_wp2_with fail
                  go_loopw [68, 6] (fun t s wr => ∃ j : Nat, j ≤ nM ∧ t = .int .i64 j ∧ Own tupE wr w2.heap.size s (out ++ (M.take j).map fun p => (⟨r.vals, p.1, p.2, r.lin⟩ : Tup)) ∧ Own perE wr w2.heap.size (.slice aM nM cM) M ∧ Apart (.slice aM nM cM) s ∧ Hid (Below w2.heap.size w2 wr)) (fun t _ _ => nM - (RowKit.intOf t).toNat)
                  case atStart => exact ⟨0, Nat.zero_le _, rfl, by rw [List.take_zero, List.map_nil, List.append_nil]; exact HO4.out, HOM.out, HAP.out, HB4⟩
                  case round =>
                    obtain ⟨j, hj, rfl, hOo, hNo, hA, HBj⟩ := hrel
                    obtain ⟨wp2, rfl⟩ : ∃ wp2 : World, wp2 = wr := ⟨_, rfl⟩
                    obtain ⟨acc, hacc⟩ : ∃ acc, acc = out ++ (M.take j).map fun p => (⟨r.vals, p.1, p.2, r.lin⟩ : Tup) := ⟨_, rfl⟩
                    have hal : acc.length ≤ 3000 * 18000000 + 18000000 := by rw [hacc, List.length_append, List.length_map, List.length_take]; omega
                    have HACC := Lib.hid hacc
                    rw [← hacc] at hOo
                    obtain ⟨aO, cO, rfl⟩ := hOo.shape
                    by_cases hlt5 : j < nM
                    · obtain ⟨p, hp⟩ := lget_some M j (by rw [← HnM.out]; exact hlt5)
                      obtain ⟨gN, rfl⟩ : ∃ gN, aM = some ⟨gN, 0, none⟩ := by
                        obtain ⟨g', c', e⟩ := Own.shape_lt hNo (by rw [← HnM.out]; omega)
                        simp at e
                        exact ⟨g', e.1⟩
                      obtain ⟨z0, z1⟩ := ownper_at hNo hp
                      have HT : Hid ((out ++ (M.take (j + 1)).map fun p => (⟨r.vals, p.1, p.2, r.lin⟩ : Tup)) = acc ++ [⟨r.vals, p.1, p.2, r.lin⟩]) := by show _ = _; rw [take_get hp, List.map_append, ← List.append_assoc, HACC.out]; rfl
                      obtain ⟨q0, q1⟩ := p
                      dsimp only at z0 z1 HT
                      obtain ⟨br3, or3, a5, n5, e5, m5, eb5, hv5, hu5, y0, y1⟩ := rows_at HR.out HRI.out
                      cases eb5
                      have hba := below_alloc wp2 (.cells #[.int .i64 q0, .int .i64 q1] 50)
                      have hgx := World.alloc_heap_new wp2 (.cells #[.int .i64 q0, .int .i64 q1] 50)
                      obtain ⟨w6, hw6⟩ : ∃ w6, w6 = wp2.alloc (.cells #[.int .i64 q0, .int .i64 q1] 50) := ⟨_, rfl⟩
                      rw [← hw6] at hba hgx
                      have hO6 := hOo.below hba
                      have HN6 := Lib.hid (hNo.below hba)
                      have HB6 := Lib.hid (below_keep HBj.out hba)
                      have hbo : some wp2.heap.size ≠ (Value.slice aO acc.length cO).ownBlock := fun e => by have := (hOo.lt _ e.symm).2; omega
                      have hbr : some br ≠ (Value.slice aO acc.length cO).ownBlock := fun e => by have := (hOo.lt _ e.symm).1; have := World.block_lt_of_cell? _ _ y0; dsimp only at this; omega
                      obtain ⟨d0, d1, _, _⟩ := box_two hgx
                      have x0 := cell_keep HB6.out y0
                      have x1 := cell_keep HB6.out y1
                      have HW6 := Lib.hid hw6
                      have HA := Lib.hid hA
                      have HO6 := Lib.hid hO6
                      have hib : (i : Int) < (n : Int) := by omega
                      have HIS : Hid (∀ W, Below w6.heap.size w6 W → Els tupE W (fun k => some k = (Value.slice aO acc.length cO).ownBlock) [⟨r.vals, q0, q1, r.lin⟩] [.slice a5 r.vals.length n5, .int .i64 q0, .int .i64 q1, .slice e5 r.lin.length m5]) := Lib.hid (fun W h => Els.one ⟨_, _, rfl, ((hv5.old (Nat.le_refl _)).below (below_keep HB6.out h)).mono (fun k _ hk => (HO6.out.lt k hk.symm).1), ((hu5.old (Nat.le_refl _)).below (below_keep HB6.out h)).mono (fun k _ hk => (HO6.out.lt k hk.symm).1)⟩)
                      rw [hw6] at d0 d1 x0 x1
                      clear hp hba hgx hw6 hOo hNo hA hO6 hv5 hu5 y0 y1 hacc
                      go_upto_region 23 with fail
                      rw [← HW6.out] at d0 d1 x0 x1 ⊢
                      have hbb : Below w6.heap.size w6 w6 := .refl _ _
                      go_region_held3 (fun W => Below w2.heap.size w6 W ∧ W.cell? ⟨wp2.heap.size, 0, none⟩ = some (.int .i64 q0) ∧ W.cell? ⟨wp2.heap.size, 1, none⟩ = some (.int .i64 q1) ∧ W.cell? ⟨br, or + i * 2, none⟩ = some (.slice a5 r.vals.length n5) ∧ W.cell? ⟨br, or + i * 2 + 1, none⟩ = some (.slice e5 r.lin.length m5))
                        ((go_split_ands; refine ⟨?_, ?_, ?_, ?_, ?_⟩ <;> (first | with_reducible assumption | exact Below.refl _ _ | exact (Below.refl _ _).drew | with_reducible exact Below.drew (by assumption) | with_reducible exact cell_drew (by assumption) | exact cell_alloc (by assumption) | exact belowB_alloc (by assumption) HB6.out.size | exact Below.trans (by assumption) (Pushed.below (by assumption)) | exact hPa.cell hbo (by assumption) | exact hP.cell hbo (by assumption) | exact hPa.cell hbr (by assumption) | exact hP.cell hbr (by assumption))))
                        (first
                          | (refine step_push rfl (.tmp 72) (.tmp 85) 24 rfl tupE Tryz.underlying24 w2.heap.size (.slice aO acc.length cO) acc rfl HO6.out.drew [⟨r.vals, q0, q1, r.lin⟩] #[.slice a5 r.vals.length n5, .int .i64 q0, .int .i64 q1, .slice e5 r.lin.length m5] (HIS.out _ (Below.refl _ _).drew) 1 1 rfl rfl (by decide) (by unfold maxLen; omega) (by show _ * 64 ≤ _; omega) HB6.out.size ?_; intro g cap w7 hP hPa))
                      all_goals (
                        go_split_ands
                        have HB7 := Lib.hid (HB6.out.trans (by assumption : Below w2.heap.size w6 w7))
                        have HN7 := Lib.hid (hP.keep perE_flat HA.out.symm HN6.out.drew)
                        have HA7 := Lib.hid ((hP.apart (n := acc.length + 1) HA.out.symm (fun kk hk => (HN6.out.lt kk hk).2)).symm)
                        go_wp2_with fail
                        go_roundw
                        case rel => exact ⟨j + 1, by omega, by go_num, by rw [HT.out]; exact hP.own' (by simp), HN7.out, HA7.out, HB7⟩
                        case measure => simp [RowKit.intOf]; omega)
                    · have hje : (out ++ (M.take j).map fun p => (⟨r.vals, p.1, p.2, r.lin⟩ : Tup)) = out ++ M.map fun p => (⟨r.vals, p.1, p.2, r.lin⟩ : Tup) := by rw [List.take_of_length_le (by rw [← HnM.out]; omega)]
                      have HOE : Hid (Own tupE wp2 w2.heap.size (.slice aO acc.length cO) (out ++ M.map fun p => (⟨r.vals, p.1, p.2, r.lin⟩ : Tup))) := Lib.hid (by rw [← hje, ← hacc]; exact hOo)
                      clear hOo hNo hA hacc hje
                      go_wp2_with fail
                      go_roundw
                      case rel => exact ⟨i + 1, _, by omega, by go_num, HRN, HOE.out, HBj⟩
                      case measure => simp [RowKit.intOf]; omega
            · have HSK : Hid (RnI l (i + 1) out) := Lib.hid (by
                obtain ⟨h0, h1⟩ := HQ.out.1 rfl
                obtain ⟨t, rfl⟩ : ∃ t, i = t + 1 := ⟨i - 1, by omega⟩
                exact HI.out.skip h1 HRI.out rfl)
              clear HQ
              go_wp2_with fail
              go_roundw
              case rel => exact ⟨i + 1, out, by omega, by go_num, HSK, HOc.out, HB2c⟩
              case measure => simp [RowKit.intOf]; omega
        · have HNF : Hid (IsNF l out) := Lib.hid (HI.out.done (by rw [HRL.out]; omega))
          have HO := Lib.hid (hO.mono HB2.out.size)
          have HBE := Lib.hid (below_keep HB2.out HBi.out)
          clear hO
          go_wp2_with fail
          go_ret
          exact ⟨out, HNF.out, _, rfl, HO.out, HBE.out⟩
end Go.Proofs.YtngigmpaabmngaaGreatDoor

namespace Go.Proofs.YtngigmpaabmngaaGreatDoor
open Go.RowKit Go.Lib

def rowsTup (lo hi : Int) (l : List GRow) : List Tup := l.map fun r => ⟨r.vals, lo, hi, r.lin⟩
def fromR (lo hi : Int) (l : List GRow) : List Tup := if pvalid lo hi = true then rowsTup lo hi l else []
theorem rowsTup_snoc (lo hi : Int) (l : List GRow) (r : GRow) : rowsTup lo hi (l ++ [r]) = rowsTup lo hi l ++ [⟨r.vals, lo, hi, r.lin⟩] := by unfold rowsTup; rw [List.map_append]; rfl
theorem rowsTup_length (lo hi : Int) (l : List GRow) : (rowsTup lo hi l).length = l.length := by unfold rowsTup; rw [List.length_map]
end Go.Proofs.YtngigmpaabmngaaGreatDoor

namespace Go.Proofs.YtngigmpaabmngaaGreatDoor
open Go.RowKit Go.Lib

set_option maxHeartbeats 4000000 in
set_option maxRecDepth 100000 in
theorem rfromRows_g {D : Nat → Prop} (v : Value) (l : List GRow) (lo hi : Int) (w : World) (hv : Sl (rowE.avoid D) w free v l) (hl : l.length ≤ 100000) (hs : ∀ x ∈ l, x.vals.length ≤ 1000 ∧ x.lin.length ≤ 1000) :
    Calls Tryz.prog 54 #[v, .agg #[.int .i64 lo, .int .i64 hi]] w (RetOwn (tupE.avoid D) w (fromR lo hi l)) := by
  obtain ⟨a, c, rfl⟩ := hv.shape
  have hb0 := below_alloc w (.cells #[.int .i64 lo, .int .i64 hi] 50)
  have hbx := World.alloc_heap_new w (.cells #[.int .i64 lo, .int .i64 hi] 50)
  have h63 := hv.1
  have HV := Lib.hid hv
  have HS := Lib.hid hs
  obtain ⟨n, hn⟩ : ∃ n, n = l.length := ⟨_, rfl⟩
  have HN := Lib.hid hn
  rw [← hn] at HV h63 hl ⊢
  have HPV := Lib.hid (rprd_valid lo hi (w.alloc (.cells #[.int .i64 lo, .int .i64 hi] 50)))
  obtain ⟨q, hq⟩ : ∃ q, q = pvalid lo hi := ⟨_, rfl⟩
  rw [← hq] at HPV
  have HQ := Lib.hid hq
  have HB0 := Lib.hid hb0
  have HBX := Lib.hid hbx
  clear hv hn hs hq hb0 hbx
  go_enter Tryz.func54, Tryz.ntmps54
  go_wp2_with fail
  refine HPV.out.mono ?_
  rintro _ w1 ⟨rfl, hb1⟩
  have HB1 := Lib.hid (HB0.out.trans (hb1.mono HB0.out.size))
  have HBX1 := Lib.hid (box_kept HBX.out hb1)
  clear hb1 HPV HBX HB0
  cases q
  · have HE : Hid (fromR lo hi l = []) := by show _ = _; unfold fromR; rw [← HQ.out]; rfl
    go_wp2_with fail
    go_ret
    exact ⟨_, rfl, by rw [HE.out]; exact Own.nil _ _ _, HB1.out⟩
  · have HE : Hid (fromR lo hi l = rowsTup lo hi l) := by show _ = _; unfold fromR; rw [← HQ.out]; rfl
    go_wp2_with fail
    go_loopw [13, 5] (fun i o wr => ∃ k : Nat, k ≤ n ∧ i = .int .i64 k ∧ Own (tupE.avoid D) wr w1.heap.size o (rowsTup lo hi (l.take k)) ∧ Hid (Below w1.heap.size w1 wr)) (fun i _ _ => n - (RowKit.intOf i).toNat)
    case atStart => exact ⟨0, Nat.zero_le _, rfl, Own.nil _ _ _, Lib.hid (.refl _ _)⟩
    case round =>
      obtain ⟨k, hk, rfl, hO, HB⟩ := hrel
      obtain ⟨wo, rfl⟩ : ∃ wo : World, wo = wr := ⟨_, rfl⟩
      obtain ⟨acc, hacc⟩ : ∃ acc, acc = rowsTup lo hi (l.take k) := ⟨_, rfl⟩
      have hal : acc.length ≤ 100000 := by rw [hacc, rowsTup_length, List.length_take]; omega
      rw [← hacc] at hO
      obtain ⟨ao, co, rfl⟩ := hO.shape
      have HACC := Lib.hid hacc
      by_cases hlt : k < n
      · obtain ⟨x, hx⟩ := lget_some l k (by rw [← HN.out]; exact hlt)
        have HBW := Lib.hid (HB1.out.trans (HB.out.mono HB1.out.size))
        obtain ⟨b, o, a1, n1, e1, m1, rfl, hvv2, hll2, p0, p1⟩ := rowsD_at (HV.out.old (Nat.le_refl _)) hx
        replace p0 := cell_keep HBW.out p0
        replace p1 := cell_keep HBW.out p1
        have hVw := True.intro
        have hvv := True.intro
        have hll := True.intro
        have HT : Hid (rowsTup lo hi (l.take (k + 1)) = acc ++ [⟨x.vals, lo, hi, x.lin⟩]) := by show _ = _; rw [take_get hx, rowsTup_snoc, hacc]
        have hxs := HS.out x (List.mem_of_getElem? hx)
        obtain ⟨xv, xl⟩ := x
        dsimp only at p0 p1 hvv2 hll2 HT hxs
        have hba := below_alloc wo (.cells #[.slice a1 xv.length n1, .slice e1 xl.length m1] 39)
        have HOA := Lib.hid (hO.below hba)
        have HBA := Lib.hid (below_keep HBW.out hba)
        have HBA1 := Lib.hid (below_keep HB.out hba)
        obtain ⟨d0, d1, _, _⟩ := box_two (box_kept (box_kept HBX1.out HB.out) hba)
        obtain ⟨r0, r1, _, _⟩ := box_two (World.alloc_heap_new wo (.cells #[.slice a1 xv.length n1, .slice e1 xl.length m1] 39))
        have HIS : Hid (Els (tupE.avoid D) (wo.alloc (.cells #[.slice a1 xv.length n1, .slice e1 xl.length m1] 39)) (fun j => some j = (Value.slice ao acc.length co).ownBlock) [⟨xv, lo, hi, xl⟩] [.slice a1 xv.length n1, .int .i64 lo, .int .i64 hi, .slice e1 xl.length m1]) := Lib.hid (Els.one ⟨_, _, rfl, (hvv2.below HBA.out).mono (fun j _ hj => hj.imp (fun hj => by have := (hO.lt j hj.symm).1; have := HB1.out.size; omega) id), (hll2.below HBA.out).mono (fun j _ hj => hj.imp (fun hj => by have := (hO.lt j hj.symm).1; have := HB1.out.size; omega) id)⟩)
        clear hx hvv hll hO hacc hVw hba hxs HB HBW hvv2 hll2
        go_wp2_with (at_builtin; refine wpList_push rfl (.tmp 17) (.tmp 24) 24 rfl (tupE.avoid D) Tryz.underlying24 w1.heap.size (.slice ao acc.length co) acc rfl HOA.out [⟨xv, lo, hi, xl⟩] #[.slice a1 xv.length n1, .int .i64 lo, .int .i64 hi, .slice e1 xl.length m1] HIS.out 1 1 rfl (congrArg (fun k => Value.slice (some ⟨k, 0, none⟩) 1 1) (World.size_alloc _ _).symm) (by decide) (by unfold maxLen; omega) (by show _ * 64 ≤ _; omega) HBA1.out.size ?_; intro g cap w5 hP hPa)
        go_roundw
        case rel => exact ⟨k + 1, by omega, by go_num, by rw [HT.out]; exact hP.own' (by simp), Lib.hid (HBA1.out.trans hP.below)⟩
        case measure => simp [RowKit.intOf]; omega
      · have hkk : l.take k = l := List.take_of_length_le (by rw [← HN.out]; omega)
        have hacc' : acc = fromR lo hi l := by rw [hacc, hkk, HE.out]
        have HAE := Lib.hid hacc'
        have HO := Lib.hid hO
        have HBW := Lib.hid (HB1.out.trans (HB.out.mono HB1.out.size))
        clear hacc hacc' hO hkk HB
        go_wp2_with fail
        go_ret
        exact ⟨_, rfl, HAE.out ▸ HO.out.mono HB1.out.size, HBW.out⟩
theorem rfromRows_any (v : Value) (l : List GRow) (lo hi : Int) (w : World) (hv : Sl rowE w free v l) (hl : l.length ≤ 100000) (hs : ∀ x ∈ l, x.vals.length ≤ 1000 ∧ x.lin.length ≤ 1000) :
    Calls Tryz.prog 54 #[v, .agg #[.int .i64 lo, .int .i64 hi]] w (RetOwn tupE w (fromR lo hi l)) :=
  (rfromRows_g v l lo hi w hv.toD hl hs).mono fun _ _ h => h.forget
end Go.Proofs.YtngigmpaabmngaaGreatDoor

namespace Go.Proofs.YtngigmpaabmngaaGreatDoor
open Go.RowKit Go.Lib

/-- The rows between a point and the next. -/
def binG (op : Nat) (a b : List Tup) (s : Int) : List GRow := opRows op (sortR (atDay a s)) (sortR (atDay b s))
theorem sortR_nil : sortR [] = [] := List.eq_nil_of_length_eq_zero (by rw [sortR_length]; rfl)
theorem binG_small {op : Nat} (h3 : op ≤ 3) {a b : List Tup} (hb : op = 3 → b = []) (ha1 : ∀ x ∈ a, x.vals.length ≤ 1000 ∧ x.lin.length ≤ 40) (hb1 : ∀ x ∈ b, x.vals.length ≤ 1000 ∧ x.lin.length ≤ 40) (hla : a.length ≤ 12) (hlb : b.length ≤ 12) (s : Int) :
    (∀ r ∈ binG op a b s, r.vals.length ≤ 1000 ∧ r.lin.length ≤ 1000) ∧ (binG op a b s).length ≤ 24 := by
  refine opRows_small h3 (fun e => by rw [hb e, show atDay [] s = [] from rfl, sortR_nil]) (fun r hr => ?_) (fun r hr => ?_) ?_ ?_
  · obtain ⟨x, hx, rfl, _⟩ := mem_atDay.1 ((sortR_perm _).mem_iff.1 hr)
    exact ha1 x hx
  · obtain ⟨x, hx, rfl, _⟩ := mem_atDay.1 ((sortR_perm _).mem_iff.1 hr)
    exact hb1 x hx
  · rw [sortR_length]; exact Nat.le_trans (atDay_len _ _) hla
  · rw [sortR_length]; exact Nat.le_trans (atDay_len _ _) hlb
theorem binOut_segs (op : Nat) (a b : List Tup) : binOut op a b = segOut (binG op a b) (refBnd (a ++ b)) := rfl
set_option maxHeartbeats 8000000 in
set_option maxRecDepth 100000 in
theorem binary_any (op : Nat) (h3 : op ≤ 3) (v u : Value) (a b : List Tup) (w : World) (hv : Tups w v a) (hu : Tups w u b) (hb : op = 3 → b = []) (hla : a.length ≤ 12) (hlb : b.length ≤ 12) (ha1 : ∀ x ∈ a, x.vals.length ≤ 1000 ∧ x.lin.length ≤ 40) (hb1 : ∀ x ∈ b, x.vals.length ≤ 1000 ∧ x.lin.length ≤ 40) :
    Calls Tryz.prog 20 #[.int .i64 (op : Int), v, u, .slice none 0 0, .int .i64 0, .int .i64 0] w fun e w' => ∃ T, IsNF (binOut op a b) T ∧ RetOwn tupE w T e w' := by
  have HGS := Lib.hid (fun s => binG_small h3 hb ha1 hb1 hla hlb s)
  have hpl := refBnd_length (a ++ b)
  have hpa := refBnd_asc (a ++ b)
  have hpv : ∀ p ∈ refBnd (a ++ b), 0 ≤ p ∧ p ≤ 1099511627776 := fun p hp => ends_bounds ((refBnd_mem _ _).1 hp)
  have HRB := Lib.hid (fun (v : Value) (W : World) (h : Tups W v (a ++ b)) => refBnd_any v (a ++ b) W h (by rw [List.length_append]; omega))
  have HSO := Lib.hid (binOut_segs op a b)
  obtain ⟨pts, hpts⟩ : ∃ p, p = refBnd (a ++ b) := ⟨_, rfl⟩
  rw [← hpts] at hpl hpa hpv HRB HSO
  rw [List.length_append] at hpl
  obtain ⟨m, hm⟩ : ∃ m, m = pts.length := ⟨_, rfl⟩
  have HM := Lib.hid hm
  have hm48 : m ≤ 48 := by omega
  have HPA := Lib.hid hpa
  have HPV := Lib.hid hpv
  have HLEN : Hid (∀ k, (segOut (binG op a b) (pts.take k)).length ≤ 48 * 24) := Lib.hid (fun k => Nat.le_trans (segOut_length (fun t => (HGS.out t).2) _) (Nat.mul_le_mul_right 24 (by rw [List.length_take]; omega)))
  have HSML : Hid (∀ x ∈ segOut (binG op a b) pts, x.vals.length ≤ 1000 ∧ x.lin.length ≤ 1000) := Lib.hid (fun x hx => by
    obtain ⟨t, ht⟩ := segOut_mem hx
    exact (HGS.out t).1 x.row ht)
  obtain ⟨a1, c1, rfl⟩ := hv.shape
  obtain ⟨a2, c2, rfl⟩ := hu.shape
  have HV0 := Lib.hid (hv.mono (G' := fun j => some j = (Value.slice none 0 0).ownBlock) (fun k _ hk => by cases hk))
  have hy5 : ∀ (w5 : World) (v5 : Value), Below w.heap.size w w5 → Own tupE w5 w.heap.size v5 ([] ++ a) → Sl tupE w5 (fun k => some k = v5.ownBlock) (.slice a2 b.length c2) b := fun w5 v5 hb ho => ((hu.old (Nat.le_refl _)).below hb).mono fun k _ hk => (ho.lt k hk.symm).1
  have HY5 := Lib.hid hy5
  have CTA := Lib.hid (fun (D : Nat → Prop) (hD : ∀ z, D z → w.heap.size ≤ z) W (h : Below w.heap.size w W) (p : Int) => rtimeslice_g (D := D) (.slice a1 a.length c1) a p W (((hv.old (Nat.le_refl _)).below h).mono (fun k _ hk => hD k hk)).toD (by omega) (fun x hx => ⟨(ha1 x hx).1, by have := (ha1 x hx).2; omega⟩))
  have CTB := Lib.hid (fun (D : Nat → Prop) (hD : ∀ z, D z → w.heap.size ≤ z) W (h : Below w.heap.size w W) (p : Int) => rtimeslice_g (D := D) (.slice a2 b.length c2) b p W (((hu.old (Nat.le_refl _)).below h).mono (fun k _ hk => hD k hk)).toD (by omega) (fun x hx => ⟨(hb1 x hx).1, by have := (hb1 x hx).2; omega⟩))
  have HXS : Hid (∀ s, (sortR (atDay a s)).length ≤ 1000 ∧ (∀ r ∈ sortR (atDay a s), r.lin.length ≤ 1000)) := Lib.hid (fun s => ⟨by rw [sortR_length]; exact Nat.le_trans (atDay_len _ _) (by omega), fun r hr => by
    obtain ⟨x, hx, rfl, _⟩ := mem_atDay.1 ((sortR_perm _).mem_iff.1 hr)
    have := (ha1 x hx).2
    show x.lin.length ≤ 1000
    omega⟩)
  have HYS : Hid (∀ s, (sortR (atDay b s)).length ≤ 1000 ∧ (∀ r ∈ sortR (atDay b s), r.lin.length ≤ 1000)) := Lib.hid (fun s => ⟨by rw [sortR_length]; exact Nat.le_trans (atDay_len _ _) (by omega), fun r hr => by
    obtain ⟨x, hx, rfl, _⟩ := mem_atDay.1 ((sortR_perm _).mem_iff.1 hr)
    have := (hb1 x hx).2
    show x.lin.length ≤ 1000
    omega⟩)
  obtain ⟨na, hna⟩ : ∃ n, n = a.length := ⟨_, rfl⟩
  obtain ⟨nb, hnb⟩ : ∃ n, n = b.length := ⟨_, rfl⟩
  have HNA := Lib.hid hna
  have HNB := Lib.hid hnb
  rw [← hna] at HV0 CTA hla ⊢
  rw [← hnb] at HY5 CTB hlb ⊢
  clear hv hu hb ha1 hb1 hpl hpa hpv hpts hm hy5 hna hnb
  go_enter Tryz.func20, Tryz.ntmps20
  go_wp2_with (at_builtin; first
    | (refine wpList_join rfl (.const (.slice none 0 0)) (.tmp 20) 24 rfl tupE Tryz.underlying24 w.heap.size (.slice none 0 0) (.slice a1 na c1) [] a rfl rfl (Own.nil _ _ _) HV0.out (by rw [← HNA.out]; unfold maxLen; simp; omega) (by rw [← HNA.out]; show _ * 64 ≤ _; simp; omega) (Nat.le_refl _) na (by rw [← HNA.out]; exact Nat.zero_add _) ?_; intro a5 c5 w5 hJ)
    | (refine wpList_join rfl (.tmp 21) (.tmp 22) 24 rfl tupE Tryz.underlying24 w.heap.size (.slice a5 na c5) (.slice a2 nb c2) ([] ++ a) b rfl rfl hJ.own (HY5.out _ _ hJ.below hJ.own) (by rw [List.nil_append, ← HNA.out, ← HNB.out]; unfold maxLen; omega) (by rw [List.nil_append, ← HNA.out, ← HNB.out]; show _ * 64 ≤ _; omega) hJ.below.size (na + nb) (by rw [List.nil_append, ← HNA.out, ← HNB.out]) ?_; intro a6 c6 w6 hK))
  have HRB6 := Lib.hid (HRB.out (.slice a6 (na + nb) c6) w6 hK.own.sl)
  have HB6 := Lib.hid (hJ.below.trans hK.below)
  clear hJ hK HRB
  refine HRB6.out.mono ?_
  rintro _ w7 ⟨vP, rfl, hOP, hb7⟩
  obtain ⟨aP, cP, rfl⟩ := hOP.shape
  rw [← HM.out]
  have HB7 := Lib.hid (below_keep HB6.out hb7)
  have hP7 := hOP.sl.old (Nat.le_refl w7.heap.size)
  rw [← HM.out] at hP7
  have HP7 := Lib.hid hP7
  clear hOP hb7 hP7 HRB6
  go_wp2_with fail
  go_loopw [16, 15] (fun i o wr => ∃ k : Nat, (k = 0 ∨ k + 1 ≤ m) ∧ i = .int .i64 k ∧ Own tupE wr w7.heap.size o (segOut (binG op a b) (pts.take (k + 1))) ∧ Hid (Below w7.heap.size w7 wr)) (fun i _ _ => m + 1 - (RowKit.intOf i).toNat)
  case atStart => exact ⟨0, .inl rfl, rfl, by rw [segOut_one]; exact Own.nil _ _ _, Lib.hid (.refl _ _)⟩
  case round =>
    obtain ⟨k, hk, rfl, hO, HB⟩ := hrel
    obtain ⟨wq, rfl⟩ : ∃ wq : World, wq = wr := ⟨_, rfl⟩
    have hlen := HLEN.out (k + 1)
    have hk48 : k ≤ 48 := by omega
    by_cases hlt : k + 1 < m
    · obtain ⟨p, hp⟩ := lget_some pts k (by rw [← HM.out]; omega)
      obtain ⟨q, hq⟩ := lget_some pts (k + 1) (by rw [← HM.out]; omega)
      have HSN : Hid (segOut (binG op a b) (pts.take (k + 1 + 1)) = segOut (binG op a b) (pts.take (k + 1)) ++ during (binG op a b p) p q) := Lib.hid (segOut_snoc _ _ k p q hp hq)
      have hpq : pvalid p q = true := by
        obtain ⟨h1, e1⟩ := List.getElem?_eq_some_iff.1 hp
        obtain ⟨h2, e2⟩ := List.getElem?_eq_some_iff.1 hq
        have h3 := List.pairwise_iff_getElem.1 HPA.out k (k + 1) h1 h2 (Nat.lt_succ_self _)
        have h4 := HPV.out p (List.mem_of_getElem? hp)
        have h5 := HPV.out q (List.mem_of_getElem? hq)
        rw [e1, e2] at h3
        exact pvalid_iff.2 ⟨h4.1, h3, h5.2⟩
      obtain ⟨bp, o', ea, q0⟩ := ints_at (HP7.out.below HB.out) hp
      obtain ⟨bp', o'', ea', q1⟩ := ints_at (HP7.out.below HB.out) hq
      subst ea
      cases ea'
      obtain ⟨lk, hlk⟩ : ∃ lk, lk = segOut (binG op a b) (pts.take (k + 1)) := ⟨_, rfl⟩
      rw [← hlk] at hO HSN hlen
      obtain ⟨ao, co, rfl⟩ := hO.shape
      have hbp : ∀ z, (Value.slice ao lk.length co).ownBlock = some z → w7.heap.size ≤ z := fun z e => (hO.lt z e).1
      have hpb : bp < w7.heap.size := by
        obtain ⟨_, a', c', e, _, h4⟩ := HP7.out
        cases e
        obtain ⟨b', o', e, h5, _⟩ := h4 (by have := HM.out; omega)
        cases e
        exact Nat.lt_of_not_le h5
      have HOQ := Lib.hid hO
      have HBW := Lib.hid (below_keep HB7.out HB.out)
      obtain ⟨hbs, hbl⟩ := HGS.out p
      have HBS := Lib.hid hbs
      have hDlo : ∀ z, some z = (Value.slice ao lk.length co).ownBlock → w.heap.size ≤ z := fun z e => Nat.le_trans HB7.out.size (hbp z e.symm)
      have HDH : Hid (∀ z, some z = (Value.slice ao lk.length co).ownBlock → z < wq.heap.size) := Lib.hid (fun z e => (hO.lt z e.symm).2)
      have CTAq := Lib.hid (CTA.out (fun z => some z = (Value.slice ao lk.length co).ownBlock) hDlo wq.drew HBW.out.drew p)
      have CTBq := Lib.hid (fun W (h : Below wq.heap.size wq W) => CTB.out (fun z => some z = (Value.slice ao lk.length co).ownBlock) hDlo W (below_keep HBW.out h) p)
      obtain ⟨hxl, hxs⟩ := HXS.out p
      obtain ⟨hyl, hys⟩ := HYS.out p
      have hgp : binG op a b p = opRows op (sortR (atDay a p)) (sortR (atDay b p)) := rfl
      rw [hgp] at HSN HBS hbl
      obtain ⟨X, hX⟩ : ∃ X, X = sortR (atDay a p) := ⟨_, rfl⟩
      obtain ⟨Y, hY⟩ : ∃ Y, Y = sortR (atDay b p) := ⟨_, rfl⟩
      rw [← hX] at CTAq HSN HBS hbl hxl hxs
      rw [← hY] at CTBq HSN HBS hbl hyl hys
      have HXS2 := Lib.hid hxs
      have HYS2 := Lib.hid hys
      have hw1 : IntKind.i64.wrap (k : Int) = (k : Int) := IntWalk.i64_in _ (by omega)
      have hw2 : IntKind.i64.wrap ((k : Int) + 1) = (k : Int) + 1 := IntWalk.i64_in _ (by omega)
      have hg2 : (k : Int) + 1 < (m : Int) := by omega
      have hg3 : (k : Int) < (m : Int) := by omega
      have hg4 : k < m := by omega
      have hg5 : (0 : Int) ≤ (k : Int) + 1 := by omega
      have hbb : Below wq.heap.size wq wq := .refl _ _
      clear hp hq hlk hO hX hY hgp hbs hxs hys hk hDlo
      go_upto_region 7 with fail
      go_region_held3 (fun W => Below wq.heap.size wq W ∧ W.cell? ⟨bp, o' + k, none⟩ = some (.int .i64 p) ∧ W.cell? ⟨bp, o' + (k + 1), none⟩ = some (.int .i64 q))
        ((go_split_ands; refine (fun hBB => ⟨hBB, cell_keep hBB q0, cell_keep hBB q1⟩) ?_; first | with_reducible assumption | with_reducible exact Below.drew (by assumption) | with_reducible exact below_keep (by assumption) (by assumption)))
        (first
          | (go_at_call 48; (with_reducible refine CTAq.out.mono ?_); rintro e' wX ⟨vX, rfl, hOX, hbX⟩; have hBX : Below wq.heap.size wq wX := (Below.refl wq.heap.size wq).drew.trans hbX; obtain ⟨aX, cX, rfl⟩ := hOX.shape)
          | (go_at_call 48; (with_reducible refine (CTBq.out wX hBX).mono ?_); rintro e' wY ⟨vY, rfl, hOY, hbY⟩; have hBY : Below wq.heap.size wq wY := below_keep hBX hbY; obtain ⟨aY, cY, rfl⟩ := hOY.shape))
      have HXY := Lib.hid (hOX.sl.below hbY)
      have HYY := Lib.hid hOY.sl
      have HOY := Lib.hid (HOQ.out.below hBY)
      have r0 := cell_keep hBY q0
      have r1 := cell_keep hBY q1
      have HBY := Lib.hid hBY
      have HDY : Hid (∀ z, some z = (Value.slice ao lk.length co).ownBlock → z < wY.heap.size) := Lib.hid (fun z e => Nat.lt_of_lt_of_le (HDH.out z e) hBY.size)
      have hzY : w7.heap.size ≤ wY.heap.size := Nat.le_trans HB.out.size hBY.size
      clear hOX hbX hBX hOY hbY hBY hbb q0 q1 CTAq CTBq
      go_upto_block 2 with fail
      go_cut [19] (fun s wx => ∃ aR cR, s = .slice aR (opRows op X Y).length cR ∧ Own (rowE.avoid (fun z => some z = (Value.slice ao lk.length co).ownBlock)) wx wY.heap.size (.slice aR (opRows op X Y).length cR) (opRows op X Y) ∧ Hid (Below wY.heap.size wY wx))
      case first =>
        rcases (by omega : op = 0 ∨ op = 1 ∨ op = 2 ∨ op = 3) with h | h | h | h
        · subst h
          have HC := Lib.hid (runion_any _ _ X Y wY HXY.out HYY.out hxl hyl)
          go_wp2_with fail
          refine HC.out.mono ?_
          rintro _ w9 ⟨vR, rfl, hOR, hb9⟩
          obtain ⟨aR, cR, rfl⟩ := hOR.shape
          have HOR := Lib.hid hOR
          have HB9 := Lib.hid hb9
          clear hOR hb9 HC
          go_wp2_with fail
          go_meet
          exact ⟨aR, cR, by rw [show opRows 0 X Y = X ++ Y from rfl, List.length_append], HOR.out, HB9⟩
        · subst h
          have HC := Lib.hid (rexc_any _ _ X Y wY HDY.out HXY.out HYY.out.forget hxl hyl HXS2.out HYS2.out)
          go_wp2_with fail
          refine HC.out.mono ?_
          rintro _ w9 ⟨vR, rfl, hOR, hb9⟩
          obtain ⟨aR, cR, rfl⟩ := hOR.shape
          have HOR := Lib.hid hOR
          have HB9 := Lib.hid hb9
          clear hOR hb9 HC
          go_wp2_with fail
          go_meet
          exact ⟨aR, cR, rfl, HOR.out, HB9⟩
        · subst h
          have HC := Lib.hid (rint_any _ _ X Y wY HDY.out HXY.out HYY.out.forget hxl hyl HXS2.out HYS2.out)
          go_wp2_with fail
          refine HC.out.mono ?_
          rintro _ w9 ⟨vR, rfl, hOR, hb9⟩
          obtain ⟨aR, cR, rfl⟩ := hOR.shape
          have HOR := Lib.hid hOR
          have HB9 := Lib.hid hb9
          clear hOR hb9 HC
          go_wp2_with fail
          go_meet
          exact ⟨aR, cR, rfl, HOR.out, HB9⟩
        · subst h
          have HC := Lib.hid (rdist_any _ X wY HDY.out HXY.out hxl HXS2.out)
          go_wp2_with fail
          refine HC.out.mono ?_
          rintro _ w9 ⟨vR, rfl, hOR, hb9⟩
          obtain ⟨aR, cR, rfl⟩ := hOR.shape
          have HOR := Lib.hid hOR
          have HB9 := Lib.hid hb9
          clear hOR hb9 HC
          go_wp2_with fail
          go_meet
          exact ⟨aR, cR, rfl, HOR.out, HB9⟩
      case rest =>
        obtain ⟨aR, cR, rfl, hOR, HBR⟩ := hcut
        have hpo : some bp ≠ (Value.slice ao lk.length co).ownBlock := fun e => by have := hbp bp e.symm; omega
        have f0 := cell_keep HBR.out r0
        have f1 := cell_keep HBR.out r1
        have HOR2 := Lib.hid (HOY.out.below HBR.out)
        have HBR2 : Hid (Below w7.heap.size w7 wc) := Lib.hid (below_keep HB.out (below_keep HBY.out HBR.out))
        have hzR : w7.heap.size ≤ wc.heap.size := HBR2.out.size
        have HKP : Hid (∀ W, Keeps (fun z => some z = (Value.slice ao lk.length co).ownBlock) wc W → W.cell? ⟨bp, o' + k, none⟩ = some (.int .i64 p) ∧ W.cell? ⟨bp, o' + (k + 1), none⟩ = some (.int .i64 q)) := Lib.hid (fun W hW => ⟨hW.out.cell hpo f0, hW.out.cell hpo f1⟩)
        have HFR := Lib.hid (rfromRows_g _ (opRows op X Y) p q wc.drew (hOR.sl.below (Below.refl _ _).drew) (by omega) HBS.out)
        have hfr : fromR p q (opRows op X Y) = during (opRows op X Y) p q := by unfold fromR; rw [if_pos hpq]; rfl
        rw [hfr] at HFR
        have hdl : (during (opRows op X Y) p q).length ≤ 24 := by rw [during_length]; exact hbl
        obtain ⟨R, hR⟩ : ∃ R, R = opRows op X Y := ⟨_, rfl⟩
        rw [← hR] at HFR hdl HSN ⊢
        obtain ⟨D, hD⟩ : ∃ D, D = during R p q := ⟨_, rfl⟩
        rw [← hD] at HFR hdl HSN
        obtain ⟨nd, hnd⟩ : ∃ n, n = lk.length + D.length := ⟨_, rfl⟩
        have HND := Lib.hid hnd
        have hbb : Keeps (fun z => some z = (Value.slice ao lk.length co).ownBlock) wc wc := Keeps.refl _ _
        generalize R.length = nR at HFR ⊢
        clear hOR hR hD hfr hnd hpo r0 r1 HXY HYY HOY
        go_upto_region 21 with fail
        go_region_held3 (fun W => Keeps (fun z => some z = (Value.slice ao lk.length co).ownBlock) wc W ∧ W.cell? ⟨bp, o' + k, none⟩ = some (.int .i64 p) ∧ W.cell? ⟨bp, o' + (k + 1), none⟩ = some (.int .i64 q))
          ((go_split_ands; refine (fun hKK => ⟨hKK, HKP.out _ hKK⟩) ?_; first | with_reducible assumption | with_reducible exact keeps_drew (by assumption) | with_reducible exact keeps_alloc (by assumption)))
          (first
            | (go_at_call 54; (with_reducible refine HFR.out.mono ?_); rintro e' wF ⟨vF, rfl, hOF, hbF⟩; have hBF : Below wc.heap.size wc wF := (Below.refl wc.heap.size wc).drew.trans hbF; have hKF : Keeps (fun z => some z = (Value.slice ao lk.length co).ownBlock) wc wF := keeps_below hBF; obtain ⟨aF, cF, rfl⟩ := hOF.shape)
            | (refine step_join rfl (.tmp 90) (.tmp 102) 24 rfl tupE Tryz.underlying24 w7.heap.size (.slice ao lk.length co) (.slice aF D.length cF) lk D (by rfl) (by rfl) (HOR2.out.below hBF) (hOF.slD (fun z hz => (HOR2.out.lt z hz.symm).2)) (by unfold maxLen; omega) (by show _ * 64 ≤ _; omega) (Nat.le_trans hzR hBF.size) nd HND.out.symm ?_; intro a5 c5 w5 hJ; have hK5 : Keeps (fun z => some z = (Value.slice ao lk.length co).ownBlock) wc w5 := ⟨hKF.out.trans hJ.kept⟩))
        have HJ := Lib.hid hJ.own
        have HBJ : Hid (Below w7.heap.size w7 w5) := Lib.hid (HBR2.out.trans ((hBF.mono hzR).trans hJ.below))
        clear hJ hK5 hKF hBF hbF hOF hbb
        go_wp2_with fail
        go_roundw
        case rel => exact ⟨k + 1, .inr (by omega), by go_num, by rw [HSN.out]; exact HJ.out, HBJ⟩
        case measure => simp [RowKit.intOf]; omega
    · have hkk : pts.take (k + 1) = pts := List.take_of_length_le (by rw [← HM.out]; omega)
      rw [hkk] at hO hlen
      obtain ⟨sg, hsg⟩ : ∃ sg, sg = segOut (binG op a b) pts := ⟨_, rfl⟩
      rw [← hsg] at hO hlen HSML
      have HSE : Hid (binOut op a b = sg) := Lib.hid (by rw [HSO.out, hsg])
      have HBW := Lib.hid (below_keep HB7.out HB.out)
      have HNO := Lib.hid (rnormalize_any _ sg wq hO.sl (by omega) HSML.out)
      obtain ⟨ao, co, rfl⟩ := hO.shape
      clear hO hkk hsg
      generalize sg.length = ng at HNO ⊢
      go_wp2_with fail
      refine HNO.out.mono ?_
      rintro _ w9 ⟨T, hT, vT, rfl, hOT, hb9⟩
      obtain ⟨aT, cT, rfl⟩ := hOT.shape
      have HTT := Lib.hid hT
      have HOT := Lib.hid (hOT.mono (B' := w.heap.size) HBW.out.size)
      have HB9 := Lib.hid (below_keep HBW.out hb9)
      clear hT hOT hb9 HNO
      generalize T.length = nT at HOT ⊢
      go_wp2_with fail
      go_ret
      exact ⟨T, by rw [HSE.out]; exact HTT.out, _, rfl, HOT.out, HB9.out⟩
end Go.Proofs.YtngigmpaabmngaaGreatDoor

namespace Go.Proofs.YtngigmpaabmngaaGreatDoor
open Go.RowKit Go.Lib

theorem bin_exc {a b S T : List Tup} (h : NFS fExc a b T) (k : IsNF (binOut 1 a b) S) : S = T :=
  NFS.unique (f := fExc) ⟨_, binOut_sem (op := 1) (by decide) (by decide) a b (fun h => absurd h (by decide)), k⟩ h
theorem bin_int {a b S T : List Tup} (h : NFS fInt a b T) (k : IsNF (binOut 2 a b) S) : S = T :=
  NFS.unique (f := fInt) ⟨_, binOut_sem (op := 2) (by decide) (by decide) a b (fun h => absurd h (by decide)), k⟩ h
theorem bin_dis {a S T : List Tup} (h : NFS fDis a [] T) (k : IsNF (binOut 3 a []) S) : S = T :=
  NFS.unique (f := fDis) ⟨_, binOut_sem (op := 3) (by decide) (by decide) a [] (fun _ => rfl), k⟩ h
theorem bin_uni {a b S T : List Tup} (h : IsNF (a ++ b) T) (k : IsNF (binOut 0 a b) S) : S = T := k.same h (binOut_union a b)
theorem few_six {l : List Tup} {m : Nat} (h : few l m = true) : l.length ≤ m ∧ ∀ x ∈ l, x.vals.length ≤ 6 ∧ x.lin.length ≤ 6 := by
  simp [few, small] at h
  exact ⟨h.1, fun t ht => by have := h.2 t ht; omega⟩
set_option maxHeartbeats 2000000 in
theorem few15_any (v u : Value) (a b : List Tup) (w : World) (hv : Tups w v a) (hu : Tups w u b) :
    Calls Tryz.prog 17 #[v, u] w fun e w' => e = .returned (.bool (few a 10 && few b 10)) ∧ Below w.heap.size w w' := by
  have HF : Hid (Calls Tryz.prog 44 #[v, .int .i64 10] w fun e w' => e = .returned (.bool (few a 10)) ∧ w = w') := (few_any v a 10 (by omega) w hv).mono fun _ _ ⟨h1, h2⟩ => ⟨h1, h2.symm⟩
  have HG : Hid (Calls Tryz.prog 44 #[u, .int .i64 10] w fun e w' => e = .returned (.bool (few b 10)) ∧ w = w') := (few_any u b 10 (by omega) w hu).mono fun _ _ ⟨h1, h2⟩ => ⟨h1, h2.symm⟩
  obtain ⟨a1, c1, rfl⟩ := hv.shape
  obtain ⟨a2, c2, rfl⟩ := hu.shape
  generalize few a 10 = p at HF ⊢
  generalize few b 10 = q at HG ⊢
  generalize a.length = na at HF ⊢
  generalize b.length = nb at HG ⊢
  clear hv hu
  go_enter Tryz.func17, Tryz.ntmps17
  go_wp2_with fail
  refine HF.out.mono ?_
  rintro _ w1 ⟨rfl, rfl⟩
  cases p
  · go_wp2_with fail
    go_ret
    exact ⟨rfl, .refl _ _⟩
  · go_wp2_with fail
    refine HG.out.mono ?_
    rintro _ w1 ⟨rfl, rfl⟩
    go_wp2_with fail
    go_ret
    exact ⟨ret_bool (by simp), .refl _ _⟩
end Go.Proofs.YtngigmpaabmngaaGreatDoor
