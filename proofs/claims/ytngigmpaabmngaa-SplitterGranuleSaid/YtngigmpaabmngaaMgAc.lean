/- A part of the proofs: CvI, CvJ, Lift, OpenG, Open, OpenN, LawGranule. No condition beside sizes and tables that read as laid. -/
import Derived.Test.YtngigmpaabmngaaMgAb
import Derived.Test.YtngigmpaabmngaaRows
import Derived.Test.YtngigmpaabmngaaMgAa
import Derived.ProofKit
import Derived.OpenShut
import Derived.Carry
import Derived.Deep.DeepHandedRow
import Derived.Lib.LaidTab
import Derived.Shelf.Vars
import Derived.Deep.Slices
namespace Go.Proofs.Ytngigmpaabmngaa
open Go.RowKit Go.Lib

def gpT (x : Tup) (p : Int × Int) : Tup := ⟨x.vals, p.1, p.2, x.lin⟩
noncomputable def gsplL (kind s : Int) (l : List Tup) : List Tup := l.flatMap fun x => (gspl kind s x.lo x.hi).map (gpT x)
theorem gsplL_snoc {kind s : Int} {l : List Tup} {k : Nat} {x : Tup} (hx : l[k]? = some x) : gsplL kind s (l.take (k + 1)) = gsplL kind s (l.take k) ++ (gspl kind s x.lo x.hi).map (gpT x) := by
  unfold gsplL
  rw [take_get hx, List.flatMap_append]
  simp
theorem gspl_len {kind s lo hi : Int} (h : hi - lo ≤ 100) : (gspl kind s lo hi).length ≤ 100 := by
  unfold gspl
  split
  · exact Nat.le_trans (gcut_len _ _ _ _ _) (by omega)
  · exact Nat.zero_le _
theorem gsplL_len {kind s : Int} {l : List Tup} (h : ∀ x ∈ l, x.hi - x.lo ≤ 100) : (gsplL kind s l).length ≤ l.length * 100 := by
  unfold gsplL
  induction l with
  | nil => simp
  | cons x l ih =>
    have h1 := ih fun y hy => h y (List.mem_cons_of_mem _ hy)
    have h2 := gspl_len (kind := kind) (s := s) (h x (List.mem_cons_self ..))
    rw [List.flatMap_cons, List.length_append, List.length_map, List.length_cons]
    omega
set_option maxHeartbeats 16000000 in
set_option maxRecDepth 100000 in
theorem rbyg_any (v : Value) (kind s : Int) (l : List Tup) (w : World) (hv : Tups w v l) (hl : l.length ≤ 8) (hlen : ∀ x ∈ l, x.hi - x.lo ≤ 100) :
    Calls Try.prog 8 #[v, .agg #[.int .i64 kind, .int .i64 s]] w (RetOwn tupE w (gsplL kind s l)) := by
  obtain ⟨a, c, rfl⟩ := hv.shape
  have HV := Lib.hid hv
  have HL := Lib.hid hlen
  obtain ⟨n, hn⟩ : ∃ n, n = l.length := ⟨_, rfl⟩
  have HN := Lib.hid hn
  have h63 := hv.1
  rw [← hn] at h63 hl HV ⊢
  clear hv hn hlen
  go_enter Try.func8, Try.ntmps8
  have hgx := World.alloc_heap_new w (.cells #[.int .i64 kind, .int .i64 s] 24)
  have hb0 := below_alloc w (.cells #[.int .i64 kind, .int .i64 s] 24)
  obtain ⟨w0, hw0⟩ : ∃ w0, w0 = w.alloc (.cells #[.int .i64 kind, .int .i64 s] 24) := ⟨_, rfl⟩
  rw [← hw0] at hgx hb0
  have hz0 : w.heap.size < w0.heap.size := by rw [hw0, World.size_alloc]; omega
  have HGX := Lib.hid hgx
  have HB0 := Lib.hid hb0
  have HW0 := Lib.hid hw0
  have HV0 := Lib.hid (HV.out.below hb0)
  clear hgx hb0 hw0
  go_wp2_with fail
  rw [← HW0.out]
  go_loopw [12, 5] (fun i o wr => ∃ k : Nat, k ≤ n ∧ i = .int .i64 k ∧ Own tupE wr w0.heap.size o (gsplL kind s (l.take k)) ∧ Hid (Below w0.heap.size w0 wr)) (fun i _ _ => n - (RowKit.intOf i).toNat)
  case atStart => exact ⟨0, Nat.zero_le _, rfl, Own.nil _ _ _, Lib.hid (.refl _ _)⟩
  case round =>
    obtain ⟨k, hk, rfl, hO, HB⟩ := hrel
    obtain ⟨wo, rfl⟩ : ∃ wo : World, wo = wr := ⟨_, rfl⟩
    obtain ⟨oa, oc, rfl⟩ := hO.shape
    by_cases hlt : k < n
    · obtain ⟨x, hx⟩ := lget_some l k (by rw [← HN.out]; exact hlt)
      obtain ⟨b, o, a3, n3, e3, m3, rfl, hv1, hu1, p0, p1, p2, p3⟩ := tups_at HV0.out hx
      replace p0 := cell_keep HB.out p0
      replace p1 := cell_keep HB.out p1
      replace p2 := cell_keep HB.out p2
      replace p3 := cell_keep HB.out p3
      have hxl := HL.out x (List.mem_of_getElem? hx)
      have HX : Hid (gsplL kind s (l.take (k + 1)) = gsplL kind s (l.take k) ++ (gspl kind s x.lo x.hi).map (gpT x)) := Lib.hid (gsplL_snoc hx)
      have hal := Nat.le_trans (gsplL_len (kind := kind) (s := s) (l := l.take k) fun y hy => HL.out y (List.mem_of_mem_take hy)) (Nat.mul_le_mul_right 100 (show (l.take k).length ≤ 8 by rw [List.length_take]; omega))
      obtain ⟨acc, hacc⟩ : ∃ acc, acc = gsplL kind s (l.take k) := ⟨_, rfl⟩
      rw [← hacc] at hO HX hal ⊢
      obtain ⟨xv, xlo, xhi, xl⟩ := x
      dsimp only at p0 p1 p2 p3 hv1 hu1 hxl HX
      have hba := below_alloc wo (.cells #[.slice a3 xv.length n3, .int .i64 xlo, .int .i64 xhi, .slice e3 xl.length m3] 32)
      have hbx := World.alloc_heap_new wo (.cells #[.slice a3 xv.length n3, .int .i64 xlo, .int .i64 xhi, .slice e3 xl.length m3] 32)
      obtain ⟨w2, hw2⟩ : ∃ w2, w2 = wo.alloc (.cells #[.slice a3 xv.length n3, .int .i64 xlo, .int .i64 xhi, .slice e3 xl.length m3] 32) := ⟨_, rfl⟩
      rw [← hw2] at hba hbx
      have hg2 := box_kept HGX.out (below_keep HB.out hba)
      obtain ⟨g0, g1, _, _⟩ := box_two hg2
      obtain ⟨⟨d0, d1, d2, d3⟩, _, _, _, _⟩ := box_four hbx
      have HB2 := Lib.hid (below_keep HB.out hba)
      have HO2 := Lib.hid (hO.below hba)
      have hne2 : ∀ g, (Value.slice oa acc.length oc).ownBlock = some g → g < wo.heap.size := fun g hg => (hO.lt g hg).2
      have HBX := Lib.hid hbx
      have HW2 := Lib.hid hw2
      have hzo : wo.heap.size < w2.heap.size := by rw [hw2, World.size_alloc]; omega
      have HSP := Lib.hid (rsplit_any kind s xlo xhi hxl w2)
      obtain ⟨ps, hps⟩ : ∃ ps, ps = gspl kind s xlo xhi := ⟨_, rfl⟩
      have hpl : ps.length ≤ 100 := by rw [hps]; exact gspl_len hxl
      rw [← hps] at HSP HX
      have HVX := Lib.hid hv1
      have HUX := Lib.hid hu1
      rw [hw2] at g0 g1 d0 d1 d2 d3
      clear hx hv1 hu1 hO hba hbx hw2 hg2 hps hacc
      go_upto_region 5 with fail
      rw [← HW2.out] at g0 g1 d0 d1 d2 d3 ⊢
      clear p0 p1 p2 p3
      go_wp2_with fail
      refine HSP.out.mono ?_
      rintro _ w3 ⟨vp, rfl, hOP, hb3⟩
      obtain ⟨ap, cp, rfl⟩ := hOP.shape
      obtain ⟨np, hnp⟩ : ∃ np, np = ps.length := ⟨_, rfl⟩
      have HNP := Lib.hid hnp
      rw [← hnp] at hOP hpl ⊢
      have HP := Lib.hid hOP.sl
      have hplt : ∀ g, (Value.slice ap np cp).ownBlock = some g → w2.heap.size ≤ g ∧ g < w3.heap.size := fun g hg => hOP.lt g hg
      have HBX3 := Lib.hid (box_kept HBX.out hb3)
      have HO3 := Lib.hid (HO2.out.below hb3)
      have HB3 := Lib.hid (below_keep HB2.out hb3)
      have hz3 := hb3.size
      have hne1 : some wo.heap.size ≠ (Value.slice oa acc.length oc).ownBlock := fun e => by have := hne2 _ e.symm; omega
      have hne3 : ∀ g, (Value.slice ap np cp).ownBlock = some g → (Value.slice oa acc.length oc).ownBlock ≠ some g := fun g hg e => by have := hne2 _ e; have := (hplt g hg).1; omega
      clear hb3 hOP hnp g0 g1 d0 d1 d2 d3 hne2 HSP
      go_wp2_with fail
      go_loopw [21, 5] (fun i o wr => ∃ j : Nat, j ≤ np ∧ i = .int .i64 j ∧ Own tupE wr w0.heap.size o (acc ++ (ps.take j).map (gpT ⟨xv, xlo, xhi, xl⟩)) ∧ some wo.heap.size ≠ o.ownBlock ∧ (∀ g, (Value.slice ap np cp).ownBlock = some g → o.ownBlock ≠ some g) ∧ Hid (Kept (fun z => z ≠ wo.heap.size ∧ ∀ g, (Value.slice ap np cp).ownBlock = some g → z ≠ g) w3 wr) ∧ Hid (Below w0.heap.size w0 wr)) (fun i _ _ => np - (RowKit.intOf i).toNat)
      case atStart => exact ⟨0, Nat.zero_le _, rfl, by rw [List.take_zero, List.map_nil, List.append_nil]; exact HO3.out, hne1, hne3, Lib.hid ⟨Nat.le_refl _, fun _ _ _ => rfl⟩, HB3⟩
      case round =>
        obtain ⟨j, hj, rfl, hOj, hn1, hn2, HKj, HBj⟩ := hrel
        obtain ⟨wp, rfl⟩ : ∃ wp : World, wp = wr := ⟨_, rfl⟩
        have hbl : (acc ++ (ps.take j).map (gpT ⟨xv, xlo, xhi, xl⟩)).length ≤ 900 := by rw [List.length_append, List.length_map, List.length_take]; omega
        obtain ⟨ac, hac⟩ : ∃ ac, ac = acc ++ (ps.take j).map (gpT ⟨xv, xlo, xhi, xl⟩) := ⟨_, rfl⟩
        have HAC := Lib.hid hac
        rw [← hac] at hOj hbl
        clear hac
        obtain ⟨oj, cj, rfl⟩ := hOj.shape
        by_cases hlt2 : j < np
        · obtain ⟨p, hp⟩ := lget_some ps j (by rw [← HNP.out]; exact hlt2)
          obtain ⟨bp, op, cs, ea, ecs, hc⟩ := HP.out.at hp
          have ea' : ap = some ⟨bp, op, none⟩ := ea
          have ecs' : cs = [.int .i64 p.1, .int .i64 p.2] := ecs
          subst ea' ecs'
          have hnG : ¬ (bp ≠ wo.heap.size ∧ ∀ g, (Value.slice (some ⟨bp, op, none⟩) np cp).ownBlock = some g → bp ≠ g) := fun h => h.2 bp rfl rfl
          have z0 : wp.cell? ⟨bp, op + j * 2, none⟩ = some (.int .i64 p.1) := HKj.out.cell (p := ⟨bp, op + j * 2, none⟩) hnG (hc 0 _ rfl)
          have z1 : wp.cell? ⟨bp, op + j * 2 + 1, none⟩ = some (.int .i64 p.2) := HKj.out.cell (p := ⟨bp, op + j * 2 + 1, none⟩) hnG (hc 1 _ rfl)
          have hbx := (HKj.out.2 wo.heap.size (Array.getElem?_eq_some_iff.1 HBX3.out).1 (fun h => h.1 rfl)).trans HBX3.out
          have HT : Hid (acc ++ (ps.take (j + 1)).map (gpT ⟨xv, xlo, xhi, xl⟩) = ac ++ [⟨xv, p.1, p.2, xl⟩]) := Lib.hid (by rw [take_get hp, List.map_append, ← List.append_assoc, HAC.out]; rfl)
          obtain ⟨q0, q1⟩ := p
          dsimp only at z0 z1 HT
          have hba := below_alloc wp (.cells #[.int .i64 q0, .int .i64 q1] 29)
          have hgx := World.alloc_heap_new wp (.cells #[.int .i64 q0, .int .i64 q1] 29)
          obtain ⟨w6, hw6⟩ : ∃ w6, w6 = wp.alloc (.cells #[.int .i64 q0, .int .i64 q1] 29) := ⟨_, rfl⟩
          rw [← hw6] at hba hgx
          have hbx6 := box_kept hbx hba
          obtain ⟨⟨t0, t1, t2, t3⟩, _, _, _, _⟩ := box_four hbx6
          obtain ⟨s0, s1, _, _⟩ := box_two hgx
          have HO6 := Lib.hid (hOj.below hba)
          have HB6 := Lib.hid (below_keep HBj.out hba)
          have HK6 := Lib.hid (HKj.out.trans (.of_below hba))
          have HBX6 := Lib.hid hbx6
          have HW6 := Lib.hid hw6
          have hplt6 : ∀ g, (Value.slice (some ⟨bp, op, none⟩) np cp).ownBlock = some g → g < w6.heap.size := fun g hg => Nat.lt_of_lt_of_le (hplt g hg).2 HK6.out.1
          have HIS : Hid (Els tupE w6 (fun z => some z = (Value.slice oj ac.length cj).ownBlock) [⟨xv, q0, q1, xl⟩] [.slice a3 xv.length n3, .int .i64 q0, .int .i64 q1, .slice e3 xl.length m3]) := Lib.hid (Els.one ⟨_, _, rfl, ((HVX.out.old (Nat.le_refl _)).below HB6.out).mono (fun z _ hz => (HO6.out.lt z hz.symm).1), ((HUX.out.old (Nat.le_refl _)).below HB6.out).mono (fun z _ hz => (HO6.out.lt z hz.symm).1)⟩)
          have HN1 := Lib.hid hn1
          have HN2 := Lib.hid hn2
          rw [hw6] at t0 t1 t2 t3 s0 s1
          clear hp hc hnG hbx hba hgx hbx6 hOj hw6 hn1 hn2 ea ecs hplt
          go_upto_region 8 with fail
          rw [← HW6.out] at t0 t1 t2 t3 s0 s1 ⊢
          go_wp2_with (at_builtin; refine wpList_push rfl (.tmp 25) (.tmp 32) 22 rfl tupE Try.underlying22 w0.heap.size (.slice oj ac.length cj) ac rfl HO6.out [⟨xv, q0, q1, xl⟩] #[.slice a3 xv.length n3, .int .i64 q0, .int .i64 q1, .slice e3 xl.length m3] HIS.out 1 1 rfl rfl (by decide) (by unfold maxLen; omega) (by show _ * 64 ≤ _; omega) HB6.out.size ?_; intro g cap w7 hP hPa)
          have HN1' := hP.ne' (n := ac.length + 1) HN1.out HBX6.out
          have HN2' : ∀ z, (Value.slice (some ⟨bp, op, none⟩) np cp).ownBlock = some z → (Value.slice (some ⟨g, 0, none⟩) (ac.length + 1) cap).ownBlock ≠ some z := fun z hz e => hP.ne (fun h => HN2.out z hz h.symm) (hplt6 z hz) (by have e' : some g = some z := e; cases e'; rfl)
          have HK7 : Hid (Kept (fun z => z ≠ wo.heap.size ∧ ∀ g, (Value.slice (some ⟨bp, op, none⟩) np cp).ownBlock = some g → z ≠ g) w3 w7) := Lib.hid (HK6.out.trans ⟨hP.kept.1, fun z hz hn => hP.kept.2 z hz fun e => hn ⟨fun h => HN1.out (by rw [← h]; exact e), fun y hy h => HN2.out y hy (by rw [← h]; exact e.symm)⟩⟩)
          go_roundw
          case rel => exact ⟨j + 1, by omega, by go_num, by rw [HT.out]; exact hP.own' (by simp), HN1', HN2', HK7, Lib.hid (HB6.out.trans hP.below)⟩
          case measure => simp [RowKit.intOf]; omega
        · have HE : Hid (gsplL kind s (l.take (k + 1)) = ac) := Lib.hid (by show _ = _; rw [HX.out, HAC.out, List.take_of_length_le (by rw [← HNP.out]; omega)])
          clear hn1 hn2
          go_wp2_with fail
          go_roundw
          case rel => exact ⟨k + 1, by omega, by go_num, by rw [HE.out]; exact hOj, HBj⟩
          case measure => simp [RowKit.intOf]; omega
    · have hkk : l.take k = l := List.take_of_length_le (by rw [← HN.out]; omega)
      rw [hkk] at hO ⊢
      have HO := Lib.hid (hO.mono HB0.out.size)
      have HBE := Lib.hid (HB0.out.trans (HB.out.mono HB0.out.size))
      clear hO hkk
      go_wp2_with fail
      go_ret
      exact ⟨_, rfl, HO.out, HBE.out⟩
set_option maxHeartbeats 16000000 in
set_option maxRecDepth 100000 in
theorem byg_any (v : Value) (kind s : Int) (l : List Tup) (w : World) (hv : Tups w v l) (hl : l.length ≤ 8) (hlen : ∀ x ∈ l, x.hi - x.lo ≤ 100) (hsm : ∀ x ∈ l, x.vals.length ≤ 1000 ∧ x.lin.length ≤ 1000) :
    Calls Try.prog 7 #[v, .agg #[.int .i64 kind, .int .i64 s]] w (RetOwn tupE w (gsplL kind s l)) := by
  obtain ⟨a, c, rfl⟩ := hv.shape
  have HV := Lib.hid hv
  have HL := Lib.hid hlen
  have HSM := Lib.hid hsm
  obtain ⟨n, hn⟩ : ∃ n, n = l.length := ⟨_, rfl⟩
  have HN := Lib.hid hn
  have h63 := hv.1
  rw [← hn] at h63 hl HV ⊢
  clear hv hn hlen hsm
  go_enter Try.func7, Try.ntmps7
  have hgx := World.alloc_heap_new w (.cells #[.int .i64 kind, .int .i64 s] 24)
  have hb0 := below_alloc w (.cells #[.int .i64 kind, .int .i64 s] 24)
  obtain ⟨w0, hw0⟩ : ∃ w0, w0 = w.alloc (.cells #[.int .i64 kind, .int .i64 s] 24) := ⟨_, rfl⟩
  rw [← hw0] at hgx hb0
  have hz0 : w.heap.size < w0.heap.size := by rw [hw0, World.size_alloc]; omega
  have HGX := Lib.hid hgx
  have HB0 := Lib.hid hb0
  have HW0 := Lib.hid hw0
  have HV0 := Lib.hid (HV.out.below hb0)
  clear hgx hb0 hw0
  go_wp2_with fail
  rw [← HW0.out]
  go_loopw [12, 5] (fun i o wr => ∃ k : Nat, k ≤ n ∧ i = .int .i64 k ∧ Own tupE wr w0.heap.size o (gsplL kind s (l.take k)) ∧ Hid (Below w0.heap.size w0 wr)) (fun i _ _ => n - (RowKit.intOf i).toNat)
  case atStart => exact ⟨0, Nat.zero_le _, rfl, Own.nil _ _ _, Lib.hid (.refl _ _)⟩
  case round =>
    obtain ⟨k, hk, rfl, hO, HB⟩ := hrel
    obtain ⟨wo, rfl⟩ : ∃ wo : World, wo = wr := ⟨_, rfl⟩
    obtain ⟨oa, oc, rfl⟩ := hO.shape
    by_cases hlt : k < n
    · obtain ⟨x, hx⟩ := lget_some l k (by rw [← HN.out]; exact hlt)
      obtain ⟨b, o, a3, n3, e3, m3, rfl, hv1, hu1, p0, p1, p2, p3⟩ := tups_at HV0.out hx
      replace p0 := cell_keep HB.out p0
      replace p1 := cell_keep HB.out p1
      replace p2 := cell_keep HB.out p2
      replace p3 := cell_keep HB.out p3
      have hxl := HL.out x (List.mem_of_getElem? hx)
      obtain ⟨hs1, hs2⟩ := HSM.out x (List.mem_of_getElem? hx)
      have HX : Hid (gsplL kind s (l.take (k + 1)) = gsplL kind s (l.take k) ++ (gspl kind s x.lo x.hi).map (gpT x)) := Lib.hid (gsplL_snoc hx)
      have hal := Nat.le_trans (gsplL_len (kind := kind) (s := s) (l := l.take k) fun y hy => HL.out y (List.mem_of_mem_take hy)) (Nat.mul_le_mul_right 100 (show (l.take k).length ≤ 8 by rw [List.length_take]; omega))
      obtain ⟨acc, hacc⟩ : ∃ acc, acc = gsplL kind s (l.take k) := ⟨_, rfl⟩
      rw [← hacc] at hO HX hal ⊢
      obtain ⟨xv, xlo, xhi, xl⟩ := x
      dsimp only at p0 p1 p2 p3 hv1 hu1 hxl HX hs1 hs2
      have hba := below_alloc wo (.cells #[.slice a3 xv.length n3, .int .i64 xlo, .int .i64 xhi, .slice e3 xl.length m3] 32)
      have hbx := World.alloc_heap_new wo (.cells #[.slice a3 xv.length n3, .int .i64 xlo, .int .i64 xhi, .slice e3 xl.length m3] 32)
      obtain ⟨w2, hw2⟩ : ∃ w2, w2 = wo.alloc (.cells #[.slice a3 xv.length n3, .int .i64 xlo, .int .i64 xhi, .slice e3 xl.length m3] 32) := ⟨_, rfl⟩
      rw [← hw2] at hba hbx
      have hg2 := box_kept HGX.out (below_keep HB.out hba)
      obtain ⟨g0, g1, _, _⟩ := box_two hg2
      obtain ⟨⟨d0, d1, d2, d3⟩, _, _, _, _⟩ := box_four hbx
      have HB2 := Lib.hid (below_keep HB.out hba)
      have HO2 := Lib.hid (hO.below hba)
      have hne2 : ∀ g, (Value.slice oa acc.length oc).ownBlock = some g → g < wo.heap.size := fun g hg => (hO.lt g hg).2
      have HBX := Lib.hid hbx
      have HW2 := Lib.hid hw2
      have hzo : wo.heap.size < w2.heap.size := by rw [hw2, World.size_alloc]; omega
      have HSP := Lib.hid (gsplit_any kind s xlo xhi hxl w2)
      obtain ⟨ps, hps⟩ : ∃ ps, ps = gspl kind s xlo xhi := ⟨_, rfl⟩
      have hpl : ps.length ≤ 100 := by rw [hps]; exact gspl_len hxl
      rw [← hps] at HSP HX
      have HVX := Lib.hid hv1
      have HUX := Lib.hid hu1
      rw [hw2] at g0 g1 d0 d1 d2 d3
      clear hx hv1 hu1 hO hba hbx hw2 hg2 hps hacc
      go_upto_region 5 with fail
      rw [← HW2.out] at g0 g1 d0 d1 d2 d3 ⊢
      clear p0 p1 p2 p3
      go_wp2_with fail
      refine HSP.out.mono ?_
      rintro _ w3 ⟨vp, rfl, hOP, hb3⟩
      obtain ⟨ap, cp, rfl⟩ := hOP.shape
      obtain ⟨np, hnp⟩ : ∃ np, np = ps.length := ⟨_, rfl⟩
      have HNP := Lib.hid hnp
      rw [← hnp] at hOP hpl ⊢
      have HP := Lib.hid hOP.sl
      have hplt : ∀ g, (Value.slice ap np cp).ownBlock = some g → w2.heap.size ≤ g ∧ g < w3.heap.size := fun g hg => hOP.lt g hg
      have HBX3 := Lib.hid (box_kept HBX.out hb3)
      have HO3 := Lib.hid (HO2.out.below hb3)
      have HB3 := Lib.hid (below_keep HB2.out hb3)
      have hz3 := hb3.size
      have hne1 : some wo.heap.size ≠ (Value.slice oa acc.length oc).ownBlock := fun e => by have := hne2 _ e.symm; omega
      have hne3 : ∀ g, (Value.slice ap np cp).ownBlock = some g → (Value.slice oa acc.length oc).ownBlock ≠ some g := fun g hg e => by have := hne2 _ e; have := (hplt g hg).1; omega
      clear hb3 hOP hnp g0 g1 d0 d1 d2 d3 hne2 HSP
      go_wp2_with fail
      go_loopw [21, 5] (fun i o wr => ∃ j : Nat, j ≤ np ∧ i = .int .i64 j ∧ Own tupE wr w0.heap.size o (acc ++ (ps.take j).map (gpT ⟨xv, xlo, xhi, xl⟩)) ∧ some wo.heap.size ≠ o.ownBlock ∧ (∀ g, (Value.slice ap np cp).ownBlock = some g → o.ownBlock ≠ some g) ∧ Hid (Kept (fun z => z ≠ wo.heap.size ∧ ∀ g, (Value.slice ap np cp).ownBlock = some g → z ≠ g) w3 wr) ∧ Hid (Below w0.heap.size w0 wr)) (fun i _ _ => np - (RowKit.intOf i).toNat)
      case atStart => exact ⟨0, Nat.zero_le _, rfl, by rw [List.take_zero, List.map_nil, List.append_nil]; exact HO3.out, hne1, hne3, Lib.hid ⟨Nat.le_refl _, fun _ _ _ => rfl⟩, HB3⟩
      case round =>
        obtain ⟨j, hj, rfl, hOj, hn1, hn2, HKj, HBj⟩ := hrel
        obtain ⟨wp, rfl⟩ : ∃ wp : World, wp = wr := ⟨_, rfl⟩
        have hbl : (acc ++ (ps.take j).map (gpT ⟨xv, xlo, xhi, xl⟩)).length ≤ 900 := by rw [List.length_append, List.length_map, List.length_take]; omega
        obtain ⟨ac, hac⟩ : ∃ ac, ac = acc ++ (ps.take j).map (gpT ⟨xv, xlo, xhi, xl⟩) := ⟨_, rfl⟩
        have HAC := Lib.hid hac
        rw [← hac] at hOj hbl
        clear hac
        obtain ⟨oj, cj, rfl⟩ := hOj.shape
        by_cases hlt2 : j < np
        · obtain ⟨p, hp⟩ := lget_some ps j (by rw [← HNP.out]; exact hlt2)
          obtain ⟨bp, op, cs, ea, ecs, hc⟩ := HP.out.at hp
          have ea' : ap = some ⟨bp, op, none⟩ := ea
          have ecs' : cs = [.int .i64 p.1, .int .i64 p.2] := ecs
          subst ea' ecs'
          have hnG : ¬ (bp ≠ wo.heap.size ∧ ∀ g, (Value.slice (some ⟨bp, op, none⟩) np cp).ownBlock = some g → bp ≠ g) := fun h => h.2 bp rfl rfl
          have z0 : wp.cell? ⟨bp, op + j * 2, none⟩ = some (.int .i64 p.1) := HKj.out.cell (p := ⟨bp, op + j * 2, none⟩) hnG (hc 0 _ rfl)
          have z1 : wp.cell? ⟨bp, op + j * 2 + 1, none⟩ = some (.int .i64 p.2) := HKj.out.cell (p := ⟨bp, op + j * 2 + 1, none⟩) hnG (hc 1 _ rfl)
          have hbx := (HKj.out.2 wo.heap.size (Array.getElem?_eq_some_iff.1 HBX3.out).1 (fun h => h.1 rfl)).trans HBX3.out
          have HT : Hid (acc ++ (ps.take (j + 1)).map (gpT ⟨xv, xlo, xhi, xl⟩) = ac ++ [⟨xv, p.1, p.2, xl⟩]) := Lib.hid (by rw [take_get hp, List.map_append, ← List.append_assoc, HAC.out]; rfl)
          obtain ⟨q0, q1⟩ := p
          dsimp only at z0 z1 HT
          have hba := below_alloc wp (.cells #[.int .i64 q0, .int .i64 q1] 29)
          have hgx := World.alloc_heap_new wp (.cells #[.int .i64 q0, .int .i64 q1] 29)
          obtain ⟨w6, hw6⟩ : ∃ w6, w6 = wp.alloc (.cells #[.int .i64 q0, .int .i64 q1] 29) := ⟨_, rfl⟩
          rw [← hw6] at hba hgx
          have hbx6 := box_kept hbx hba
          obtain ⟨⟨t0, t1, t2, t3⟩, _, _, _, _⟩ := box_four hbx6
          obtain ⟨s0, s1, _, _⟩ := box_two hgx
          have HO6 := Lib.hid (hOj.below hba)
          have HB6 := Lib.hid (below_keep HBj.out hba)
          have HK6 := Lib.hid (HKj.out.trans (.of_below hba))
          have HBX6 := Lib.hid hbx6
          have HW6 := Lib.hid hw6
          have hplt6 : ∀ g, (Value.slice (some ⟨bp, op, none⟩) np cp).ownBlock = some g → g < w6.heap.size := fun g hg => Nat.lt_of_lt_of_le (hplt g hg).2 HK6.out.1
          have hn3 : some wp.heap.size ≠ (Value.slice oj ac.length cj).ownBlock := fun e => by have := (hOj.lt _ e.symm).2; omega
          have HN1 := Lib.hid hn1
          have HN2 := Lib.hid hn2
          rw [hw6] at t0 t1 t2 t3 s0 s1
          clear hp hc hnG hbx hba hgx hbx6 hOj hw6 hn1 hn2 ea ecs hplt
          go_upto_region 8 with fail
          rw [← HW6.out] at t0 t1 t2 t3 s0 s1 ⊢
          go_region_held3 (fun W => W.cell? ⟨wo.heap.size, 0, none⟩ = some (.slice a3 xv.length n3) ∧ W.cell? ⟨wo.heap.size, 1, none⟩ = some (.int .i64 xlo) ∧ W.cell? ⟨wo.heap.size, 2, none⟩ = some (.int .i64 xhi) ∧ W.cell? ⟨wo.heap.size, 3, none⟩ = some (.slice e3 xl.length m3) ∧ W.cell? ⟨wp.heap.size, 0, none⟩ = some (.int .i64 q0) ∧ W.cell? ⟨wp.heap.size, 1, none⟩ = some (.int .i64 q1))
            ((go_split_ands; refine ⟨?_, ?_, ?_, ?_, ?_, ?_⟩ <;> (first | with_reducible assumption | with_reducible exact cell_drew (by assumption) | with_reducible exact cell_keep (by assumption) (by assumption) | with_reducible exact cell_alloc (by assumption) | exact hPa.cell HN1.out (by assumption) | exact hPa.cell hn3 (by assumption) | exact hP.cell HN1.out (by assumption) | exact hP.cell hn3 (by assumption))))
            (first
              | (go_at_call 14; (with_reducible refine (tupleRow_any _ _ _ _ _ _ _ _ _ _ _ rfl rfl).mono ?_); rintro e wR ⟨rfl, hbR⟩)
              | (go_at_call 13; refine (during_any _ _ ⟨xv, q0, q1, xl⟩ _ (HVX.out.below (below_keep HB6.out.drew hbR)).vals (HUX.out.below (below_keep HB6.out.drew hbR)).ints hs1 hs2).mono ?_; rintro e wD hN; obtain ⟨a4, c4, b4, d4, rfl, his⟩ := hN.cells; have hbD := hN.below; clear hN)
              | (refine step_push rfl (.tmp 25) (.tmp 30) 22 rfl tupE Try.underlying22 w0.heap.size (.slice oj ac.length cj) ac rfl ((HO6.out.drew.below hbR).below hbD) [⟨xv, q0, q1, xl⟩] #[.slice a4 xv.length c4, .int .i64 q0, .int .i64 q1, .slice b4 xl.length d4] (Els.one (tupE.mono his (fun k _ hk => Nat.lt_of_lt_of_le (HO6.out.drew.lt k hk.symm).2 hbR.size))) 1 1 rfl rfl (by decide) (by unfold maxLen; omega) (by show _ * 64 ≤ _; omega) (Nat.le_trans (Nat.le_trans HB6.out.drew.size hbR.size) hbD.size) ?_; intro g cap w7 hP hPa))
          all_goals (
            have HBD := Lib.hid (below_keep (below_keep HB6.out.drew hbR) hbD)
            have hbx7 := box_kept (box_kept (box_kept HBX6.out (Below.refl _ _).drew) hbR) hbD
            have hsz7 : w6.heap.size ≤ wD.heap.size := Nat.le_trans hbR.size hbD.size
            have HN1' := hP.ne' (n := ac.length + 1) HN1.out hbx7
            have HN2' : ∀ z, (Value.slice (some ⟨bp, op, none⟩) np cp).ownBlock = some z → (Value.slice (some ⟨g, 0, none⟩) (ac.length + 1) cap).ownBlock ≠ some z := fun z hz e => hP.ne (fun h => HN2.out z hz h.symm) (Nat.lt_of_lt_of_le (hplt6 z hz) hsz7) (by have e' : some g = some z := e; cases e'; rfl)
            have HK7 : Hid (Kept (fun z => z ≠ wo.heap.size ∧ ∀ g, (Value.slice (some ⟨bp, op, none⟩) np cp).ownBlock = some g → z ≠ g) w3 w7) := Lib.hid ((((HK6.out.trans (.of_below (Below.refl _ _).drew)).trans (.of_below hbR)).trans (.of_below hbD)).trans ⟨hP.kept.1, fun z hz hn => hP.kept.2 z hz fun e => hn ⟨fun h => HN1.out (by rw [← h]; exact e), fun y hy h => HN2.out y hy (by rw [← h]; exact e.symm)⟩⟩)
            have HB7 := Lib.hid (HBD.out.trans hP.below)
            clear hbx7
            go_wp2_with fail
            go_roundw
            case rel => exact ⟨j + 1, by omega, by go_num, by rw [HT.out]; exact hP.own' (by simp), HN1', HN2', HK7, HB7⟩
            case measure => simp [RowKit.intOf]; omega)
        · have HE : Hid (gsplL kind s (l.take (k + 1)) = ac) := Lib.hid (by show _ = _; rw [HX.out, HAC.out, List.take_of_length_le (by rw [← HNP.out]; omega)])
          clear hn1 hn2
          go_wp2_with fail
          go_roundw
          case rel => exact ⟨k + 1, by omega, by go_num, by rw [HE.out]; exact hOj, HBj⟩
          case measure => simp [RowKit.intOf]; omega
    · have hkk : l.take k = l := List.take_of_length_le (by rw [← HN.out]; omega)
      rw [hkk] at hO ⊢
      have HO := Lib.hid (hO.mono HB0.out.size)
      have HBE := Lib.hid (HB0.out.trans (HB.out.mono HB0.out.size))
      clear hO hkk
      go_wp2_with fail
      go_ret
      exact ⟨_, rfl, HO.out, HBE.out⟩
end Go.Proofs.Ytngigmpaabmngaa

namespace Go.Proofs.Ytngigmpaabmngaa
open Go.RowKit Go.Lib

set_option maxHeartbeats 8000000 in
set_option maxRecDepth 100000 in
theorem gran_walk (v : Value) (l : List Tup) (kind s : Int) (w : World) (hv : Tups w v l) (hin : ∀ x ∈ l, (-9223372036854775808 ≤ x.lo ∧ x.lo ≤ 9223372036854775807) ∧ (-9223372036854775808 ≤ x.hi ∧ x.hi ≤ 9223372036854775807)) :
    Calls Try.prog 3 #[v, .agg #[.int .i64 kind, .int .i64 s]] w fun e w' => e = .returned (.bool true) ∧ Below w.heap.size w w' := by
  obtain ⟨va, vc, rfl⟩ := hv.shape
  have hgx := World.alloc_heap_new w (.cells #[.int .i64 kind, .int .i64 s] 24)
  have hb0 := below_alloc w (.cells #[.int .i64 kind, .int .i64 s] 24)
  obtain ⟨w0, hw0⟩ : ∃ w0, w0 = w.alloc (.cells #[.int .i64 kind, .int .i64 s] 24) := ⟨_, rfl⟩
  rw [← hw0] at hgx hb0
  have HF := Lib.hid (few_call (m := 8) (hv.below hb0) (by omega))
  have HV0 := Lib.hid (hv.below hb0)
  have HIN := Lib.hid hin
  have HGX := Lib.hid hgx
  have HB0 := Lib.hid hb0
  have HW0 := Lib.hid hw0
  obtain ⟨n, hn⟩ : ∃ n, n = l.length := ⟨_, rfl⟩
  have HN := Lib.hid hn
  have h63 := hv.1
  rw [← hn] at HF HV0 h63 ⊢
  have HAW := fun W => Lib.hid (awake_any W)
  have HFW := Lib.hid (fun h : few l 8 = true => few_of h)
  obtain ⟨fw, hfw⟩ : ∃ fw, fw = few l 8 := ⟨_, rfl⟩
  rw [← hfw] at HF HFW
  clear hv hin hgx hb0 hw0 hn hfw
  go_enter Try.func3, Try.ntmps3
  go_wp2_with fail
  rw [← HW0.out]
  refine HF.out.mono ?_
  rintro _ w1 ⟨rfl, rfl⟩
  cases fw
  · go_wp2_with fail
    refine (HAW _).out.mono ?_
    rintro _ w2 ⟨rfl, hb2⟩
    have HB2 := Lib.hid (below_keep HB0.out hb2)
    clear hb2
    go_wp2_with fail
    go_ret
    exact ⟨rfl, HB2.out⟩
  · obtain ⟨hl8, hsm⟩ := HFW.out (by simp)
    rw [← HN.out] at hl8
    have HSM := Lib.hid hsm
    clear hsm
    go_wp2_with fail
    go_loopw [13] (fun i wr => ∃ k : Nat, k ≤ n ∧ i = .int .i64 k ∧ Hid (∀ x ∈ l.take k, x.hi - x.lo ≤ 100) ∧ Hid (Below w0.heap.size w0 wr)) (fun i _ => n - (RowKit.intOf i).toNat)
    case atStart => exact ⟨0, Nat.zero_le _, rfl, Lib.hid (by simp), Lib.hid (.refl _ _)⟩
    case round =>
      obtain ⟨k, hk, rfl, HL, HB⟩ := hrel
      obtain ⟨wo, rfl⟩ : ∃ wo : World, wo = wr := ⟨_, rfl⟩
      by_cases hlt : k < n
      · obtain ⟨x, hx⟩ := lget_some l k (by rw [← HN.out]; exact hlt)
        obtain ⟨b, o, a3, n3, e3, m3, rfl, hv1, hu1, p0, p1, p2, p3⟩ := tups_at HV0.out hx
        replace p0 := cell_keep HB.out p0
        replace p1 := cell_keep HB.out p1
        replace p2 := cell_keep HB.out p2
        replace p3 := cell_keep HB.out p3
        obtain ⟨⟨l1, l2⟩, r1, r2⟩ := HIN.out x (List.mem_of_getElem? hx)
        have HLS : Hid (x.hi - x.lo ≤ 100 → ∀ y ∈ l.take (k + 1), y.hi - y.lo ≤ 100) := Lib.hid (fun h y hy => by
          rw [take_get hx] at hy
          rcases List.mem_append.1 hy with hy | hy
          · exact HL.out y hy
          · simp at hy; subst hy; exact h)
        obtain ⟨xv, xlo, xhi, xl⟩ := x
        dsimp only at p0 p1 p2 p3 l1 l2 r1 r2 HLS
        have HBa : Hid (Below w0.heap.size w0 (wo.alloc (.cells #[.slice a3 xv.length n3, .int .i64 xlo, .int .i64 xhi, .slice e3 xl.length m3] 32))) := Lib.hid (below_alloc_keep HB.out)
        clear hx hv1 hu1
        by_cases h1 : xlo < xhi
        · have h1w : ∀ z, IntKind.u64.wrap z = z % 18446744073709551616 := fun _ => rfl
          have hwr : IntKind.u64.wrap (IntKind.u64.wrap xhi - IntKind.u64.wrap xlo) = xhi - xlo := by rw [h1w, h1w, h1w]; omega
          clear h1w
          by_cases h2 : xhi - xlo ≤ 100
          · have HL2 := Lib.hid (HLS.out h2)
            have h2' : ¬ 100 < xhi - xlo := by omega
            go_wp2_with fail
            go_roundw
            case rel => exact ⟨k + 1, by omega, by go_num, HL2, HBa⟩
            case measure => simp [RowKit.intOf]; omega
          · have h2' : 100 < xhi - xlo := by omega
            go_wp2_with fail
            refine (HAW _).out.mono ?_
            rintro _ w2 ⟨rfl, hb2⟩
            have HB2 := Lib.hid (HB0.out.trans ((below_keep HBa.out hb2).mono HB0.out.size))
            clear hb2
            go_wp2_with fail
            go_ret
            exact ⟨rfl, HB2.out⟩
        · have HL2 := Lib.hid (HLS.out (by omega))
          go_wp2_with fail
          go_roundw
          case rel => exact ⟨k + 1, by omega, by go_num, HL2, HBa⟩
          case measure => simp [RowKit.intOf]; omega
      · have hlen : ∀ x ∈ l, x.hi - x.lo ≤ 100 := fun x hx => HL.out x (by rw [List.take_of_length_le (by rw [← HN.out]; omega)]; exact hx)
        have HLEN := Lib.hid hlen
        obtain ⟨R, hR⟩ : ∃ R, R = gsplL kind s l := ⟨_, rfl⟩
        have HBY := Lib.hid (fun W (h : Below w0.heap.size w0 W) => Lib.hid (byg_any _ kind s l W (HV0.out.below h) (by rw [← HN.out]; exact hl8) HLEN.out HSM.out))
        have HRY := Lib.hid (fun W (h : Below w0.heap.size w0 W) => Lib.hid (rbyg_any _ kind s l W (HV0.out.below h) (by rw [← HN.out]; exact hl8) HLEN.out))
        rw [← hR] at HBY HRY
        have HST := Lib.hid (fun W v u (h1 : Tups W v R) (h2 : Tups W u R) => Lib.hid (by have h := sameTups_any v u R R W h1 h2; rw [sameTups_refl] at h; exact h))
        obtain ⟨d0, d1, _, _⟩ := box_two (box_kept HGX.out HB.out)
        have hbb := HB.out
        clear hlen hR
        go_upto_region 9 with fail
        go_region_held3 (fun W => Below w0.heap.size w0 W ∧ W.cell? ⟨w.heap.size, 0, none⟩ = some (.int .i64 kind) ∧ W.cell? ⟨w.heap.size, 1, none⟩ = some (.int .i64 s))
          ((go_split_ands; refine ⟨?_, ?_, ?_⟩ <;> (first | with_reducible assumption | with_reducible exact Below.drew (by assumption) | with_reducible exact cell_drew (by assumption) | with_reducible exact below_keep (by assumption) (by assumption) | with_reducible exact cell_keep (by assumption) (by assumption))))
          (first
            | (go_at_call 5; refine (HAW _).out.mono ?_; rintro e' wA ⟨rfl, hbA⟩)
            | (go_at_call 7; go_split_ands; refine (HBY.out _ (by assumption)).out.mono ?_; rintro e' wG ⟨vb, rfl, hOb, hbG⟩; obtain ⟨ab, cb, rfl⟩ := hOb.shape; have hSb := hOb.sl; clear hOb)
            | (go_at_call 8; go_split_ands; refine (HRY.out _ (by assumption)).out.mono ?_; rintro e' wH ⟨vr, rfl, hOr, hbH⟩; obtain ⟨ar, cr, rfl⟩ := hOr.shape; have hSr := hOr.sl; clear hOr)
            | (go_at_call 6; refine (HST.out _ _ _ (hSb.below hbH) hSr).out.mono ?_; rintro e' wS ⟨rfl, hbS⟩))
        all_goals (
          go_split_ands
          have HBS : Hid (Below w.heap.size w wS) := Lib.hid (HB0.out.trans (Below.mono (by assumption) HB0.out.size))
          go_wp2_with fail
          go_ret
          exact ⟨rfl, HBS.out⟩)
end Go.Proofs.Ytngigmpaabmngaa

namespace Go.Proofs.Ytngigmpaabmngaa
open Go.ChangeShapes Go.WideShapes Go.ChangeAt Go.RowKit

theorem own : ownKnob Try.prog.godebug = none := by kernel_rfl
theorem laidOut : laidOutB Try.prog = true := by kernel_rfl

theorem trodAll_below {H : Type} {enc : TypeId × Value → H} {W W' : World} (hb : Below W.heap.size W W') : ∀ (ts : List TypeId) (vs : List Value) (ds : List (DataW H)) (ps : List MemPlace),
    (∀ t ∈ ts, Try.prog.readableRec t = true ∧ t < Try.prog.types.size) → DataW.TrodAll enc Try.prog W 0 (fun _ => true) true ts vs ds ps → (∀ x ∈ ps, x.block < W.heap.size) →
    DataW.TrodAll enc Try.prog W' 0 (fun b => decide (b < W.heap.size)) true ts vs ds ps := by
  intro ts
  induction ts with
  | nil =>
    intro vs ds ps _ h _
    cases vs <;> cases ds <;> simp [DataW.TrodAll] at h ⊢
    exact h
  | cons t ts ih =>
    intro vs ds ps hr h hlt
    cases vs with
    | nil => simp [DataW.TrodAll] at h
    | cons v vs =>
      cases ds with
      | nil => simp [DataW.TrodAll] at h
      | cons d ds =>
        obtain ⟨p, q, h1, h2, rfl⟩ := h
        have ht := hr t (List.mem_cons_self ..)
        exact ⟨p, q, Below.trod laidOut ht.1 ht.2 h1 hb (fun x hx => hlt x (List.mem_append_left _ hx)), ih vs ds q (fun t' h' => hr t' (List.mem_cons_of_mem _ h')) h2 (fun x hx => hlt x (List.mem_append_right _ hx)), rfl⟩

/-- The post of a law's row. -/
theorem law_post {H : Type} {enc : TypeId × Value → H} {f : Func} {s : ChangeSpec} {W W' : World} {args : Array Value} {ds gs : List (DataW H)} {before : List MemPlace}
    (hvars : s.vars = []) (hres : f.resultTypes = #[4]) (hr : ∀ t ∈ f.params.toList, Try.prog.readableRec t = true ∧ t < Try.prog.types.size)
    (hs : s.fn H (ds ++ gs) = { results := [.lit (.bool true)], args := ds })
    (hW : DataW.Whole enc Try.prog f.params.toList s.vars false W args.toList ds gs before) (hb : Below W.heap.size W W') :
    s.post enc Try.prog f false true false false W args (.bool true) W' := by
  have hlt : ∀ p ∈ before, p.block < W.heap.size := fun p hp => hW.lt p hp
  obtain ⟨p, q, hA, hV, hpq, hz, hn⟩ := id hW
  have hq : q = [] := by
    rw [hvars] at hV
    cases gs with
    | nil => exact hV
    | cons _ _ => simp [DataW.TrodVars] at hV
  subst hq
  rw [List.append_nil] at hpq
  refine ⟨ds, gs, before, [], p, [], hW, ?_, ?_, ?_, World.keptBut_mono (fun x hx => ⟨hx, ?_⟩) (hb.frame (· ∈ before)), fun h => by cases h⟩
  · rw [hs, hres]
    exact trodAll_cons_mk (shut_bool Try.underlying4 _) trodAll_mk0
  · rw [hs]
    exact trodAll_below hb _ _ _ _ hr hA (fun x hx => hlt x (by rw [hpq]; exact hx))
  · rw [hs, hvars]; rfl
  · rw [hpq] at hx; exact .inr (.inl hx)

/-- A slice whose elements (each of 'size' cells) read as the elements of a list. -/
def SliceOf {α : Type} (w : World) (size : Nat) (R : World → α → List Value → Prop) (v : Value) (l : List α) : Prop :=
  l.length ≤ 9223372036854775807 ∧ ∃ (a : Option Addr) (c : Nat), v = .slice a l.length c ∧ l.length ≤ c ∧
    (0 < l.length → ∃ b o, a = some ⟨b, o, none⟩ ∧ ∀ i x, l[i]? = some x → ∃ cs, cs.length = size ∧ R w x cs ∧ ∀ j u, cs[j]? = some u → w.cell? ⟨b, o + i * size + j, none⟩ = some u)

theorem open_sliceOf {H : Type} {enc : TypeId × Value → H} {P : Program} {w : World} {spare : Nat → Bool} {t e : TypeId} {v : Value} {d : DataW H} {ps : List MemPlace} {α : Type} {R : World → α → List Value → Prop} {size : Nat} {base : Nat}
    (ht : P.underlying t = some (.slice e)) (hce : P.cellsOf e = size) (hsz : 0 < size) (hv : Value.okWide P w .any base t v)
    (hel : ∀ n cs y, DataW.trod enc P w 0 spare true n e cs = some y → cs.length = size → ∃ x, R w x cs)
    (h : DataW.Trod enc P w 0 spare true t v d ps) : ∃ l : List α, SliceOf w size R v l := by
  obtain ⟨a0, len, cap, rfl⟩ := okWide_slice ht hv
  obtain ⟨fuel, hf⟩ := h
  rcases Go.Deep.open_slice ht hf with ⟨hcs, _⟩ | ⟨a, len', cap', m, n, D, Pl, hcs, _, hl, hm, hmm, _, hx⟩
  · simp [Value.cells] at hcs
    obtain ⟨rfl, rfl, rfl⟩ := hcs
    exact ⟨[], by simp, none, 0, rfl, by simp, by simp⟩
  · simp [Value.cells] at hcs
    obtain ⟨rfl, rfl, rfl⟩ := hcs
    have hlm : len ≤ m := by rw [hmm]; split <;> omega
    have each : ∀ i : Fin len, ∃ x cs, cs.length = size ∧ R w x cs ∧ ∀ j u, cs[j]? = some u → w.cell? ((a.add (i * size)).add j) = some u := by
      intro i
      obtain ⟨cs, h1, h2⟩ := hx i (by omega)
      rw [hce] at h1
      obtain ⟨_, hlen, hcell⟩ := World.cells?_some h1
      obtain ⟨x, hxr⟩ := hel _ _ _ h2 hlen
      refine ⟨x, cs, hlen, hxr, fun j u hu => ?_⟩
      have hj : j < size := by rw [← hlen]; exact (List.getElem?_eq_some_iff.1 hu).1
      rw [hcell j hj]; exact hu
    let f : Fin len → α := fun i => Classical.choose (each i)
    have hf' : ∀ i : Fin len, ∃ cs, cs.length = size ∧ R w (f i) cs ∧ ∀ j u, cs[j]? = some u → w.cell? ((a.add (i * size)).add j) = some u := fun i => Classical.choose_spec (each i)
    have hlen : (List.ofFn f).length = len := List.length_ofFn
    refine ⟨List.ofFn f, by rw [hlen]; unfold maxLen at hm; omega, some a, cap, by rw [hlen], by rw [hlen]; exact hl, fun hpos => ?_⟩
    rw [hlen] at hpos
    obtain ⟨b, o, spot⟩ := a
    have hspot : spot = none := by
      obtain ⟨cs, h1, _⟩ := hx 0 (by omega)
      rw [hce] at h1
      obtain ⟨_, hl0, hcell⟩ := World.cells?_some h1
      have h2 := hcell 0 hsz
      rw [List.getElem?_eq_getElem (by omega)] at h2
      have h3 : w.cell? ⟨b, o, spot⟩ = some (cs[0]'(by omega)) := by simpa [Addr.add] using h2
      cases spot with
      | none => rfl
      | some s => simp [World.cell?] at h3; split at h3 <;> simp at h3
    subst hspot
    refine ⟨b, o, rfl, fun i x hi => ?_⟩
    have hil : i < len := by rw [← hlen]; exact (List.getElem?_eq_some_iff.1 hi).1
    obtain ⟨cs, h1, h2, h3⟩ := hf' ⟨i, hil⟩
    have hxe : x = f ⟨i, hil⟩ := by
      rw [List.getElem?_ofFn] at hi
      simp [hil] at hi
      exact hi.symm
    refine ⟨cs, h1, by rw [hxe]; exact h2, fun j u hu => ?_⟩
    have := h3 j u hu
    rw [Go.Deep.add_add] at this
    rw [Addr.add_lit] at this
    rw [Nat.add_assoc]; exact this

mutual
/-- The cells of a datum of numbers. -/
def litCells : DataW Unit → List Value
  | .lit (.int k n) => [.int k n]
  | .agg parts => litCellsAll parts
  | _ => []
def litCellsAll : List (DataW Unit) → List Value
  | [] => []
  | d :: r => litCells d ++ litCellsAll r
end
end Go.Proofs.Ytngigmpaabmngaa

namespace Go.Proofs.Ytngigmpaabmngaa
open Go.ChangeShapes Go.WideShapes Go.ChangeAt Go.RowKit
open Go.ChangeMaps (open_string)

theorem open_sl_trod {H : Type} {enc : TypeId × Value → H} {P : Program} {w : World} {spare : Nat → Bool} {t e : TypeId} {cs0 : List Value} {y0 : DataW H × List MemPlace} {n0 : Nat} {α : Type} (E : El P α) (Pr : α → Prop)
    (ht : P.underlying t = some (.slice e)) (hce : P.cellsOf e = E.size)
    (hel : ∀ n cs y, DataW.trod enc P w 0 spare true n e cs = some y → cs.length = E.size → ∃ x, E.is w free x cs ∧ Pr x)
    (h : DataW.trod enc P w 0 spare true n0 t cs0 = some y0) : ∃ (v : Value) (l : List α), cs0 = [v] ∧ Sl E w free v l ∧ ∀ x ∈ l, Pr x := by
  rcases Go.Deep.open_slice ht h with ⟨hcs, _⟩ | ⟨a, len, cap, m, n, D, Pl, hcs, _, hl, hm, hmm, _, hx⟩
  · exact ⟨_, [], hcs, Sl.nil _ _ _ _ _, by simp⟩
  · have hlm : len ≤ m := by rw [hmm]; split <;> omega
    have hsz := E.pos
    have each : ∀ i : Fin len, ∃ x cs, cs.length = E.size ∧ (E.is w free x cs ∧ Pr x) ∧ ∀ j u, cs[j]? = some u → w.cell? ((a.add (i * E.size)).add j) = some u := by
      intro i
      obtain ⟨cs, h1, h2⟩ := hx i (by omega)
      rw [hce] at h1
      obtain ⟨_, hlen, hcell⟩ := World.cells?_some h1
      obtain ⟨x, hxr⟩ := hel _ _ _ h2 hlen
      refine ⟨x, cs, hlen, hxr, fun j u hu => ?_⟩
      have hj : j < E.size := by rw [← hlen]; exact (List.getElem?_eq_some_iff.1 hu).1
      rw [hcell j hj]; exact hu
    let f : Fin len → α := fun i => Classical.choose (each i)
    have hf' : ∀ i : Fin len, ∃ cs, cs.length = E.size ∧ (E.is w free (f i) cs ∧ Pr (f i)) ∧ ∀ j u, cs[j]? = some u → w.cell? ((a.add (i * E.size)).add j) = some u := fun i => Classical.choose_spec (each i)
    have hlen : (List.ofFn f).length = len := List.length_ofFn
    refine ⟨_, List.ofFn f, hcs, ⟨by rw [hlen]; unfold maxLen at hm; omega, some a, cap, by rw [hlen], by rw [hlen]; exact hl, fun hpos => ?_⟩, fun x hx => ?_⟩
    · rw [hlen] at hpos
      obtain ⟨b, o, spot⟩ := a
      have hspot : spot = none := by
        obtain ⟨cs, h1, _⟩ := hx 0 (by omega)
        rw [hce] at h1
        obtain ⟨_, hl0, hcell⟩ := World.cells?_some h1
        have h2 := hcell 0 hsz
        rw [List.getElem?_eq_getElem (by omega)] at h2
        have h3 : w.cell? ⟨b, o, spot⟩ = some (cs[0]'(by omega)) := by simpa [Addr.add] using h2
        cases spot with
        | none => rfl
        | some s => simp [World.cell?] at h3; split at h3 <;> simp at h3
      subst hspot
      refine ⟨b, o, rfl, id, fun i x hi => ?_⟩
      have hil : i < len := by rw [← hlen]; exact (List.getElem?_eq_some_iff.1 hi).1
      obtain ⟨cs, h1, h2, h3⟩ := hf' ⟨i, hil⟩
      have hxe : x = f ⟨i, hil⟩ := by
        rw [List.getElem?_ofFn] at hi
        simp [hil] at hi
        exact hi.symm
      refine ⟨cs, by rw [hxe]; exact h2.1, fun j u hu => ?_⟩
      have := h3 j u hu
      rw [Go.Deep.add_add] at this
      rw [Addr.add_lit] at this
      rw [Nat.add_assoc]; exact this
    · obtain ⟨i, rfl⟩ := List.mem_ofFn.1 hx
      exact (hf' i).choose_spec.2.1.2
theorem open_sl {H : Type} {enc : TypeId × Value → H} {P : Program} {w : World} {spare : Nat → Bool} {t e : TypeId} {v : Value} {d : DataW H} {ps : List MemPlace} {α : Type} {base : Nat} (E : El P α) (Pr : α → Prop)
    (ht : P.underlying t = some (.slice e)) (hce : P.cellsOf e = E.size) (hv : Value.okWide P w .any base t v)
    (hel : ∀ n cs y, DataW.trod enc P w 0 spare true n e cs = some y → cs.length = E.size → ∃ x, E.is w free x cs ∧ Pr x)
    (h : DataW.Trod enc P w 0 spare true t v d ps) : ∃ l : List α, Sl E w free v l ∧ ∀ x ∈ l, Pr x := by
  obtain ⟨a0, len, cap, rfl⟩ := okWide_slice ht hv
  obtain ⟨fuel, hf⟩ := h
  obtain ⟨v, l, hcs, hl⟩ := open_sl_trod E Pr ht hce hel hf
  simp [Value.cells] at hcs
  subst hcs
  exact ⟨l, hl⟩
theorem cells_int : Try.prog.cellsOf 3 = 1 := by kernel_rfl
theorem cells_i64 : Try.prog.cellsOf 2 = 1 := by kernel_rfl
theorem cells_string : Try.prog.cellsOf 9 = 1 := by kernel_rfl
theorem cells_val : Try.prog.cellsOf 66 = 3 := by kernel_rfl
/-- An int. -/
def Is64 (x : Int) : Prop := -9223372036854775808 ≤ x ∧ x ≤ 9223372036854775807
section
variable {H : Type} {enc : TypeId × Value → H} {w : World} {spare : Nat → Bool}
theorem is64_of {n : Int} (h : (Lit.int .i64 n).wf = true) : Is64 n := by
  simp [Lit.wf, IntKind.min, IntKind.max, IntKind.signed, IntKind.bits] at h
  unfold Is64
  omega
theorem open_int_el (n : Nat) (cs : List Value) (y : DataW H × List MemPlace) (h : DataW.trod enc Try.prog w 0 spare true n 3 cs = some y) (hl : cs.length = 1) : ∃ x, intE.is w free x cs ∧ Is64 x := by
  match cs, hl with
  | [c0], _ =>
    obtain ⟨k0, e0, _, hw⟩ := DataW.trod_int Try.underlying3 h
    simp at e0
    subst e0
    exact ⟨k0, rfl, is64_of hw⟩
/-- A value whose numbers and text are a machine's. -/
def IsVal (x : GVal) : Prop := Is64 x.kind ∧ Is64 x.n ∧ x.s.size ≤ maxLen
set_option maxRecDepth 10000 in
theorem open_val_el (n : Nat) (cs : List Value) (y : DataW H × List MemPlace) (h : DataW.trod enc Try.prog w 0 spare true n 66 cs = some y) (hl : cs.length = 3) : ∃ x, valE.is w free x cs ∧ IsVal x := by
  obtain ⟨xs, k, hk, hxy, _, hxl, hf⟩ := DataW.trod_struct Try.underlying66 h
  match cs, hl with
  | [c0, c1, c2], _ =>
    match xs, hxl with
    | [y0, y1, y2], _ =>
      have g0 := hf 0 _ rfl
      have g1 := hf 1 _ rfl
      have g2 := hf 2 _ rfl
      simp [cells_int, cells_i64, cells_string] at g0 g1 g2
      obtain ⟨k0, e0, _, w0⟩ := DataW.trod_int Try.underlying3 g0
      obtain ⟨k1, e1, _, w1⟩ := DataW.trod_int Try.underlying2 g1
      obtain ⟨s, e2, _, hs⟩ := DataW.trod_string Try.underlying9 g2
      simp at e0 e1 e2
      subst e0 e1 e2
      exact ⟨⟨k0, k1, s⟩, rfl, is64_of w0, is64_of w1, hs⟩
set_option maxRecDepth 10000 in
/-- An argument that is a value. -/
theorem open_valarg {base : Nat} {v : Value} {d : DataW H} {ps : List MemPlace} (hv : Value.okWide Try.prog w .any base 66 v) (h : DataW.Trod enc Try.prog w 0 spare true 66 v d ps) : ∃ x : GVal, v = aggG x ∧ IsVal x := by
  obtain ⟨cs, rfl, hs⟩ := okWide_struct Try.underlying66 hv
  obtain ⟨fuel, hf⟩ := h
  obtain ⟨x, hx, hp⟩ := open_val_el _ _ _ hf (by rw [cells_val] at hs; simpa [Value.cells] using hs)
  refine ⟨x, ?_, hp⟩
  have e : cs.toList = valOf x := hx
  obtain ⟨l⟩ := cs
  simp at e
  subst e
  rfl
end
end Go.Proofs.Ytngigmpaabmngaa

namespace Go.Proofs.Ytngigmpaabmngaa
open Go.ChangeShapes Go.WideShapes Go.ChangeAt Go.RowKit
open Go.ChangeMaps (open_string)

theorem cells_per : Try.prog.cellsOf 29 = 2 := by kernel_rfl
theorem cells_tup : Try.prog.cellsOf 32 = 4 := by kernel_rfl
theorem cells_ints : Try.prog.cellsOf 30 = 1 := by kernel_rfl
theorem cells_vals : Try.prog.cellsOf 27 = 1 := by kernel_rfl
section
variable {H : Type} {enc : TypeId × Value → H} {w : World} {spare : Nat → Bool}
/-- A tuple whose numbers are a machine's. -/
def IsTup (x : Tup) : Prop := Is64 x.lo ∧ Is64 x.hi ∧ (∀ v ∈ x.vals, IsVal v) ∧ ∀ i ∈ x.lin, Is64 i
set_option maxRecDepth 10000 in
theorem open_tup_el (n : Nat) (cs : List Value) (y : DataW H × List MemPlace) (h : DataW.trod enc Try.prog w 0 spare true n 32 cs = some y) (hl : cs.length = 4) : ∃ x, tupE.is w free x cs ∧ IsTup x := by
  obtain ⟨xs, k, hk, hxy, _, hxl, hf⟩ := DataW.trod_struct Try.underlying32 h
  match cs, hl with
  | [c0, c1, c2, c3], _ =>
    match xs, hxl with
    | [y0, y1, y2], _ =>
      have g0 := hf 0 _ rfl
      have g1 := hf 1 _ rfl
      have g2 := hf 2 _ rfl
      simp [cells_ints, cells_vals, cells_per] at g0 g1 g2
      obtain ⟨v, lv, e0, hv, pv⟩ := open_sl_trod valE IsVal Try.underlying27 cells_val open_val_el g0
      obtain ⟨u, lu, e2, hu, pu⟩ := open_sl_trod intE Is64 Try.underlying30 cells_int open_int_el g2
      obtain ⟨xs1, k1, _, _, _, hxl1, hf1⟩ := DataW.trod_struct Try.underlying29 g1
      match xs1, hxl1 with
      | [z0, z1], _ =>
        have f0 := hf1 0 _ rfl
        have f1 := hf1 1 _ rfl
        simp [cells_int] at f0 f1
        obtain ⟨k0, e3, _, w0⟩ := DataW.trod_int Try.underlying3 f0
        obtain ⟨k1, e4, _, w1⟩ := DataW.trod_int Try.underlying3 f1
        simp at e0 e2 e3 e4
        subst e0 e2 e3 e4
        exact ⟨⟨lv, k0, k1, lu⟩, ⟨_, _, rfl, hv, hu⟩, is64_of w0, is64_of w1, pv, pu⟩
end
end Go.Proofs.Ytngigmpaabmngaa

namespace Go.Proofs.Ytngigmpaabmngaa
open Go.ChangeShapes Go.WideShapes Go.ChangeAt Go.RowKit
open Go.ChangeMaps (open_string)

theorem cells_gran : Try.prog.cellsOf 24 = 2 := by kernel_rfl
section
variable {H : Type} {enc : TypeId × Value → H} {w : World} {spare : Nat → Bool}
set_option maxRecDepth 10000 in
theorem open_gran_el (n : Nat) (cs : List Value) (y : DataW H × List MemPlace) (h : DataW.trod enc Try.prog w 0 spare true n 24 cs = some y) (hl : cs.length = 2) : ∃ lo hi : Int, cs = [.int .i64 lo, .int .i64 hi] ∧ Is64 lo ∧ Is64 hi := by
  obtain ⟨xs1, k1, _, _, _, hxl1, hf1⟩ := DataW.trod_struct Try.underlying24 h
  match cs, hl with
  | [c0, c1], _ =>
    match xs1, hxl1 with
    | [z0, z1], _ =>
      have f0 := hf1 0 _ rfl
      have f1 := hf1 1 _ rfl
      simp [cells_int] at f0 f1
      obtain ⟨k0, e3, _, w0⟩ := DataW.trod_int Try.underlying3 f0
      obtain ⟨k1, e4, _, w1⟩ := DataW.trod_int Try.underlying3 f1
      simp at e3 e4
      subst e3 e4
      exact ⟨k0, k1, rfl, is64_of w0, is64_of w1⟩
set_option maxRecDepth 10000 in
/-- An argument that is a granularity. -/
theorem open_granarg {base : Nat} {v : Value} {d : DataW H} {ps : List MemPlace} (hv : Value.okWide Try.prog w .any base 24 v) (h : DataW.Trod enc Try.prog w 0 spare true 24 v d ps) : ∃ lo hi : Int, v = .agg #[.int .i64 lo, .int .i64 hi] ∧ Is64 lo ∧ Is64 hi := by
  obtain ⟨cs, rfl, hs⟩ := okWide_struct Try.underlying24 hv
  obtain ⟨fuel, hf⟩ := h
  obtain ⟨lo, hi, e, h1, h2⟩ := open_gran_el _ _ _ hf (by rw [cells_gran] at hs; simpa [Value.cells] using hs)
  obtain ⟨l⟩ := cs
  simp [Value.cells] at e
  subst e
  exact ⟨lo, hi, rfl, h1, h2⟩
end
end Go.Proofs.Ytngigmpaabmngaa

namespace Go.Proofs.Ytngigmpaabmngaa
open Go.ChangeShapes Go.WideShapes Go.ChangeAt Go.RowKit
open Go.ChangeMaps (open_string)

set_option maxRecDepth 100000 in
theorem gran_contract (H : Type) (enc : TypeId × Value → H) (W : World) (base : Nat) (args : Array Value) (ds gs : List (DataW H)) (before : List MemPlace)
    (hval : ∀ (j : Nat) t v, Try.f3.params[j]? = some t → args[j]? = some v → Value.okWide Try.prog W .any base t v)
    (hW : DataW.Whole enc Try.prog Try.f3.params.toList Rows.splitterGranuleSpec.vars false W args.toList ds gs before) :
    Calls Try.prog 3 args W fun e W' => ∃ v, e = .returned v ∧ Rows.splitterGranuleSpec.post enc Try.prog Try.f3 false true false false W args v W' := by
  have hW' := hW
  obtain ⟨p, q, hA0, hV, rfl, hfz, hnd⟩ := hW
  have hA : DataW.TrodAll enc Try.prog W 0 (fun _ => true) true Try.f3.params.toList args.toList ds p := hA0
  rw [Try.params3] at hA hval
  obtain ⟨v0, vs0, d0, ds0, p0, q0, hargs, rfl, rfl, h0, r0⟩ := trodAll_cons hA
  obtain ⟨v1, vs1, d1, ds1, p1, q1, rfl, rfl, rfl, h1, r1⟩ := trodAll_cons r0
  obtain ⟨rfl, rfl, rfl⟩ := trodAll_nil r1
  obtain rfl : args = #[v0, v1] := by cases args; simp_all
  obtain ⟨rfl, rfl⟩ := trodVars_none hV
  obtain ⟨l0, hl0, hp0⟩ := open_sl tupE IsTup Try.underlying22 cells_tup (hval 0 22 v0 rfl rfl) open_tup_el h0
  obtain ⟨kd1, st1, rfl, pk1, ps1⟩ := open_granarg (hval 1 24 v1 rfl rfl) h1
  refine (gran_walk v0 l0 kd1 st1 W hl0 (fun x hx => ⟨(hp0 x hx).1, (hp0 x hx).2.1⟩)).mono fun e W' ⟨he, hb⟩ => ⟨_, he, ?_⟩
  refine law_post rfl rfl (by intro t ht; rw [Try.params3] at ht; simp at ht; rcases ht with rfl | rfl <;> exact ⟨by kernel_rfl, of_decide_eq_true (by kernel_rfl)⟩) rfl hW' hb

set_option maxRecDepth 100000 in
theorem gran_lifted (os : Os) (started : os.Started) (H : Type) (enc : TypeId × Value → H) :
    ReturnsInHanded {} Try.checked os 3 .any (Rows.splitterGranuleSpec.pre6 enc Try.prog Try.f3 Rows.splitterGranuleRow.domain false) (Rows.splitterGranuleSpec.post enc Try.prog Try.f3 false true false false) := by
  refine returnsInHanded_of_change (C := Try.checked) own started (by kernel_rfl) Try.func3
    (ChangeSpec.witness6 (enc := enc) (C := Try.checked) false ⟨#[], #[.slice none 0 0, .agg #[.int .i64 0, .int .i64 0]], []⟩ 8 (by kernel_rfl) (by kernel_rfl) (by kernel_rfl) (by kernel_rfl)) ?_
  intro W base args ds gs before hval hW _ _
  exact gran_contract H enc W base args ds gs before hval hW

theorem gran_said : Rows.SplitterGranuleSaid :=
  OpenClaim.holds_of_wide 3 Try.f3 rfl rfl rfl rfl rfl rfl rfl ⟨rfl, rfl, rfl, rfl, rfl⟩ rfl rfl rfl rfl rfl (by kernel_rfl) Try.func3 (by kernel_rfl)
    (of_decide_eq_true (by kernel_rfl)) (by unfold Func.isWrapper; first | (rw [if_pos (by decide +kernel)]; kernel_rfl) | (rw [if_neg (by decide +kernel)]; exact ⟨rfl, rfl⟩))
    (fun os started H enc _ => gran_lifted os started H enc)
end Go.Proofs.Ytngigmpaabmngaa
