/- A part of the proofs of the laws of chapter 19: Apr. No condition beside sizes. -/
import Derived.Test.YtminnkihcohflaaMgJ
namespace Go.Proofs.Ytminnkihcohflaa
open Go.RowKit Go.Lib Go.Maps

theorem okId_snoc {l : List Ver} {first : Int} {k : Nat} {x : Ver} (hx : l[k]? = some x) (h : ¬ (((l.take k).any fun v => decide (first ≤ v.id)) = true ∨ ¬ ((l.take k).map Ver.id).Nodup)) (h1 : ¬ first ≤ x.id) (h2 : ∀ y ∈ l.take k, y.id ≠ x.id) : ¬ (((l.take (k + 1)).any fun v => decide (first ≤ v.id)) = true ∨ ¬ ((l.take (k + 1)).map Ver.id).Nodup) := by
  rw [not_or, Classical.not_not] at h ⊢
  rw [take_get hx, List.any_append, List.map_append, List.nodup_append]
  refine ⟨?_, h.2, by simp, ?_⟩
  · simp only [List.any_cons, List.any_nil, Bool.or_false, Bool.or_eq_true, decide_eq_true_eq, not_or]
    exact ⟨h.1, h1⟩
  · intro a ha b hb e
    simp at hb
    obtain ⟨y, hy, rfl⟩ := List.mem_map.1 ha
    exact h2 y hy (e.trans hb)
theorem argBad_take {l : List Ver} {at' first : Int} (k : Nat) (h : ((l.take k).any fun v => decide (first ≤ v.id)) = true ∨ ¬ ((l.take k).map Ver.id).Nodup) : argBad l at' first = true := by
  unfold argBad
  rcases h with h | h
  · obtain ⟨v, hv, hb⟩ := List.any_eq_true.1 h
    have : (l.any fun v => decide (first ≤ v.id)) = true := List.any_eq_true.2 ⟨v, List.mem_of_mem_take hv, hb⟩
    rw [this]; simp
  · have := nodup_take h
    simp [this]
theorem late_at {l : List Ver} (h : (l.map Ver.id).Nodup) {i : Nat} {x : Ver} (hx : l[i]? = some x) (at' : Int) : (l.any fun v => v.id == x.id && decide (at' < v.rlo)) = decide (at' < x.rlo) := by
  rw [Bool.eq_iff_iff, List.any_eq_true]
  constructor
  · rintro ⟨y, hy, hb⟩
    simp only [Bool.and_eq_true, beq_iff_eq] at hb
    obtain ⟨j, hj⟩ := List.getElem?_of_mem hy
    have := id_inj h hx hj hb.1.symm
    subst this
    rw [hx] at hj
    cases hj
    exact hb.2
  · intro hb
    exact ⟨x, List.mem_of_getElem? hx, by simp; simpa using hb⟩
theorem Sl.clearE {P : Program} {α β : Type} {E : El P α} {E' : El P β} {w0 w : World} {G : Nat → Prop} {v u : Value} {l : List β} {ys : List α} {base : Nat} (hu : Sl E w0 G u ys) (hb : Below w0.heap.size w0 w) (hown : Own E' w base v l) (hbase : w0.heap.size ≤ base) : Sl E w (fun k => some k = v.ownBlock) u ys :=
  ((hu.old (Nat.le_refl _)).below hb).mono (fun k _ hk => Nat.le_trans hbase (hown.lt k hk.symm).1)
set_option maxHeartbeats 8000000 in
set_option maxRecDepth 100000 in
theorem rapply_ver (v vc va : Value) (l : List Ver) (cl : List Int) (ad : List Tup) (at' first : Int) (w : World) (hv : Sl verE w free v l) (hcl : Sl intE w free vc cl) (had : Tups w va ad) (hl : l.length ≤ 1000) (hcn : cl.length ≤ 1000) (han : ad.length ≤ 1000) :
    Calls Try.prog 26 #[v, .agg #[vc, va], .int .i64 at', .int .i64 first] w fun e w' => ∃ r : Int, Hid (r = applyE l cl ad at' first) ∧ (r = 0 → ∃ vo, e = .returned (.tuple #[vo, .int .i64 0]) ∧ Sl verE w' free vo (applyL l cl ad at' first)) ∧ (r ≠ 0 → e = .returned (.tuple #[.slice none 0 0, .int .i64 r])) ∧ Below w.heap.size w w' := by
  obtain ⟨a, c, rfl⟩ := hv.shape
  obtain ⟨a2, c2, rfl⟩ := hcl.shape
  obtain ⟨a3, c3, rfl⟩ := had.shape
  have HV := Lib.hid hv
  have HCL := Lib.hid hcl
  have HAD := Lib.hid had
  obtain ⟨n, hn⟩ : ∃ n, n = l.length := ⟨_, rfl⟩
  obtain ⟨m, hm⟩ : ∃ m, m = cl.length := ⟨_, rfl⟩
  obtain ⟨q, hq⟩ : ∃ q, q = ad.length := ⟨_, rfl⟩
  have HN := Lib.hid hn
  have HM := Lib.hid hm
  have HQ := Lib.hid hq
  rw [← hn] at hl HV ⊢
  rw [← hm] at hcn HCL ⊢
  rw [← hq] at han HAD ⊢
  have HARG : Hid (argBad l at' first = true → applyE l cl ad at' first = 1) := fun h => by unfold applyE; rw [if_pos h]
  have HFI : ∀ W, Below w.heap.size w W → ∀ id, Hid (Calls Try.prog 62 #[.slice a n c, .int .i64 id] W fun e w' => ∃ r : Int, e = .returned (.int .i64 r) ∧ ((r = -1 ∧ curId l id = false) ∨ ∃ (i : Nat) (x : Ver), r = i ∧ l[i]? = some x ∧ x.id = id ∧ curId l id = true) ∧ Below W.heap.size W w') := fun W hW id => rfind_any _ l id W (HV.out.below hW)
  have hd0 := World.alloc_heap_new w (.cells #[.slice a2 m c2, .slice a3 q c3] 38)
  have HD0 := Lib.hid hd0
  have hb0 := below_alloc w (.cells #[.slice a2 m c2, .slice a3 q c3] 38)
  obtain ⟨w0, hw0⟩ : ∃ w0, w0 = w.alloc (.cells #[.slice a2 m c2, .slice a3 q c3] 38) := ⟨_, rfl⟩
  rw [← hw0] at HD0 hb0
  have HB0 := Lib.hid hb0
  have hz0 := hb0.size
  have HW0 := Lib.hid hw0
  clear hv hcl had hn hm hq hd0 hb0
  go_enter Try.func26, Try.ntmps26
  by_cases c1 : at' < 0
  · go_wp2_with fail
    refine bodyPost_ret (v := .tuple #[.slice none 0 0, .int .i64 1]) (by simp [results, Try.results26, go_sem]) rfl ⟨1, (HARG.out (by unfold argBad; simp [c1])).symm, fun h => absurd h (by decide), fun _ => rfl, below_alloc _ _⟩
  by_cases c2' : 1099511627776 ≤ at'
  · go_wp2_with fail
    refine bodyPost_ret (v := .tuple #[.slice none 0 0, .int .i64 1]) (by simp [results, Try.results26, go_sem]) rfl ⟨1, (HARG.out (by unfold argBad; simp [c2'])).symm, fun h => absurd h (by decide), fun _ => rfl, below_alloc _ _⟩
  by_cases c3' : first < 1
  · go_wp2_with fail
    refine bodyPost_ret (v := .tuple #[.slice none 0 0, .int .i64 1]) (by simp [results, Try.results26, go_sem]) rfl ⟨1, (HARG.out (by unfold argBad; simp [c3'])).symm, fun h => absurd h (by decide), fun _ => rfl, below_alloc _ _⟩
  by_cases c4 : 1099511627776 < first
  · go_wp2_with fail
    refine bodyPost_ret (v := .tuple #[.slice none 0 0, .int .i64 1]) (by simp [results, Try.results26, go_sem]) rfl ⟨1, (HARG.out (by unfold argBad; simp [c4])).symm, fun h => absurd h (by decide), fun _ => rfl, below_alloc _ _⟩
  go_wp2_with fail
  rw [← HW0.out]
  clear hw0 HW0
  go_loopw [40] (fun i wr => ∃ k : Nat, k ≤ n ∧ i = .int .i64 k ∧ Hid (¬ (((l.take k).any fun v => decide (first ≤ v.id)) = true ∨ ¬ ((l.take k).map Ver.id).Nodup)) ∧ Below w0.heap.size w0 wr) (fun i _ => n - (intOf i).toNat)
  case atStart => exact ⟨0, Nat.zero_le _, rfl, Lib.hid (by simp), Below.refl _ _⟩
  case round =>
    obtain ⟨k, hk, rfl, HK, hB⟩ := hrel
    obtain ⟨wo, rfl⟩ : ∃ wo : World, wo = wr := ⟨_, rfl⟩
    have hBw := HB0.out.trans (hB.mono hz0)
    by_cases hlt : k < n
    · obtain ⟨x, hx⟩ := lget_some l k (by rw [← HN.out]; exact hlt)
      obtain ⟨bv, ov, av, cv, rfl, hvv, p0, p1, p2, p3, p4, p5⟩ := ver_at (HV.out.below hBw) hx
      have HB := Lib.hid hB
      have HBw := Lib.hid hBw
      have HX := Lib.hid hx
      obtain ⟨xid, xvals, xlo, xhi, xrlo, xrhi⟩ := x
      dsimp only at p0 p1 p2 p3 p4 p5
      clear hB hBw hvv hx
      by_cases hf : first ≤ xid
      · have HR : Hid (applyE l cl ad at' first = 1) := HARG.out (argBad_take (k + 1) (.inl (by rw [take_get HX.out, List.any_append]; simp [hf])))
        go_wp2_with fail
        refine bodyPost_ret (v := .tuple #[.slice none 0 0, .int .i64 1]) (by simp [results, Try.results26, go_sem]) rfl ⟨1, HR.out.symm, fun h => absurd h (by decide), fun _ => rfl, below_alloc_keep HBw.out⟩
      · have HVB := Lib.hid (World.alloc_heap_new wo (.cells #[.int .i64 xid, .slice av xvals.length cv, .int .i64 xlo, .int .i64 xhi, .int .i64 xrlo, .int .i64 xrhi] 59))
        have HB1 : Hid (Below w0.heap.size w0 (wo.alloc (.cells #[.int .i64 xid, .slice av xvals.length cv, .int .i64 xlo, .int .i64 xhi, .int .i64 xrlo, .int .i64 xrhi] 59))) := below_alloc_keep HB.out
        obtain ⟨wv, hwv⟩ : ∃ wv, wv = wo.alloc (.cells #[.int .i64 xid, .slice av xvals.length cv, .int .i64 xlo, .int .i64 xhi, .int .i64 xrlo, .int .i64 xrhi] 59) := ⟨_, rfl⟩
        rw [← hwv] at HVB HB1
        have HWV := Lib.hid hwv
        have hzv : wo.heap.size < wv.heap.size := by rw [hwv]; simp
        clear hwv
        go_wp2_with fail
        rw [← HWV.out]
        clear HWV
        go_loopw [12] (fun i wr => ∃ j : Nat, j ≤ k ∧ i = .int .i64 j ∧ Hid (∀ y ∈ l.take j, y.id ≠ xid) ∧ Below wv.heap.size wv wr) (fun i _ => k - (intOf i).toNat)
        case atStart => exact ⟨0, Nat.zero_le _, rfl, Lib.hid (by simp), Below.refl _ _⟩
        case round =>
          obtain ⟨j, hj, rfl, HJ, hB2⟩ := hrel
          obtain ⟨w2, rfl⟩ : ∃ w2 : World, w2 = wr := ⟨_, rfl⟩
          by_cases hlt2 : j < k
          · obtain ⟨y, hy⟩ := lget_some l j (by rw [← HN.out]; omega)
            obtain ⟨by', oy, ay, cy, ey, hvy, q0, q1, q2, q3, q4, q5⟩ := ver_at ((HV.out.below (HB0.out.trans (HB1.out.mono hz0))).below hB2) hy
            cases ey
            obtain ⟨⟨z0, _⟩⟩ : (w2.cell? ⟨wo.heap.size, 0, none⟩ = some (.int .i64 xid) ∧ True) ∧ True := ⟨⟨cell_of (box_kept HVB.out hB2) rfl, trivial⟩, trivial⟩
            have HY := Lib.hid hy
            have HB2 := Lib.hid hB2
            obtain ⟨yid, yvals, ylo, yhi, yrlo, yrhi⟩ := y
            dsimp only at q0 q1 q2 q3 q4 q5
            have hjn : j < n := by omega
            clear hvy hy hB2
            by_cases he : (yid == xid) = true
            · have HE : Hid (yid = xid) := by show _ = _; simpa using he
              have HR : Hid (applyE l cl ad at' first = 1) := HARG.out (argBad_take (k + 1) (.inr (fun hd => by
                have h1 : (l.take (k + 1))[j]? = some ⟨yid, yvals, ylo, yhi, yrlo, yrhi⟩ := by rw [List.getElem?_take, if_pos (by omega)]; exact HY.out
                have h2 : (l.take (k + 1))[k]? = some ⟨xid, xvals, xlo, xhi, xrlo, xrhi⟩ := by rw [List.getElem?_take, if_pos (by omega)]; exact HX.out
                have := id_inj hd h1 h2 HE.out
                omega)))
              go_wp2_with fail
              go_region
              go_wp2_with fail
              refine bodyPost_ret (v := .tuple #[.slice none 0 0, .int .i64 1]) (by simp [results, Try.results26, go_sem]) rfl ⟨1, HR.out.symm, fun h => absurd h (by decide), fun _ => rfl, ?_⟩
              exact (HB0.out.trans (HB1.out.mono hz0)).trans ((HB2.out.drew).mono (Nat.le_trans (HB0.out.trans (HB1.out.mono hz0)).size (Nat.le_refl _)))
            · replace he : (yid == xid) = false := by simpa using he
              have HT : Hid (∀ z ∈ l.take (j + 1), z.id ≠ xid) := by
                intro z hz
                rw [take_get HY.out] at hz
                rcases List.mem_append.1 hz with hz | hz
                · exact HJ.out z hz
                · simp at hz; subst hz; simpa using he
              go_wp2_with fail
              go_region
              go_wp2_with fail
              go_roundw
              case rel => exact ⟨j + 1, by omega, by go_num, HT, HB2.out.drew⟩
              case measure => simp [intOf]; omega
          · have HT : Hid (¬ (((l.take (k + 1)).any fun v => decide (first ≤ v.id)) = true ∨ ¬ ((l.take (k + 1)).map Ver.id).Nodup)) := okId_snoc HX.out HK.out (Int.not_le.2 hf) (by have h := HJ.out; rwa [show j = k by omega] at h)
            have HB2 := Lib.hid hB2
            clear hB2
            go_wp2_with fail
            go_roundw
            case rel => exact ⟨k + 1, by omega, by go_num, HT, HB1.out.trans (HB2.out.mono HB1.out.size)⟩
            case measure => simp [intOf]; omega
    · have hF : l.take k = l := by rw [List.take_of_length_le (by rw [← HN.out]; omega)]
      have hK := HK.out
      rw [hF, not_or, Classical.not_not] at hK
      have HND : Hid ((l.map Ver.id).Nodup) := hK.2
      have HBAD : Hid (argBad l at' first = false) := by show _ = _; unfold argBad; simp [c1, c2', c3', c4, hK.2]; intro x hx; have := List.any_eq_false.1 (Bool.eq_false_iff.2 hK.1) x hx; simpa using this
      have HAP : Hid (okC l cl = false → applyE l cl ad at' first = 11) := fun h => by unfold applyE; rw [HBAD.out, h]; rfl
      have HAQ : Hid (okC l cl = true → applyE l cl ad at' first = if lateC l cl at' then 10 else if ad.any (fun t => !pdays t.lo t.hi) then 10 else 0) := fun h => by unfold applyE; rw [HBAD.out, h]; rfl
      have hdo := (hB.block w.heap.size (Array.getElem?_eq_some_iff.1 HD0.out).1).trans HD0.out
      have d0 : wo.cell? ⟨w.heap.size, 0, none⟩ = some (.slice a2 m c2) := cell_of hdo rfl
      have HBo := Lib.hid hBw
      have HDO := Lib.hid hdo
      have hzo := hBw.size
      clear hF hK hB hBw hdo HK HARG
      go_wp2_with fail
      go_loopw [66] (fun i wr => ∃ k : Nat, k ≤ m ∧ i = .int .i64 k ∧ Hid (okC l (cl.take k) = true) ∧ Below wo.heap.size wo wr) (fun i _ => m - (intOf i).toNat)
      case atStart => exact ⟨0, Nat.zero_le _, rfl, Lib.hid (okC_nil l), Below.refl _ _⟩
      case round =>
        obtain ⟨k, hk, rfl, HK, hB⟩ := hrel
        obtain ⟨w3, rfl⟩ : ∃ w3 : World, w3 = wr := ⟨_, rfl⟩
        have hBw := HBo.out.trans (hB.mono hzo)
        by_cases hlt : k < m
        · obtain ⟨x, hx⟩ := lget_some cl k (by rw [← HM.out]; exact hlt)
          obtain ⟨bx, ox, rfl, p0⟩ := int_at (HCL.out.below hBw) hx
          have HB := Lib.hid hB
          have HBw := Lib.hid hBw
          have HX := Lib.hid hx
          have HT : Hid (okC l (cl.take (k + 1)) = (curId l x && !(cl.take k).contains x)) := by show _ = _; rw [take_get HX.out, okC_snoc, HK.out, Bool.true_and]
          clear hx hB hBw
          go_wp2_with fail
          refine (HFI w3 HBw.out x).out.mono ?_
          rintro _ w4 ⟨r, rfl, hr, hb4⟩
          have HB4 := Lib.hid (HB.out.trans (hb4.mono HB.out.size))
          have HBw4 := Lib.hid (below_keep HBw.out hb4)
          have d0' : w4.cell? ⟨w.heap.size, 0, none⟩ = some (.slice (some ⟨bx, ox, none⟩) m c2) := cell_of ((HB4.out.block _ (Array.getElem?_eq_some_iff.1 HDO.out).1).trans HDO.out) rfl
          clear hb4
          rcases hr with ⟨rfl, hcur⟩ | ⟨i, y, rfl, hy, hyid, hcur⟩
          · have HR : Hid (applyE l cl ad at' first = 11) := HAP.out (okC_take l cl (k + 1) (by rw [HT.out, hcur]; rfl))
            clear hcur
            go_wp2_with fail
            refine bodyPost_ret (v := .tuple #[.slice none 0 0, .int .i64 11]) (by simp [results, Try.results26, go_sem]) rfl ⟨11, (HR.out).symm, fun h => absurd h (by decide), fun _ => rfl, HBw4.out⟩
          · have hlt0 : ¬ (i : Int) < 0 := by omega
            have HCO := Lib.hid (rcontains_any (.slice (some ⟨bx, ox, none⟩) k c2) (cl.take k) x w4 ((HCL.out.takeS (by omega)).below HBw4.out))
            obtain ⟨con, hcon⟩ : ∃ con, con = (cl.take k).contains x := ⟨_, rfl⟩
            rw [← hcon] at HCO HT
            have HCU : Hid (curId l x = true) := hcur
            have hmc2 := HCL.out.cap
            clear hcon hcur hy hyid
            go_wp2_with fail
            refine HCO.out.mono ?_
            rintro _ w5 ⟨rfl, hb5⟩
            have HB5 := Lib.hid (HB4.out.trans (hb5.mono HB4.out.size))
            have HBw5 := Lib.hid (below_keep HBw4.out hb5)
            clear hb5
            cases con
            · have HT2 : Hid (okC l (cl.take (k + 1)) = true) := by show _ = _; rw [HT.out, HCU.out]; rfl
              go_wp2_with fail
              go_roundw
              case rel => exact ⟨k + 1, by omega, by go_num, HT2, HB5.out⟩
              case measure => simp [intOf]; omega
            · have HR : Hid (applyE l cl ad at' first = 11) := HAP.out (okC_take l cl (k + 1) (by rw [HT.out, HCU.out]; rfl))
              go_wp2_with fail
              refine bodyPost_ret (v := .tuple #[.slice none 0 0, .int .i64 11]) (by simp [results, Try.results26, go_sem]) rfl ⟨11, (HR.out).symm, fun h => absurd h (by decide), fun _ => rfl, HBw5.out⟩
        · have hF : cl.take k = cl := by rw [List.take_of_length_le (by rw [← HM.out]; omega)]
          have hK := HK.out
          rw [hF] at hK
          have HOK : Hid (okC l cl = true) := hK
          have HAQ1 := Lib.hid (HAQ.out hK)
          have hdo := (hB.block _ (Array.getElem?_eq_some_iff.1 HDO.out).1).trans HDO.out
          have d3 : w3.cell? ⟨w.heap.size, 0, none⟩ = some (.slice a2 m c2) := cell_of hdo rfl
          have HB3 := Lib.hid hBw
          have HD3 := Lib.hid hdo
          have hz3 := hBw.size
          clear hF hK hB hBw hdo HK HAP HAQ
          go_wp2_with fail
          go_loopw [87] (fun i wr => ∃ k : Nat, k ≤ m ∧ i = .int .i64 k ∧ Hid (lateC l (cl.take k) at' = false) ∧ Below w3.heap.size w3 wr) (fun i _ => m - (intOf i).toNat)
          case atStart => exact ⟨0, Nat.zero_le _, rfl, Lib.hid rfl, Below.refl _ _⟩
          case round =>
            obtain ⟨k, hk, rfl, HK, hB⟩ := hrel
            obtain ⟨w6, rfl⟩ : ∃ w6 : World, w6 = wr := ⟨_, rfl⟩
            have hBw := HB3.out.trans (hB.mono hz3)
            by_cases hlt : k < m
            · obtain ⟨x, hx⟩ := lget_some cl k (by rw [← HM.out]; exact hlt)
              obtain ⟨bx, ox, rfl, p0⟩ := int_at (HCL.out.below hBw) hx
              have HB := Lib.hid hB
              have HBw := Lib.hid hBw
              have HX := Lib.hid hx
              have HT : Hid (lateC l (cl.take (k + 1)) at' = (l.any fun v => v.id == x && decide (at' < v.rlo))) := by show _ = _; rw [take_get HX.out]; have h := HK.out; unfold lateC at h ⊢; rw [List.any_append, h]; simp
              clear hx hB hBw
              go_wp2_with fail
              refine (HFI w6 HBw.out x).out.mono ?_
              rintro _ w7 ⟨r, rfl, hr, hb7⟩
              have HB7 := Lib.hid (HB.out.trans (hb7.mono HB.out.size))
              have HBw7 := Lib.hid (below_keep HBw.out hb7)
              clear hb7
              rcases hr with ⟨rfl, hcur⟩ | ⟨i, y, rfl, hy, hyid, hcur⟩
              · have h1 := HOK.out
                unfold okC at h1
                rw [Bool.and_eq_true, List.all_eq_true] at h1
                rw [h1.1 x (List.mem_of_getElem? HX.out)] at hcur
                cases hcur
              · obtain ⟨bv, ov, av, cv, rfl, hvv, q0, q1, q2, q3, q4, q5⟩ := ver_at (HV.out.below HBw7.out) hy
                have hin : i < n := by rw [HN.out]; exact (List.getElem?_eq_some_iff.1 hy).1
                have HL : Hid ((l.any fun v => v.id == x && decide (at' < v.rlo)) = decide (at' < y.rlo)) := by show _ = _; rw [← hyid]; exact late_at HND.out hy at'
                obtain ⟨yid, yvals, ylo, yhi, yrlo, yrhi⟩ := y
                dsimp only at q0 q1 q2 q3 q4 q5 HL
                clear hvv hy hyid hcur
                by_cases hlate : at' < yrlo
                · have HR : Hid (applyE l cl ad at' first = 10) := by
                    show _ = _
                    rw [HAQ1.out]
                    have h1 : lateC l cl at' = true := by
                      unfold lateC
                      exact List.any_eq_true.2 ⟨x, List.mem_of_getElem? HX.out, by rw [HL.out]; simpa using hlate⟩
                    rw [h1]; rfl
                  go_wp2_with fail
                  refine bodyPost_ret (v := .tuple #[.slice none 0 0, .int .i64 10]) (by simp [results, Try.results26, go_sem]) rfl ⟨10, (HR.out).symm, fun h => absurd h (by decide), fun _ => rfl, HBw7.out⟩
                · have HT2 : Hid (lateC l (cl.take (k + 1)) at' = false) := by show _ = _; rw [HT.out, HL.out]; simpa using hlate
                  go_wp2_with fail
                  go_roundw
                  case rel => exact ⟨k + 1, by omega, by go_num, HT2, HB7.out⟩
                  case measure => simp [intOf]; omega
            · have hF : cl.take k = cl := by rw [List.take_of_length_le (by rw [← HM.out]; omega)]
              have hK := HK.out
              rw [hF] at hK
              have HAQ2 : Hid (applyE l cl ad at' first = if ad.any (fun t => !pdays t.lo t.hi) then 10 else 0) := by show _ = _; rw [HAQ1.out, hK]; rfl
              have hdo := (hB.block _ (Array.getElem?_eq_some_iff.1 HD3.out).1).trans HD3.out
              have d6 : w6.cell? ⟨w.heap.size, 1, none⟩ = some (.slice a3 q c3) := cell_of hdo rfl
              have HB6 := Lib.hid hBw
              have HD6 := Lib.hid hdo
              have hz6 := hBw.size
              clear hF hK hB hBw hdo HK HAQ1 d3
              go_wp2_with fail
              go_loopw [105] (fun i wr => ∃ k : Nat, k ≤ q ∧ i = .int .i64 k ∧ Hid ((ad.take k).any (fun t => !pdays t.lo t.hi) = false) ∧ Below w6.heap.size w6 wr) (fun i _ => q - (intOf i).toNat)
              case atStart => exact ⟨0, Nat.zero_le _, rfl, Lib.hid rfl, Below.refl _ _⟩
              case round =>
                obtain ⟨k, hk, rfl, HK, hB⟩ := hrel
                obtain ⟨w8, rfl⟩ : ∃ w8 : World, w8 = wr := ⟨_, rfl⟩
                have hBw := HB6.out.trans (hB.mono hz6)
                by_cases hlt : k < q
                · obtain ⟨x, hx⟩ := lget_some ad k (by rw [← HQ.out]; exact hlt)
                  obtain ⟨bt, ot, tv, tc, te, tm, rfl, hvv, _, p0, p1, p2, p3⟩ := tups_at (HAD.out.below hBw) hx
                  have HB := Lib.hid hB
                  have HBw := Lib.hid hBw
                  have HX := Lib.hid hx
                  have HT : Hid ((ad.take (k + 1)).any (fun t => !pdays t.lo t.hi) = !pdays x.lo x.hi) := by show _ = _; rw [take_get HX.out, List.any_append, HK.out]; simp
                  obtain ⟨xvals, xlo, xhi, xlin⟩ := x
                  dsimp only at p0 p1 p2 p3 HT
                  obtain ⟨pd, hpd⟩ : ∃ pd, pd = pdays xlo xhi := ⟨_, rfl⟩
                  have HPD : ∀ W, Hid (Calls Try.prog 56 #[.agg #[.int .i64 xlo, .int .i64 xhi]] W fun e w' => e = .returned (.bool pd) ∧ Below W.heap.size W w') := fun W => by rw [hpd]; exact rprd_days xlo xhi W
                  rw [← hpd] at HT
                  have HPE := Lib.hid hpd
                  clear hx hB hBw hvv hpd
                  go_wp2_with fail
                  refine (HPD _).out.mono ?_
                  rintro _ w9 ⟨rfl, hb9⟩
                  have HB9 : Hid (Below w6.heap.size w6 w9) := HB.out.trans ((below_alloc2' hb9).mono HB.out.size)
                  have HBw9 := Lib.hid (below_keep HBw.out (below_alloc2' hb9))
                  clear hb9 HPD
                  cases pd
                  · have HR : Hid (applyE l cl ad at' first = 10) := by
                      show _ = _
                      rw [HAQ2.out]
                      have h1 : ad.any (fun t => !pdays t.lo t.hi) = true := List.any_eq_true.2 ⟨_, List.mem_of_getElem? HX.out, by show (!pdays xlo xhi) = true; rw [← HPE.out]; rfl⟩
                      rw [h1]; rfl
                    go_wp2_with fail
                    refine bodyPost_ret (v := .tuple #[.slice none 0 0, .int .i64 10]) (by simp [results, Try.results26, go_sem]) rfl ⟨10, (HR.out).symm, fun h => absurd h (by decide), fun _ => rfl, HBw9.out⟩
                  · go_wp2_with fail
                    go_roundw
                    case rel => exact ⟨k + 1, by omega, by go_num, HT, HB9.out⟩
                    case measure => simp [intOf]; omega
                · have hF : ad.take k = ad := by rw [List.take_of_length_le (by rw [← HQ.out]; omega)]
                  have hK := HK.out
                  rw [hF] at hK
                  have HZ : Hid (applyE l cl ad at' first = 0) := by show _ = _; rw [HAQ2.out, hK]; rfl
                  have hdo := (hB.block _ (Array.getElem?_eq_some_iff.1 HD6.out).1).trans HD6.out
                  have HB8 := Lib.hid hBw
                  have HD8 := Lib.hid hdo
                  have hz8 := hBw.size
                  clear hF hK hB hBw hdo HK HAQ2 d6
                  go_wp2_with fail
                  go_loopw [116, 19] (fun i o wr => ∃ k : Nat, k ≤ n ∧ i = .int .i64 k ∧ Own verE wr w8.heap.size o ((l.take k).flatMap (keepOne cl at')) ∧ Below w8.heap.size w8 wr) (fun i _ _ => n - (intOf i).toNat)
                  case atStart => exact ⟨0, Nat.zero_le _, rfl, Own.nil _ _ _, Below.refl _ _⟩
                  case round =>
                    obtain ⟨k, hk, rfl, hO, hB⟩ := hrel
                    obtain ⟨wo', rfl⟩ : ∃ wo' : World, wo' = wr := ⟨_, rfl⟩
                    obtain ⟨lk, hlke⟩ : ∃ lk, lk = (l.take k).flatMap (keepOne cl at') := ⟨_, rfl⟩
                    rw [← hlke] at hO
                    obtain ⟨ao, co, rfl⟩ := hO.shape
                    have hBw := HB8.out.trans (hB.mono hz8)
                    have hzo' := hB.size
                    by_cases hlt : k < n
                    · obtain ⟨x, hx⟩ := lget_some l k (by rw [← HN.out]; exact hlt)
                      obtain ⟨bv, ov, av, cv, ea, hvv, p0, p1, p2, p3, p4, p5⟩ := ver_at HV.out hx
                      cases ea
                      replace p0 := cell_keep hBw p0
                      replace p1 := cell_keep hBw p1
                      replace p2 := cell_keep hBw p2
                      replace p3 := cell_keep hBw p3
                      replace p4 := cell_keep hBw p4
                      replace p5 := cell_keep hBw p5
                      have hlk : lk.length ≤ 1000 := by rw [hlke]; exact Nat.le_trans (keepOne_length _ _ _) (by rw [List.length_take]; omega)
                      have HT : Hid ((l.take (k + 1)).flatMap (keepOne cl at') = lk ++ keepOne cl at' x) := by show _ = _; rw [take_get hx, List.flatMap_append, List.flatMap_cons, List.flatMap_nil, List.append_nil, hlke]
                      obtain ⟨xid, xvals, xlo, xhi, xrlo, xrhi⟩ := x
                      dsimp only at p0 p1 p2 p3 p4 p5 hvv HT
                      obtain ⟨nv, hnv⟩ : ∃ nv, nv = xvals.length := ⟨_, rfl⟩
                      rw [← hnv] at p1 hvv
                      have HNV := Lib.hid hnv
                      have HVV := Lib.hid hvv
                      have HO := Lib.hid hO
                      have HB := Lib.hid hB
                      have hda := (Below.heap_alloc wo' (.cells #[.int .i64 xid, .slice av nv cv, .int .i64 xlo, .int .i64 xhi, .int .i64 xrlo, .int .i64 xrhi] 59) _ (Nat.lt_of_lt_of_le (Array.getElem?_eq_some_iff.1 HD8.out).1 hzo')).trans ((hB.block _ (Array.getElem?_eq_some_iff.1 HD8.out).1).trans HD8.out)
                      have d7 : (wo'.alloc (.cells #[.int .i64 xid, .slice av nv cv, .int .i64 xlo, .int .i64 xhi, .int .i64 xrlo, .int .i64 xrhi] 59)).cell? ⟨w.heap.size, 0, none⟩ = some (.slice a2 m c2) := cell_of hda rfl
                      have HCO := Lib.hid (rcontains_any (.slice a2 m c2) cl xid (wo'.alloc (.cells #[.int .i64 xid, .slice av nv cv, .int .i64 xlo, .int .i64 xhi, .int .i64 xrlo, .int .i64 xrhi] 59)) ((HCL.out.below hBw).below (below_alloc _ _)))
                      obtain ⟨con, hcon⟩ : ∃ con, con = cl.contains xid := ⟨_, rfl⟩
                      rw [← hcon] at HCO
                      have HCON := Lib.hid hcon
                      clear hx hvv hO hB hBw hlke hnv hda hcon
                      go_wp2_with fail
                      refine HCO.out.mono ?_
                      rintro _ w9 ⟨rfl, hb9⟩
                      have hv9 := box_kept (World.alloc_heap_new wo' (.cells #[.int .i64 xid, .slice av nv cv, .int .i64 xlo, .int .i64 xhi, .int .i64 xrlo, .int .i64 xrhi] 59)) hb9
                      obtain ⟨z0, z1, z2, z3, z4, z5, zf⟩ := box_six hv9
                      have hB9 := below_alloc2' hb9
                      have HB9 := Lib.hid hB9
                      have HV9 := Lib.hid hv9
                      clear hb9 hv9 hB9 HCO
                      cases con
                      · have HK : Hid (keepOne cl at' ⟨xid, xvals, xlo, xhi, xrlo, xrhi⟩ = [⟨xid, xvals, xlo, xhi, xrlo, xrhi⟩]) := by show _ = _; unfold keepOne; dsimp only; rw [← HCON.out]; rfl
                        have HO5 : Hid (Own verE w9 w8.heap.size (.slice ao lk.length co) lk) := HO.out.below HB9.out
                        have HB5 : Hid (Below w8.heap.size w8 w9) := HB.out.trans (HB9.out.mono HB.out.size)
                        have HIS : Hid (Els verE w9 (fun k => some k = (Value.slice ao lk.length co).ownBlock) [⟨xid, xvals, xlo, xhi, xrlo, xrhi⟩] [.int .i64 xid, .slice av nv cv, .int .i64 xlo, .int .i64 xhi, .int .i64 xrlo, .int .i64 xrhi]) := Els.one ⟨_, rfl, HVV.out.clearE (HB8.out.trans (HB5.out.mono hz8)) HO5.out hz8⟩
                        have hz5 : w8.heap.size ≤ w9.heap.size := HB5.out.size
                        go_wp2_with (at_builtin; refine wpList_push rfl (.tmp 133) (.tmp 135) 29 rfl verE Try.underlying29 w8.heap.size (.slice ao lk.length co) lk rfl HO5.out [⟨xid, xvals, xlo, xhi, xrlo, xrhi⟩] #[.int .i64 xid, .slice av nv cv, .int .i64 xlo, .int .i64 xhi, .int .i64 xrlo, .int .i64 xrhi] HIS.out 1 1 rfl rfl (by decide) (by unfold maxLen; omega) (by show _ * 64 ≤ _; omega) hz5 ?_; intro g cap w5 hP hPa)
                        go_roundw
                        case rel => exact ⟨k + 1, by omega, by go_num, by rw [HT.out, HK.out]; exact hP.own' (by simp), HB5.out.trans (hP.below)⟩
                        case measure => simp [intOf]; omega
                      · by_cases hat : (xrlo == at') = true
                        · have HK : Hid (keepOne cl at' ⟨xid, xvals, xlo, xhi, xrlo, xrhi⟩ = []) := by show _ = _; unfold keepOne; dsimp only; rw [← HCON.out, hat]; rfl
                          go_wp2_with fail
                          go_roundw
                          case rel => exact ⟨k + 1, by omega, by go_num, by rw [HT.out, HK.out, List.append_nil]; exact HO.out.below HB9.out, HB.out.trans (HB9.out.mono HB.out.size)⟩
                          case measure => simp [intOf]; omega
                        · replace hat : (xrlo == at') = false := by simpa using hat
                          have HK : Hid (keepOne cl at' ⟨xid, xvals, xlo, xhi, xrlo, xrhi⟩ = [⟨xid, xvals, xlo, xhi, xrlo, at'⟩]) := by show _ = _; unfold keepOne; dsimp only; rw [← HCON.out, hat]; rfl
                          have hv10 : (w9.setCell ⟨wo'.heap.size, 5, none⟩ (.int .i64 at')).heap[wo'.heap.size]? = some (.cells #[.int .i64 xid, .slice av nv cv, .int .i64 xlo, .int .i64 xhi, .int .i64 xrlo, .int .i64 at'] 59 (0, 0)) := by rw [heap_setCell_same _ _ _ _ _ _ HV9.out]; rfl
                          obtain ⟨y0, y1, y2, y3, y4, y5, yf⟩ := box_six hv10
                          clear hv10
                          have HO5 : Hid (Own verE (w9.setCell ⟨wo'.heap.size, 5, none⟩ (.int .i64 at')) w8.heap.size (.slice ao lk.length co) lk) := HO.out.below (HB9.out.setCell (Nat.le_refl _) _)
                          have HB5 : Hid (Below w8.heap.size w8 (w9.setCell ⟨wo'.heap.size, 5, none⟩ (.int .i64 at'))) := (HB.out.trans (HB9.out.mono HB.out.size)).setCell hzo' _
                          have HIS : Hid (Els verE (w9.setCell ⟨wo'.heap.size, 5, none⟩ (.int .i64 at')) (fun k => some k = (Value.slice ao lk.length co).ownBlock) [⟨xid, xvals, xlo, xhi, xrlo, at'⟩] [.int .i64 xid, .slice av nv cv, .int .i64 xlo, .int .i64 xhi, .int .i64 xrlo, .int .i64 at']) := Els.one ⟨_, rfl, HVV.out.clearE (HB8.out.trans (HB5.out.mono hz8)) HO5.out hz8⟩
                          have hz5 : w8.heap.size ≤ (w9.setCell ⟨wo'.heap.size, 5, none⟩ (.int .i64 at')).heap.size := HB5.out.size
                          go_wp2_with (at_builtin; refine wpList_push rfl (.tmp 133) (.tmp 135) 29 rfl verE Try.underlying29 w8.heap.size (.slice ao lk.length co) lk rfl HO5.out [⟨xid, xvals, xlo, xhi, xrlo, at'⟩] #[.int .i64 xid, .slice av nv cv, .int .i64 xlo, .int .i64 xhi, .int .i64 xrlo, .int .i64 at'] HIS.out 1 1 rfl (show Value.slice (some ⟨w9.heap.size, 0, none⟩) 1 1 = .slice (some ⟨(w9.setCell ⟨wo'.heap.size, 5, none⟩ (.int .i64 at')).heap.size, 0, none⟩) 1 1 by simp [World.setCell]) (by decide) (by unfold maxLen; omega) (by show _ * 64 ≤ _; omega) hz5 ?_; intro g cap w5 hP hPa)
                          go_roundw
                          case rel => exact ⟨k + 1, by omega, by go_num, by rw [HT.out, HK.out]; exact hP.own' (by simp), HB5.out.trans (hP.below)⟩
                          case measure => simp [intOf]; omega
                    · have hF : l.take k = l := by rw [List.take_of_length_le (by rw [← HN.out]; omega)]
                      rw [hF] at hlke
                      have HLK := Lib.hid hlke
                      have hlkl : lk.length ≤ 1000 := by rw [hlke]; exact Nat.le_trans (keepOne_length _ _ _) (by rw [← HN.out]; exact hl)
                      have hdo := (hB.block w.heap.size (Array.getElem?_eq_some_iff.1 HD8.out).1).trans HD8.out
                      have d8 : wo'.cell? ⟨w.heap.size, 1, none⟩ = some (.slice a3 q c3) := cell_of hdo rfl
                      have HO := Lib.hid hO
                      have HB := Lib.hid hB
                      clear hF hlke hO hB hBw hdo
                      go_wp2_with fail
                      go_loopw [141, 19] (fun i o wr => ∃ k : Nat, k ≤ q ∧ i = .int .i64 k ∧ Own verE wr w8.heap.size o (lk ++ newV at' first (ad.take k)) ∧ Below w8.heap.size w8 wr) (fun i _ _ => q - (intOf i).toNat)
                      case atStart => exact ⟨0, Nat.zero_le _, rfl, by rw [List.take_zero]; simpa [newV] using HO.out, HB.out⟩
                      case round =>
                        obtain ⟨j, hj, rfl, hO, hB⟩ := hrel
                        obtain ⟨wt, rfl⟩ : ∃ wt : World, wt = wr := ⟨_, rfl⟩
                        obtain ⟨lj, hlje⟩ : ∃ lj, lj = lk ++ newV at' first (ad.take j) := ⟨_, rfl⟩
                        rw [← hlje] at hO
                        have hljl : lj.length ≤ 2000 := by rw [hlje, List.length_append, newV_length, List.length_take]; omega
                        obtain ⟨ao, co, rfl⟩ := hO.shape
                        have hBw := HB8.out.trans (hB.mono hz8)
                        have hzt := hB.size
                        by_cases hlt2 : j < q
                        · obtain ⟨x, hx⟩ := lget_some ad j (by rw [← HQ.out]; exact hlt2)
                          obtain ⟨bt, ot, tv, tc, te, tm, ea, hvv, _, p0, p1, p2, p3⟩ := tups_at HAD.out hx
                          cases ea
                          replace p0 := cell_keep hBw p0
                          replace p1 := cell_keep hBw p1
                          replace p2 := cell_keep hBw p2
                          replace p3 := cell_keep hBw p3
                          have HT : Hid (lk ++ newV at' first (ad.take (j + 1)) = lj ++ [⟨first + j, x.vals, x.lo, x.hi, at', 1099511627776⟩]) := by show _ = _; rw [take_get hx, newV_snoc, hlje, List.length_take, List.append_assoc, Nat.min_eq_left (by rw [← HQ.out]; exact hj)]
                          obtain ⟨xvals, xlo, xhi, xlin⟩ := x
                          dsimp only at p0 p1 p2 p3 HT hvv
                          obtain ⟨nt, hnt⟩ : ∃ nt, nt = xvals.length := ⟨_, rfl⟩
                          obtain ⟨nl, hnl⟩ : ∃ nl, nl = xlin.length := ⟨_, rfl⟩
                          rw [← hnt] at p0 hvv
                          rw [← hnl] at p3
                          have HVV := Lib.hid hvv
                          have HB := Lib.hid hB
                          have HBT : Hid (Below w8.heap.size w8 (wt.alloc (.cells #[.slice tv nt tc, .int .i64 xlo, .int .i64 xhi, .slice te nl tm] 67))) := hB.alloc hzt _
                          have HOj := Lib.hid (hO.below (below_alloc wt (.cells #[.slice tv nt tc, .int .i64 xlo, .int .i64 xhi, .slice te nl tm] 67)))
                          have hfj : IntKind.i64.wrap (first + (j : Int)) = first + j := IntWalk.i64_in _ (by omega)
                          have HIS : Hid (Els verE (wt.alloc (.cells #[.slice tv nt tc, .int .i64 xlo, .int .i64 xhi, .slice te nl tm] 67)) (fun k => some k = (Value.slice ao lj.length co).ownBlock) [⟨first + j, xvals, xlo, xhi, at', 1099511627776⟩] [.int .i64 (first + j), .slice tv nt tc, .int .i64 xlo, .int .i64 xhi, .int .i64 at', .int .i64 1099511627776]) := Els.one ⟨_, rfl, HVV.out.clearE (HB8.out.trans (HBT.out.mono hz8)) HOj.out hz8⟩
                          have hzp : w8.heap.size ≤ (wt.alloc (.cells #[.slice tv nt tc, .int .i64 xlo, .int .i64 xhi, .slice te nl tm] 67)).heap.size := HBT.out.size
                          clear hx hvv hO hB hBw hlje hnt hnl
                          go_wp2_with (at_builtin; refine wpList_push rfl (.tmp 146) (.tmp 157) 29 rfl verE Try.underlying29 w8.heap.size (.slice ao lj.length co) lj rfl HOj.out [⟨first + j, xvals, xlo, xhi, at', 1099511627776⟩] #[.int .i64 (first + j), .slice tv nt tc, .int .i64 xlo, .int .i64 xhi, .int .i64 at', .int .i64 1099511627776] HIS.out 1 1 rfl (show Value.slice (some ⟨wt.heap.size + 1, 0, none⟩) 1 1 = .slice (some ⟨(wt.alloc (.cells #[.slice tv nt tc, .int .i64 xlo, .int .i64 xhi, .slice te nl tm] 67)).heap.size, 0, none⟩) 1 1 by simp) (by decide) (by unfold maxLen; omega) (by show _ * 64 ≤ _; omega) hzp ?_; intro g cap w5 hP hPa)
                          go_roundw
                          case rel => exact ⟨j + 1, by omega, by go_num, by rw [HT.out]; exact hP.own' (by simp), HBT.out.trans hP.below⟩
                          case measure => simp [intOf]; omega
                        · have hF2 : ad.take j = ad := by rw [List.take_of_length_le (by rw [← HQ.out]; omega)]
                          have HRES : Hid (applyL l cl ad at' first = lj) := by show _ = _; rw [applyL, ← HLK.out, hlje, hF2]
                          have HOj := Lib.hid hO
                          have HBw := Lib.hid hBw
                          clear hF2 hlje hO hB hBw
                          go_wp2_with fail
                          refine bodyPost_ret (v := .tuple #[.slice ao lj.length co, .int .i64 0]) (by simp [results, Try.results26, go_sem]) rfl ⟨0, HZ.out.symm, fun _ => ⟨_, rfl, ?_⟩, fun h => absurd rfl h, HBw.out⟩
                          rw [HRES.out]
                          exact HOj.out.sl
end Go.Proofs.Ytminnkihcohflaa
