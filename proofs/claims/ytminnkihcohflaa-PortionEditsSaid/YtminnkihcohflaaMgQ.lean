/- The law PortionEdits: Insert, Delete and Update agree with the definition for arbitrary arguments. No condition. -/
import Derived.Test.YtminnkihcohflaaMgP
import Derived.Test.YtminnkihcohflaaMgL
import Derived.Test.YtminnkihcohflaaMgD
import Derived.Test.YtminnkihcohflaaMgH
import Derived.Test.YtminnkihcohflaaMgM
namespace Go.Proofs.Ytminnkihcohflaa
open Go.RowKit Go.Lib Go.Shelf

set_option maxHeartbeats 2000000 in
set_option maxRecDepth 100000 in
theorem rdel_any (v ve : Value) (l : List Ver) (plo phi : Int) (e : List GExp) (pred : Int) (w : World) (hv : Sl verE w free v l) (he : Sl expE w free ve e) (hl : l.length ≤ 20) (hel : e.length ≤ 1000) (hc : ∀ x ∈ e, In64 x.c.n) (hvn : ∀ x ∈ l, ∀ g ∈ x.vals, In64 g.n) (hvl : ∀ x ∈ l, x.vals.length ≤ 1000) :
    Calls Try.prog 22 #[v, .agg #[.int .i64 plo, .int .i64 phi], ve, .int .i64 pred] w (RetD w ((affV plo phi e pred l).map Ver.id) ((affV plo phi e pred l).flatMap (partsV plo phi none))) := by
  have hW : Below w.heap.size w ((w.alloc (.cells #[.int .i64 plo, .int .i64 phi] 31)).alloc (.cells #[.slice none 0 0, .slice none 0 0] 38)) := below_alloc_two w _ _
  have HE : Hid (Calls Try.prog 58 #[v, .agg #[.int .i64 plo, .int .i64 phi], ve, .int .i64 pred, .bool false, .slice none 0 0] ((w.alloc (.cells #[.int .i64 plo, .int .i64 phi] 31)).alloc (.cells #[.slice none 0 0, .slice none 0 0] 38)) (RetDelta w.heap.size ((w.alloc (.cells #[.int .i64 plo, .int .i64 phi] 31)).alloc (.cells #[.slice none 0 0, .slice none 0 0] 38)) ((affV plo phi e pred l).map Ver.id) ((affV plo phi e pred l).flatMap (partsV plo phi none)))) := redit_del v ve _ l plo phi e pred [] w.heap.size ((w.alloc (.cells #[.int .i64 plo, .int .i64 phi] 31)).alloc (.cells #[.slice none 0 0, .slice none 0 0] 38)) hW.size ((hv.old (Nat.le_refl _)).below hW) (he.below hW) hl hel hc hvn hvl (Sl.nil _ _ _ _ _)

  have HR : ((w.alloc (.cells #[.int .i64 plo, .int .i64 phi] 31)).alloc (.cells #[.slice none 0 0, .slice none 0 0] 38)).heap[w.heap.size + 1]? = some (.cells #[.slice none 0 0, .slice none 0 0] 38) ∧ w.heap.size + 1 < ((w.alloc (.cells #[.int .i64 plo, .int .i64 phi] 31)).alloc (.cells #[.slice none 0 0, .slice none 0 0] 38)).heap.size := ⟨(heap_two w _ _).2, by simp⟩
  generalize (affV plo phi e pred l).map Ver.id = cl at HE ⊢
  generalize (affV plo phi e pred l).flatMap (partsV plo phi none) = ad at HE ⊢
  have HW := hW
  clear hv he hc hvn hvl hW
  go_enter Try.func22, Try.ntmps22
  go_wp2_with fail
  refine HE.out.mono ?_
  rintro _ w2 ⟨vc, va, rfl, h1, h2, hb⟩
  obtain ⟨a1, c1, rfl⟩ := h1.shape
  obtain ⟨a2, c2, rfl⟩ := h2.shape
  have hr := (hb.block (w.heap.size + 1) HR.2).trans HR.1
  obtain ⟨r0, r1, f0, f1⟩ := box_two hr
  have H1 := Lib.hid h1
  have H2 := Lib.hid h2
  have HB : Hid (Below w.heap.size w w2) := HW.trans (hb.mono HW.size)
  have hK : Kept (fun k => w.heap.size ≤ k ∧ k < ((w.alloc (.cells #[.int .i64 plo, .int .i64 phi] 31)).alloc (.cells #[.slice none 0 0, .slice none 0 0] 38)).heap.size) w2 ((w2.setCell ⟨w.heap.size + 1, 0, none⟩ (.slice a1 cl.length c1)).setCell ⟨w.heap.size + 1, 1, none⟩ (.slice a2 ad.length c2)) :=
    (kept_set (G := fun k => w.heap.size ≤ k ∧ k < ((w.alloc (.cells #[.int .i64 plo, .int .i64 phi] 31)).alloc (.cells #[.slice none 0 0, .slice none 0 0] 38)).heap.size) (q := ⟨w.heap.size + 1, 0, none⟩) ⟨by show w.heap.size ≤ w.heap.size + 1; omega, HR.2⟩).trans (kept_set (G := fun k => w.heap.size ≤ k ∧ k < ((w.alloc (.cells #[.int .i64 plo, .int .i64 phi] 31)).alloc (.cells #[.slice none 0 0, .slice none 0 0] 38)).heap.size) (q := ⟨w.heap.size + 1, 1, none⟩) ⟨by show w.heap.size ≤ w.heap.size + 1; omega, HR.2⟩)
  have HK := Lib.hid hK
  clear h1 h2 hb hr hK
  go_wp2_with fail
  refine bodyPost_ret (v := .agg #[.slice a1 cl.length c1, .slice a2 ad.length c2]) (by simp [results, Try.results22, go_sem, r0, r1]) rfl ⟨_, _, rfl, (H1.out.kept HK.out).free, (H2.out.kept HK.out).free, (HB.out.setCell (p := ⟨w.heap.size + 1, 0, none⟩) (by show w.heap.size ≤ w.heap.size + 1; omega) _).setCell (p := ⟨w.heap.size + 1, 1, none⟩) (by show w.heap.size ≤ w.heap.size + 1; omega) _⟩
set_option maxHeartbeats 2000000 in
set_option maxRecDepth 100000 in
theorem rupd_any (v ve vs : Value) (l : List Ver) (plo phi : Int) (e : List GExp) (pred : Int) (set : List Asg) (w : World) (hv : Sl verE w free v l) (he : Sl expE w free ve e) (hl : l.length ≤ 20) (hel : e.length ≤ 1000) (hc : ∀ x ∈ e, In64 x.c.n) (hvn : ∀ x ∈ l, ∀ g ∈ x.vals, In64 g.n) (hvl : ∀ x ∈ l, x.vals.length ≤ 1000) (hs : Sl asgE w free vs set) :
    Calls Try.prog 24 #[v, .agg #[.int .i64 plo, .int .i64 phi], ve, .int .i64 pred, vs] w (RetD w ((affV plo phi e pred l).map Ver.id) ((affV plo phi e pred l).flatMap (partsV plo phi (some (asgV e set))))) := by
  have hW : Below w.heap.size w ((w.alloc (.cells #[.int .i64 plo, .int .i64 phi] 31)).alloc (.cells #[.slice none 0 0, .slice none 0 0] 38)) := below_alloc_two w _ _
  have HE : Hid (Calls Try.prog 58 #[v, .agg #[.int .i64 plo, .int .i64 phi], ve, .int .i64 pred, .bool true, vs] ((w.alloc (.cells #[.int .i64 plo, .int .i64 phi] 31)).alloc (.cells #[.slice none 0 0, .slice none 0 0] 38)) (RetDelta w.heap.size ((w.alloc (.cells #[.int .i64 plo, .int .i64 phi] 31)).alloc (.cells #[.slice none 0 0, .slice none 0 0] 38)) ((affV plo phi e pred l).map Ver.id) ((affV plo phi e pred l).flatMap (partsV plo phi (some (asgV e set)))))) := redit_upd v ve _ l plo phi e pred set w.heap.size ((w.alloc (.cells #[.int .i64 plo, .int .i64 phi] 31)).alloc (.cells #[.slice none 0 0, .slice none 0 0] 38)) hW.size ((hv.old (Nat.le_refl _)).below hW) (he.below hW) hl hel hc hvn hvl (hs.below hW)

  have HR : ((w.alloc (.cells #[.int .i64 plo, .int .i64 phi] 31)).alloc (.cells #[.slice none 0 0, .slice none 0 0] 38)).heap[w.heap.size + 1]? = some (.cells #[.slice none 0 0, .slice none 0 0] 38) ∧ w.heap.size + 1 < ((w.alloc (.cells #[.int .i64 plo, .int .i64 phi] 31)).alloc (.cells #[.slice none 0 0, .slice none 0 0] 38)).heap.size := ⟨(heap_two w _ _).2, by simp⟩
  generalize (affV plo phi e pred l).map Ver.id = cl at HE ⊢
  generalize (affV plo phi e pred l).flatMap (partsV plo phi (some (asgV e set))) = ad at HE ⊢
  have HW := hW
  clear hv he hc hvn hvl hW hs
  go_enter Try.func24, Try.ntmps24
  go_wp2_with fail
  refine HE.out.mono ?_
  rintro _ w2 ⟨vc, va, rfl, h1, h2, hb⟩
  obtain ⟨a1, c1, rfl⟩ := h1.shape
  obtain ⟨a2, c2, rfl⟩ := h2.shape
  have hr := (hb.block (w.heap.size + 1) HR.2).trans HR.1
  obtain ⟨r0, r1, f0, f1⟩ := box_two hr
  have H1 := Lib.hid h1
  have H2 := Lib.hid h2
  have HB : Hid (Below w.heap.size w w2) := HW.trans (hb.mono HW.size)
  have hK : Kept (fun k => w.heap.size ≤ k ∧ k < ((w.alloc (.cells #[.int .i64 plo, .int .i64 phi] 31)).alloc (.cells #[.slice none 0 0, .slice none 0 0] 38)).heap.size) w2 ((w2.setCell ⟨w.heap.size + 1, 0, none⟩ (.slice a1 cl.length c1)).setCell ⟨w.heap.size + 1, 1, none⟩ (.slice a2 ad.length c2)) :=
    (kept_set (G := fun k => w.heap.size ≤ k ∧ k < ((w.alloc (.cells #[.int .i64 plo, .int .i64 phi] 31)).alloc (.cells #[.slice none 0 0, .slice none 0 0] 38)).heap.size) (q := ⟨w.heap.size + 1, 0, none⟩) ⟨by show w.heap.size ≤ w.heap.size + 1; omega, HR.2⟩).trans (kept_set (G := fun k => w.heap.size ≤ k ∧ k < ((w.alloc (.cells #[.int .i64 plo, .int .i64 phi] 31)).alloc (.cells #[.slice none 0 0, .slice none 0 0] 38)).heap.size) (q := ⟨w.heap.size + 1, 1, none⟩) ⟨by show w.heap.size ≤ w.heap.size + 1; omega, HR.2⟩)
  have HK := Lib.hid hK
  clear h1 h2 hb hr hK
  go_wp2_with fail
  refine bodyPost_ret (v := .agg #[.slice a1 cl.length c1, .slice a2 ad.length c2]) (by simp [results, Try.results24, go_sem, r0, r1]) rfl ⟨_, _, rfl, (H1.out.kept HK.out).free, (H2.out.kept HK.out).free, (HB.out.setCell (p := ⟨w.heap.size + 1, 0, none⟩) (by show w.heap.size ≤ w.heap.size + 1; omega) _).setCell (p := ⟨w.heap.size + 1, 1, none⟩) (by show w.heap.size ≤ w.heap.size + 1; omega) _⟩
end Go.Proofs.Ytminnkihcohflaa

namespace Go.Proofs.Ytminnkihcohflaa
open Go.RowKit Go.Lib Go.Shelf

set_option maxHeartbeats 4000000 in
set_option maxRecDepth 100000 in
theorem sameInts_eq (v u : Value) (l : List Int) (w : World) (hp : Sl intE w free v l) (hp2 : Sl intE w free u l) :
    Calls Try.prog 53 #[v, u] w fun e w' => e = .returned (.bool true) ∧ Below w.heap.size w w' := by
  obtain ⟨a, c, rfl⟩ := hp.shape
  obtain ⟨a2, c2, rfl⟩ := hp2.shape
  have h63 := hp.1
  have HP := Lib.hid hp
  have HP2 := Lib.hid hp2
  obtain ⟨n, hn⟩ : ∃ n, n = l.length := ⟨_, rfl⟩
  have HN := Lib.hid hn
  rw [← hn] at h63 HP HP2 ⊢
  clear hp hp2 hn
  go_enter Try.func53, Try.ntmps53
  go_wp2_with fail
  go_loopw [5] (fun i wr => ∃ k : Nat, k ≤ n ∧ i = .int .i64 k ∧ Below w.heap.size w wr) (fun i _ => n - (intOf i).toNat)
  case atStart => exact ⟨0, Nat.zero_le _, rfl, Below.refl _ _⟩
  case round =>
    obtain ⟨k, hk, rfl, hB⟩ := hrel
    obtain ⟨wo, rfl⟩ : ∃ wo : World, wo = wr := ⟨_, rfl⟩
    by_cases hlt : k < n
    · obtain ⟨x, hx⟩ := lget_some l k (by rw [← HN.out]; exact hlt)
      obtain ⟨b, o, rfl, p0⟩ := int_at (HP.out.below hB) hx
      obtain ⟨b2, o2, rfl, q0⟩ := int_at (HP2.out.below hB) hx
      have HB := Lib.hid hB
      clear hx hB
      go_wp2_with fail
      go_region
      go_wp2_with fail
      go_roundw
      case rel => exact ⟨k + 1, by omega, by go_num, HB.out.drew⟩
      case measure => simp [intOf]; omega
    · go_wp2_with fail
      go_ret
      exact ⟨rfl, hB⟩
set_option maxHeartbeats 4000000 in
set_option maxRecDepth 100000 in
theorem sameDelta_eq (vc va vc2 va2 : Value) (cl : List Int) (ad : List Tup) (w : World) (hc : Sl intE w free vc cl) (ha : Tups w va ad) (hc2 : Sl intE w free vc2 cl) (ha2 : Tups w va2 ad) :
    Calls Try.prog 18 #[.agg #[vc, va], .agg #[vc2, va2]] w fun e w' => e = .returned (.bool true) ∧ Below w.heap.size w w' := by
  obtain ⟨a, c, rfl⟩ := hc.shape
  obtain ⟨a2, c2, rfl⟩ := ha.shape
  obtain ⟨a3, c3, rfl⟩ := hc2.shape
  obtain ⟨a4, c4, rfl⟩ := ha2.shape
  obtain ⟨n, hn⟩ : ∃ n, n = cl.length := ⟨_, rfl⟩
  obtain ⟨m, hm⟩ : ∃ m, m = ad.length := ⟨_, rfl⟩
  rw [← hn] at hc hc2 ⊢
  rw [← hm] at ha ha2 ⊢
  have hb := below_alloc_two w (.cells #[.slice a n c, .slice a2 m c2] 38) (.cells #[.slice a3 n c3, .slice a4 m c4] 38)
  have h1 : ((w.alloc (.cells #[.slice a n c, .slice a2 m c2] 38)).alloc (.cells #[.slice a3 n c3, .slice a4 m c4] 38)).heap[w.heap.size]? = some (.cells #[.slice a n c, .slice a2 m c2] 38 (0, 0)) := (Below.heap_alloc _ _ _ (by simp)).trans (World.alloc_heap_new w _)
  have h2 : ((w.alloc (.cells #[.slice a n c, .slice a2 m c2] 38)).alloc (.cells #[.slice a3 n c3, .slice a4 m c4] 38)).heap[w.heap.size + 1]? = some (.cells #[.slice a3 n c3, .slice a4 m c4] 38 (0, 0)) := by simpa using World.alloc_heap_new (w.alloc (.cells #[.slice a n c, .slice a2 m c2] 38)) (.cells #[.slice a3 n c3, .slice a4 m c4] 38)
  have HSI := Lib.hid (sameInts_eq _ _ cl _ (hc.below hb) (hc2.below hb))
  have HA := Lib.hid (ha.below hb)
  have HA2 := Lib.hid (ha2.below hb)
  have H1 := Lib.hid h1
  have H2 := Lib.hid h2
  clear hc ha hc2 ha2 h1 h2 hb hn hm
  go_enter Try.func18, Try.ntmps18
  go_wp2_with fail
  refine HSI.out.mono ?_
  rintro _ w2 ⟨rfl, hb2⟩
  have d1 : w2.cell? ⟨w.heap.size, 1, none⟩ = some (.slice a2 m c2) := cell_of (box_kept H1.out hb2) rfl
  have d3 : w2.cell? ⟨w.heap.size + 1, 1, none⟩ = some (.slice a4 m c4) := cell_of (box_kept H2.out hb2) rfl
  have HST : Hid (Calls Try.prog 15 #[.slice a2 m c2, .slice a4 m c4] w2 fun e w' => e = .returned (.bool true) ∧ Below w2.heap.size w2 w') := by
    have h := sameTups_any (.slice a2 m c2) (.slice a4 m c4) ad ad w2 (HA.out.below hb2) (HA2.out.below hb2)
    rw [sameTups_refl] at h
    exact h
  have HB2 := Lib.hid (below_two' hb2)
  clear hb2 HSI
  go_wp2_with fail
  refine HST.out.mono ?_
  rintro _ w3 ⟨rfl, hb3⟩
  have HB3 := Lib.hid (below_keep HB2.out hb3)
  clear hb3
  go_wp2_with fail
  go_ret
  exact ⟨rfl, HB3.out⟩
end Go.Proofs.Ytminnkihcohflaa

namespace Go.Proofs.Ytminnkihcohflaa
open Go.RowKit Go.Lib Go.Maps Go.Shelf

set_option maxHeartbeats 8000000 in
set_option maxRecDepth 100000 in
theorem pedits_walk (v ve vs vv : Value) (l : List Ver) (plo phi : Int) (e : List GExp) (pred : Int) (set : List Asg) (vals : List GVal) (w : World) (hv : Sl verE w free v l) (he : Sl expE w free ve e) (hs : Sl asgE w free vs set) (hvv : Sl valE w free vv vals) (hc : ∀ x ∈ e, In64 x.c.n) (hvn : ∀ x ∈ l, ∀ g ∈ x.vals, In64 g.n) :
    Calls Try.prog 4 #[v, .agg #[.int .i64 plo, .int .i64 phi], ve, .int .i64 pred, vs, vv] w fun e' w' => e' = .returned (.bool true) ∧ Below w.heap.size w w' := by
  obtain ⟨a5, c5, rfl⟩ := hvv.shape
  have h63 := hvv.1
  have hb0 := below_alloc w (.cells #[.int .i64 plo, .int .i64 phi] 31)
  have HF := Lib.hid (fewA_any v ve vs l e set _ (hv.below hb0) (he.below hb0) (hs.below hb0))
  obtain ⟨q, hq⟩ : ∃ q, q = vals.length := ⟨_, rfl⟩
  rw [← hq] at hvv h63 ⊢
  have HV := Lib.hid hv
  have HE := Lib.hid he
  have HS := Lib.hid hs
  have HVV := Lib.hid hvv
  have HC := Lib.hid hc
  have HVN := Lib.hid hvn
  have HQ := Lib.hid hq
  obtain ⟨fw, hfw⟩ : ∃ fw, fw = fewA l e set := ⟨_, rfl⟩
  rw [← hfw] at HF
  have HFW := Lib.hid hfw
  clear hv he hs hvv hc hvn hq hfw hb0
  go_enter Try.func4, Try.ntmps4
  go_wp2_with fail
  refine HF.out.mono ?_
  rintro _ w1 ⟨rfl, hb1⟩
  have hd := block_new w _ _ hb1
  have d0 : w1.cell? ⟨w.heap.size, 0, none⟩ = some (.int .i64 plo) := cell_of hd rfl
  have d1 : w1.cell? ⟨w.heap.size, 1, none⟩ = some (.int .i64 phi) := cell_of hd rfl
  have HB1 := Lib.hid (below_alloc2' hb1)
  clear HF hb1 hd
  cases fw
  · go_wp2_with fail
    refine (awake_any _).mono ?_
    rintro _ w2 ⟨rfl, hb2⟩
    have HB2 := Lib.hid (below_keep HB1.out hb2)
    clear hb2
    go_wp2_with fail
    go_ret
    exact ⟨rfl, HB2.out⟩
  · by_cases hq20 : q ≤ 20
    · have g1 : ¬ (20 : Int) < (q : Int) := by omega
      have hfa := HFW.out.symm
      unfold fewA at hfa
      rw [Bool.and_eq_true, Bool.and_eq_true] at hfa
      obtain ⟨hfv, he40, hs10⟩ := hfa
      obtain ⟨hl20, hlv⟩ := fewV_len hfv
      have he1000 : e.length ≤ 1000 := by have := of_decide_eq_true he40; omega
      have hvl : ∀ x ∈ l, x.vals.length ≤ 1000 := fun x hx => by have := hlv x hx; omega
      have hq1000 : vals.length ≤ 1000 := by rw [← HQ.out]; omega
      have CI : ∀ W, Below w.heap.size w W → Hid (Calls Try.prog 19 #[.slice a5 q c5, .agg #[.int .i64 plo, .int .i64 phi]] W (RetD W [] (insL vals plo phi))) := fun W hW => ins_any _ vals plo phi W (HVV.out.below hW) hq1000
      have CJ : ∀ W, Below w.heap.size w W → Hid (Calls Try.prog 20 #[.slice a5 q c5, .agg #[.int .i64 plo, .int .i64 phi]] W (RetD W [] (insL vals plo phi))) := fun W hW => rins_any _ vals plo phi W (HVV.out.below hW) hq1000
      have CD : ∀ W, Below w.heap.size w W → Hid (Calls Try.prog 21 #[v, .agg #[.int .i64 plo, .int .i64 phi], ve, .int .i64 pred] W (RetD W ((affV plo phi e pred l).map Ver.id) ((affV plo phi e pred l).flatMap (partsV plo phi none)))) := fun W hW => del_any v ve l plo phi e pred W (HV.out.below hW) (HE.out.below hW) hl20 he1000 HC.out HVN.out hvl
      have CG : ∀ W, Below w.heap.size w W → Hid (Calls Try.prog 22 #[v, .agg #[.int .i64 plo, .int .i64 phi], ve, .int .i64 pred] W (RetD W ((affV plo phi e pred l).map Ver.id) ((affV plo phi e pred l).flatMap (partsV plo phi none)))) := fun W hW => rdel_any v ve l plo phi e pred W (HV.out.below hW) (HE.out.below hW) hl20 he1000 HC.out HVN.out hvl
      have CU : ∀ W, Below w.heap.size w W → Hid (Calls Try.prog 23 #[v, .agg #[.int .i64 plo, .int .i64 phi], ve, .int .i64 pred, vs] W (RetD W ((affV plo phi e pred l).map Ver.id) ((affV plo phi e pred l).flatMap (partsV plo phi (some (asgV e set)))))) := fun W hW => upd_any v ve vs l plo phi e pred set W (HV.out.below hW) (HE.out.below hW) hl20 he1000 HC.out HVN.out hvl (HS.out.below hW)
      have CV : ∀ W, Below w.heap.size w W → Hid (Calls Try.prog 24 #[v, .agg #[.int .i64 plo, .int .i64 phi], ve, .int .i64 pred, vs] W (RetD W ((affV plo phi e pred l).map Ver.id) ((affV plo phi e pred l).flatMap (partsV plo phi (some (asgV e set)))))) := fun W hW => rupd_any v ve vs l plo phi e pred set W (HV.out.below hW) (HE.out.below hW) hl20 he1000 HC.out HVN.out hvl (HS.out.below hW)
      generalize insL vals plo phi = adI at CI CJ
      generalize (affV plo phi e pred l).map Ver.id = clD at CD CG CU CV
      generalize (affV plo phi e pred l).flatMap (partsV plo phi none) = adD at CD CG
      generalize (affV plo phi e pred l).flatMap (partsV plo phi (some (asgV e set))) = adU at CU CV
      have hBB := HB1.out
      clear hfv he40 hs10 hl20 hlv he1000 hvl hq1000
      go_wp2_with fail
      go_region_held3 (fun W => Below w.heap.size w W ∧ W.cell? ⟨w.heap.size, 0, none⟩ = some (.int .i64 plo) ∧ W.cell? ⟨w.heap.size, 1, none⟩ = some (.int .i64 phi))
        ((go_split_ands; refine ⟨?_, ?_, ?_⟩ <;> (first | with_reducible assumption | with_reducible exact Below.drew (by assumption) | with_reducible exact cell_drew (by assumption) | with_reducible exact below_keep (by assumption) (by assumption) | with_reducible exact cell_keep (by assumption) (by assumption))))
        (first
          | (go_at_call 17; refine (awake_any _).mono ?_; rintro e' wA ⟨rfl, hbA⟩)
          | (go_at_call 19; go_split_ands; refine (CI _ (by first | assumption | exact Below.drew (by assumption))).out.mono ?_; rintro e' wI ⟨vcI, vaI, rfl, hcI, haI, hbI⟩; (try replace hcJ := hcJ.below hbI); (try replace haJ := haJ.below hbI))
          | (go_at_call 20; go_split_ands; refine (CJ _ (by first | assumption | exact Below.drew (by assumption))).out.mono ?_; rintro e' wJ ⟨vcJ, vaJ, rfl, hcJ, haJ, hbJ⟩; (try replace hcI := hcI.below hbJ); (try replace haI := haI.below hbJ))
          | (go_at_call 21; go_split_ands; refine (CD _ (by first | assumption | exact Below.drew (by assumption))).out.mono ?_; rintro e' wD ⟨vcD, vaD, rfl, hcD, haD, hbD⟩; (try replace hcG := hcG.below hbD); (try replace haG := haG.below hbD))
          | (go_at_call 22; go_split_ands; refine (CG _ (by first | assumption | exact Below.drew (by assumption))).out.mono ?_; rintro e' wG ⟨vcG, vaG, rfl, hcG, haG, hbG⟩; (try replace hcD := hcD.below hbG); (try replace haD := haD.below hbG))
          | (go_at_call 23; go_split_ands; refine (CU _ (by first | assumption | exact Below.drew (by assumption))).out.mono ?_; rintro e' wU ⟨vcU, vaU, rfl, hcU, haU, hbU⟩; (try replace hcV := hcV.below hbU); (try replace haV := haV.below hbU))
          | (go_at_call 24; go_split_ands; refine (CV _ (by first | assumption | exact Below.drew (by assumption))).out.mono ?_; rintro e' wV ⟨vcV, vaV, rfl, hcV, haV, hbV⟩; (try replace hcU := hcU.below hbV); (try replace haU := haU.below hbV))
          | (go_at_call 18; with_reducible refine (sameDelta_eq vcI vaI vcJ vaJ [] adI _ hcI haI hcJ haJ).mono ?_; rintro e' wX ⟨rfl, hbX⟩)
          | (go_at_call 18; with_reducible refine (sameDelta_eq vcD vaD vcG vaG clD adD _ hcD haD hcG haG).mono ?_; rintro e' wY ⟨rfl, hbY⟩)
          | (go_at_call 18; with_reducible refine (sameDelta_eq vcU vaU vcV vaV clD adU _ hcU haU hcV haV).mono ?_; rintro e' wZ ⟨rfl, hbZ⟩))
      all_goals go_split_ands
      all_goals go_wp2_with fail
      all_goals go_ret
      all_goals exact ⟨rfl, by assumption⟩
    · have g1 : (20 : Int) < (q : Int) := by omega
      go_wp2_with fail
      refine (awake_any _).mono ?_
      rintro _ w2 ⟨rfl, hb2⟩
      have HB2 := Lib.hid (below_keep HB1.out hb2)
      clear hb2
      go_wp2_with fail
      go_ret
      exact ⟨rfl, HB2.out⟩
end Go.Proofs.Ytminnkihcohflaa

namespace Go.Proofs.Ytminnkihcohflaa
open Go.ChangeShapes Go.WideShapes Go.ChangeAt Go.RowKit
open Go.ChangeMaps (open_string)

set_option maxRecDepth 100000 in
theorem pedits_contract (H : Type) (enc : TypeId × Value → H) (W : World) (base : Nat) (args : Array Value) (ds gs : List (DataW H)) (before : List MemPlace)
    (hval : ∀ (j : Nat) t v, Try.f4.params[j]? = some t → args[j]? = some v → Value.okWide Try.prog W .any base t v)
    (hW : DataW.Whole enc Try.prog Try.f4.params.toList Rows.portionEditsSpec.vars false W args.toList ds gs before) :
    Calls Try.prog 4 args W fun e W' => ∃ v, e = .returned v ∧ Rows.portionEditsSpec.post enc Try.prog Try.f4 false true false false W args v W' := by
  have hW' := hW
  obtain ⟨p, q, hA0, hV, rfl, hfz, hnd⟩ := hW
  have hA : DataW.TrodAll enc Try.prog W 0 (fun _ => true) true Try.f4.params.toList args.toList ds p := hA0
  rw [Try.params4] at hA hval
  obtain ⟨v0, vs0, d0, ds0, p0, q0, hargs, rfl, rfl, h0, r0⟩ := trodAll_cons hA
  obtain ⟨v1, vs1, d1, ds1, p1, q1, rfl, rfl, rfl, h1, r1⟩ := trodAll_cons r0
  obtain ⟨v2, vs2, d2, ds2, p2, q2, rfl, rfl, rfl, h2, r2⟩ := trodAll_cons r1
  obtain ⟨v3, vs3, d3, ds3, p3, q3, rfl, rfl, rfl, h3, r3⟩ := trodAll_cons r2
  obtain ⟨v4, vs4, d4, ds4, p4, q4, rfl, rfl, rfl, h4, r4⟩ := trodAll_cons r3
  obtain ⟨v5, vs5, d5, ds5, p5, q5, rfl, rfl, rfl, h5, r5⟩ := trodAll_cons r4
  obtain ⟨rfl, rfl, rfl⟩ := trodAll_nil r5
  obtain rfl : args = #[v0, v1, v2, v3, v4, v5] := by cases args; simp_all
  obtain ⟨rfl, rfl⟩ := trodVars_none hV
  obtain ⟨l0, hl0, hp0⟩ := open_sl verE IsVer Try.underlying29 cells_ver (hval 0 29 v0 rfl rfl) open_ver_el h0
  obtain ⟨lo1, hi1, rfl, plo1, phi1⟩ := open_perarg (hval 1 31 v1 rfl rfl) h1
  obtain ⟨l2, hl2, hp2⟩ := open_sl expE (fun x => IsVal x.c) Try.underlying32 cells_exp (hval 2 32 v2 rfl rfl) open_exp_el h2
  obtain ⟨x3, rfl, rfl, rfl, wx3⟩ := open_int Try.underlying3 (hval 3 3 v3 rfl rfl) h3
  obtain ⟨l4, hl4, hp4⟩ := open_sl asgE (fun _ => True) Try.underlying33 cells_asg (hval 4 33 v4 rfl rfl) open_asg_el h4
  obtain ⟨l5, hl5, hp5⟩ := open_sl valE IsVal Try.underlying34 cells_val (hval 5 34 v5 rfl rfl) open_val_el h5
  refine (pedits_walk v0 v2 v4 v5 l0 lo1 hi1 l2 x3 l4 l5 W hl0 hl2 hl4 hl5 (fun x hx => (hp2 x hx).2.1) (fun x hx g hg => ((hp0 x hx).2.1 g hg).2.1)).mono fun e W' ⟨he, hb⟩ => ⟨_, he, ?_⟩
  refine law_post rfl rfl (by intro t ht; rw [Try.params4] at ht; simp at ht; rcases ht with rfl | rfl | rfl | rfl | rfl | rfl <;> exact ⟨by kernel_rfl, of_decide_eq_true (by kernel_rfl)⟩) rfl hW' hb

set_option maxRecDepth 100000 in
theorem pedits_lifted (os : Os) (started : os.Started) (H : Type) (enc : TypeId × Value → H) :
    ReturnsInHanded {} Try.checked os 4 .any (Rows.portionEditsSpec.pre6 enc Try.prog Try.f4 Rows.portionEditsRow.domain false) (Rows.portionEditsSpec.post enc Try.prog Try.f4 false true false false) := by
  refine returnsInHanded_of_change (C := Try.checked) own started (by kernel_rfl) Try.func4
    (ChangeSpec.witness6 (enc := enc) (C := Try.checked) false ⟨#[], #[.slice none 0 0, .agg #[.int .i64 0, .int .i64 0], .slice none 0 0, .int .i64 0, .slice none 0 0, .slice none 0 0], []⟩ 8 (by kernel_rfl) (by kernel_rfl) (by kernel_rfl) (by kernel_rfl)) ?_
  intro W base args ds gs before hval hW _ _
  exact pedits_contract H enc W base args ds gs before hval hW

theorem pedits_said : Rows.PortionEditsSaid :=
  OpenClaim.holds_of_wide 4 Try.f4 rfl rfl rfl rfl rfl rfl rfl ⟨rfl, rfl, rfl, rfl, rfl⟩ rfl rfl rfl rfl rfl (by kernel_rfl) Try.func4 (by kernel_rfl)
    (of_decide_eq_true (by kernel_rfl)) (by unfold Func.isWrapper; first | (rw [if_pos (by decide +kernel)]; kernel_rfl) | (rw [if_neg (by decide +kernel)]; exact ⟨rfl, rfl⟩))
    (fun os started H enc _ => pedits_lifted os started H enc)
end Go.Proofs.Ytminnkihcohflaa
