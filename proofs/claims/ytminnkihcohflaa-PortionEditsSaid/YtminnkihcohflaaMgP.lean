/- A part of the proofs of the laws of chapter 19: Reu. No condition beside sizes. -/
import Derived.Test.YtminnkihcohflaaMgO
import Derived.Test.YtminnkihcohflaaMgD
namespace Go.Proofs.Ytminnkihcohflaa
open Go.RowKit Go.Lib Go.Shelf

set_option maxHeartbeats 8000000 in
set_option maxRecDepth 100000 in
theorem redit_upd (v ve vs : Value) (l : List Ver) (plo phi : Int) (e : List GExp) (pred : Int) (set : List Asg) (m : Nat) (w : World) (hm : m ≤ w.heap.size) (hv : Sl verE w (fun k => m ≤ k) v l) (he : Sl expE w free ve e) (hl : l.length ≤ 20) (hel : e.length ≤ 1000) (hc : ∀ x ∈ e, In64 x.c.n) (hvn : ∀ x ∈ l, ∀ g ∈ x.vals, In64 g.n) (hvl : ∀ x ∈ l, x.vals.length ≤ 1000) (hs : Sl asgE w free vs set) :
    Calls Try.prog 58 #[v, .agg #[.int .i64 plo, .int .i64 phi], ve, .int .i64 pred, .bool true, vs] w (RetDelta m w ((affV plo phi e pred l).map Ver.id) ((affV plo phi e pred l).flatMap (partsV plo phi (some (asgV e set))))) := by
  obtain ⟨chg, hchg⟩ : ∃ chg, chg = (some (asgV e set)) := ⟨_, rfl⟩
  rw [← hchg]
  have HCHG := Lib.hid hchg
  have HE := Lib.hid he
  have HST := Lib.hid hs
  have HEL := Lib.hid hel
  have HC := Lib.hid hc
  obtain ⟨aet, cet, rfl⟩ := he.shape
  obtain ⟨ast, cst, rfl⟩ := hs.shape
  have HA : ∀ W, Below w.heap.size w W → Hid (Calls Try.prog 87 #[v, .agg #[.int .i64 plo, .int .i64 phi], .slice aet e.length cet, .int .i64 pred] W (RetOwn (verE.avoid fun k => m ≤ k) W (affV plo phi e pred l))) := fun W hW => raffected_any v _ l plo phi e pred W (hv.toAvoid.below hW) (he.below hW) hl hel hc hvn
  have HAI : Hid (∀ x ∈ affV plo phi e pred l, x ∈ l ∧ isLo x.lo x.hi plo phi < isHi x.lo x.hi plo phi) := fun x hx => ⟨(aff_ok _ _ _ _ _ _ hx).1, aff_mid _ _ _ _ _ (aff_ok _ _ _ _ _ _ hx).2⟩
  have HVN := Lib.hid hvn
  have HVL := Lib.hid hvl
  obtain ⟨aff, haff⟩ : ∃ aff, aff = affV plo phi e pred l := ⟨_, rfl⟩
  have hal : aff.length ≤ 20 := by rw [haff]; unfold affV; rw [sortV_length]; exact Nat.le_trans (List.length_filter_le _ _) hl
  rw [← haff] at HA HAI ⊢
  have HPL : Hid (∀ k, ((aff.take k).flatMap (partsV plo phi chg)).length ≤ 60) := fun k => by
    have h1 : ∀ m : List Ver, (m.flatMap (partsV plo phi chg)).length ≤ 3 * m.length := fun m => by
      induction m with
      | nil => simp
      | cons x m ih => rw [List.flatMap_cons, List.length_append, List.length_cons]; have := partsV_length plo phi chg x; omega
    have h2 := h1 (aff.take k)
    rw [List.length_take] at h2
    omega
  obtain ⟨n, hn⟩ : ∃ n, n = aff.length := ⟨_, rfl⟩
  have HN := Lib.hid hn
  clear hv he hc hvn haff hs hchg hvl
  go_enter Try.func58, Try.ntmps58
  go_wp2_with fail
  refine (HA _ (below_alloc_keep (below_alloc_two w _ _))).out.mono ?_
  rintro _ w1 ⟨v1, rfl, hO1, hB1⟩
  obtain ⟨a1, c1, rfl⟩ := hO1.shape
  rw [← hn] at hal ⊢
  have hS0 : EdSt m (w.heap.size + 1 + 1) (fun k => k = w.heap.size ∨ k = w.heap.size + 1) (.slice a1 n c1) aff (.slice none 0 0) (.slice none 0 0) [] [] w1 := by
    refine ⟨by omega, hn ▸ hO1.mono (by simp), Own.nil _ _ _, Own.nil _ _ _, ?_, fun k h => (by cases h), fun k h => (by cases h), fun k hk => ⟨?_, by omega, (fun h => by cases h), (fun h => by cases h)⟩⟩
    · exact (hB1.block _ (by simp)).trans (by simpa using World.alloc_heap_new ((w.alloc (.cells #[.int .i64 plo, .int .i64 phi] 31)).alloc (.cells #[.slice none 0 0, .slice none 0 0] 38)) (.cells #[.slice none 0 0, .slice none 0 0] 38))
    · have := hB1.size; simp at this; omega
  have hp0 : w1.heap[w.heap.size]? = some (.cells #[.int .i64 plo, .int .i64 phi] 31 (0, 0)) := (hB1.block _ (by simp; omega)).trans ((Below.heap_alloc _ _ _ (by simp; omega)).trans ((Below.heap_alloc _ _ _ (by simp)).trans (World.alloc_heap_new w _)))
  have hr0 : w1.heap[w.heap.size + 1]? = some (.cells #[.slice none 0 0, .slice none 0 0] 38 (0, 0)) := (hB1.block _ (by simp)).trans ((Below.heap_alloc _ _ _ (by simp)).trans (by simpa using World.alloc_heap_new (w.alloc (.cells #[.int .i64 plo, .int .i64 phi] 31)) (.cells #[.slice none 0 0, .slice none 0 0] 38)))
  have HR0 := Lib.hid hr0
  have HS0 := Lib.hid hS0
  have HP0 := Lib.hid hp0
  have HB1 : Hid (Below w.heap.size w w1) := ((below_alloc_keep (below_alloc_two w _ _))).trans (hB1.mono (by simp; omega))
  clear hS0 hp0 hr0 hB1 hO1 hn
  go_wp2_with fail
  go_loopw [25] (fun i wr => ∃ k vc va, k ≤ n ∧ i = .int .i64 (k : Nat) ∧ EdSt m (w.heap.size + 1 + 1) (fun k => k = w.heap.size ∨ k = w.heap.size + 1) (.slice a1 n c1) aff vc va ((aff.take k).map Ver.id) ((aff.take k).flatMap (partsV plo phi chg)) wr ∧ wr.heap[w.heap.size]? = some (.cells #[.int .i64 plo, .int .i64 phi] 31 (0, 0)) ∧ wr.heap[w.heap.size + 1]? = some (.cells #[.slice none 0 0, .slice none 0 0] 38 (0, 0)) ∧ Below w.heap.size w wr) (fun i _ => n - (intOf i).toNat)
  case atStart => exact ⟨0, _, _, Nat.zero_le _, rfl, HS0.out, HP0.out, HR0.out, HB1.out⟩
  case round =>
    obtain ⟨k, vc, va, hk, rfl, hS, hp, hr, hB⟩ := hrel
    obtain ⟨wo, rfl⟩ : ∃ wo : World, wo = wr := ⟨_, rfl⟩
    by_cases hlt : k < n
    · obtain ⟨x, hx⟩ := lget_some aff k (by rw [← HN.out]; exact hlt)
      obtain ⟨b, o, a2, c2v, rfl, hvv, p0, p1, p2, p3, p4, p5⟩ := vers_at hS.af.sl hx
      have HX := Lib.hid hx
      have HVV := Lib.hid hvv
      have HXI := Lib.hid (HAI.out x (List.mem_of_getElem? hx))
      obtain ⟨xid, xvals, xlo, xhi, xrlo, xrhi⟩ := x
      dsimp only at p0 p1 p2 p3 p4 p5 HVV HXI
      obtain ⟨nv, hnv⟩ : ∃ nv, nv = xvals.length := ⟨_, rfl⟩
      rw [← hnv] at p1 HVV
      have HNV := Lib.hid hnv
      obtain ⟨clk, hclk⟩ : ∃ clk, clk = (aff.take k).map Ver.id := ⟨_, rfl⟩
      obtain ⟨adk, hadk⟩ : ∃ adk, adk = (aff.take k).flatMap (partsV plo phi chg) := ⟨_, rfl⟩
      rw [← hclk, ← hadk] at hS
      have hcll : clk.length ≤ 20 := by rw [hclk, List.length_map, List.length_take]; omega
      have hadl : adk.length ≤ 60 := by rw [hadk]; exact HPL.out k
      have HCLK := Lib.hid hclk
      have HADK := Lib.hid hadk
      have HS1 := Lib.hid (hS.box (.cells #[.int .i64 xid, .slice a2 nv c2v, .int .i64 xlo, .int .i64 xhi, .int .i64 xrlo, .int .i64 xrhi] 59))
      have HP := Lib.hid hp
      have HR := Lib.hid hr
      have HB := Lib.hid hB
      obtain ⟨ac, cc, rfl⟩ := hS.cl.shape
      obtain ⟨aa, ca, rfl⟩ := hS.ad.shape
      have hgd := hS.gdlt
      have hzo := hB.size
      have hd2 : (wo.alloc (.cells #[.int .i64 xid, .slice a2 nv c2v, .int .i64 xlo, .int .i64 xhi, .int .i64 xrlo, .int .i64 xrhi] 59)).heap[w.heap.size + 1 + 1]? = some (.cells #[.slice ac clk.length cc, .slice aa adk.length ca] 38 (0, 0)) := (Below.heap_alloc _ _ _ hgd).trans hS.d
      have HD2 := Lib.hid hd2
      have e0 : (wo.alloc (.cells #[.int .i64 xid, .slice a2 nv c2v, .int .i64 xlo, .int .i64 xhi, .int .i64 xrlo, .int .i64 xrhi] 59)).cell? ⟨w.heap.size + 1 + 1, 0, none⟩ = some (.slice ac clk.length cc) := cell_of ((Below.heap_alloc _ _ _ hgd).trans hS.d) rfl
      have hne : some (w.heap.size + 1 + 1) ≠ (Value.slice ac clk.length cc).ownBlock := fun h => by have := (hS.cl.lt _ h.symm).1; omega
      have HC2 := Lib.hid (hS.cl.below (below_alloc wo (.cells #[.int .i64 xid, .slice a2 nv c2v, .int .i64 xlo, .int .i64 xhi, .int .i64 xrlo, .int .i64 xrhi] 59)))
      have HVB := Lib.hid (World.alloc_heap_new wo (.cells #[.int .i64 xid, .slice a2 nv c2v, .int .i64 xlo, .int .i64 xhi, .int .i64 xrlo, .int .i64 xrhi] 59))
      have HPB := Lib.hid ((Below.heap_alloc wo (.cells #[.int .i64 xid, .slice a2 nv c2v, .int .i64 xlo, .int .i64 xhi, .int .i64 xrlo, .int .i64 xrhi] 59) _ (by omega)).trans HP.out)
      have HRB := Lib.hid ((Below.heap_alloc wo (.cells #[.int .i64 xid, .slice a2 nv c2v, .int .i64 xlo, .int .i64 xhi, .int .i64 xrlo, .int .i64 xrhi] 59) _ (by omega)).trans HR.out)
      clear hx hvv hnv hclk hadk hS hp hr hB hd2
      go_wp2_with (at_builtin; refine wpList_push rfl (.tmp 30) (.tmp 33) 23 rfl intE Try.underlying23 (w.heap.size + 1 + 1 + 1) (.slice ac clk.length cc) clk rfl HC2.out [xid] #[.int .i64 xid] (Els.one rfl) 1 1 rfl (show Value.slice (some ⟨wo.heap.size + 1, 0, none⟩) 1 1 = .slice (some ⟨(wo.alloc (.cells #[.int .i64 xid, .slice a2 nv c2v, .int .i64 xlo, .int .i64 xhi, .int .i64 xrlo, .int .i64 xrhi] 59)).heap.size, 0, none⟩) 1 1 by simp) (by decide) (by unfold maxLen; omega) (by show _ * 8 ≤ _; omega) (by simp; omega) ?_; intro g cap w5 hP hPa; have hd5 := hP.block hne HD2.out; obtain ⟨k0, k1, k2, k3⟩ := box_two hd5; obtain ⟨hS6, hF6, hB6⟩ := HS1.out.closed (Below.refl _ _) hP (show (clk ++ [xid]).length = clk.length + 1 by simp); have hv6 := (hF6 _ (.inr rfl)).trans HVB.out; have hp6 := (hF6 _ (.inl (.inl rfl))).trans HPB.out; have hr6 := (hF6 _ (.inl (.inr rfl))).trans HRB.out; have hs6 : (w5.setCell ⟨w.heap.size + 1 + 1, 0, none⟩ (.slice (some ⟨g, 0, none⟩) (clk.length + 1) cap)).heap.size = w5.heap.size := (by simp [World.setCell]); have hS6b := hS6.box (.cells #[.int .i64 xid] 3); have hb6 := below_alloc (w5.setCell ⟨w.heap.size + 1 + 1, 0, none⟩ (.slice (some ⟨g, 0, none⟩) (clk.length + 1) cap)) (.cells #[.int .i64 xid] 3); have hv6b := box_kept hv6 hb6; have hp6b := box_kept hp6 hb6; have hr6b := box_kept hr6 hb6; have hl6b : ((w5.setCell ⟨w.heap.size + 1 + 1, 0, none⟩ (.slice (some ⟨g, 0, none⟩) (clk.length + 1) cap)).alloc (.cells #[.int .i64 xid] 3)).heap[w5.heap.size]? = some (.cells #[.int .i64 xid] 3 (0, 0)) := hs6 ▸ World.alloc_heap_new (w5.setCell ⟨w.heap.size + 1 + 1, 0, none⟩ (.slice (some ⟨g, 0, none⟩) (clk.length + 1) cap)) (.cells #[.int .i64 xid] 3); have x0 : (w5.setCell ⟨w.heap.size + 1 + 1, 0, none⟩ (.slice (some ⟨g, 0, none⟩) (clk.length + 1) cap)).cell? ⟨wo.heap.size, 0, none⟩ = some (.int .i64 xid) := cell_of hv6 rfl; have x2 : ((w5.setCell ⟨w.heap.size + 1 + 1, 0, none⟩ (.slice (some ⟨g, 0, none⟩) (clk.length + 1) cap)).alloc (.cells #[.int .i64 xid] 3)).cell? ⟨wo.heap.size, 2, none⟩ = some (.int .i64 xlo) := cell_of hv6b rfl; have x3 : ((w5.setCell ⟨w.heap.size + 1 + 1, 0, none⟩ (.slice (some ⟨g, 0, none⟩) (clk.length + 1) cap)).alloc (.cells #[.int .i64 xid] 3)).cell? ⟨wo.heap.size, 3, none⟩ = some (.int .i64 xhi) := cell_of hv6b rfl; have y0 : ((w5.setCell ⟨w.heap.size + 1 + 1, 0, none⟩ (.slice (some ⟨g, 0, none⟩) (clk.length + 1) cap)).alloc (.cells #[.int .i64 xid] 3)).cell? ⟨w.heap.size, 0, none⟩ = some (.int .i64 plo) := cell_of hp6b rfl; have y1 : ((w5.setCell ⟨w.heap.size + 1 + 1, 0, none⟩ (.slice (some ⟨g, 0, none⟩) (clk.length + 1) cap)).alloc (.cells #[.int .i64 xid] 3)).cell? ⟨w.heap.size, 1, none⟩ = some (.int .i64 phi) := cell_of hp6b rfl)
      refine (risect_any xlo xhi plo phi _).mono ?_
      rintro _ w7 ⟨rfl, hb7⟩
      have HMID := HXI.out.2
      obtain ⟨mlo, hmlo⟩ : ∃ q, q = isLo xlo xhi plo phi := ⟨_, rfl⟩
      obtain ⟨mhi, hmhi⟩ : ∃ q, q = isHi xlo xhi plo phi := ⟨_, rfl⟩
      rw [← hmlo, ← hmhi] at HMID ⊢
      have hS7 : EdSt m (w.heap.size + 1 + 1) (fun k => (((k = w.heap.size ∨ k = w.heap.size + 1) ∨ k = wo.heap.size) ∨ k = w5.heap.size) ∨ k = w7.heap.size) (.slice (some ⟨b, o, none⟩) n c1) aff (.slice (some ⟨g, 0, none⟩) (clk.length + 1) cap) (.slice aa adk.length ca) (clk ++ [xid]) adk (w7.alloc (.cells #[.int .i64 mlo, .int .i64 mhi] 31)) := ((hS6b.below hb7).box (.cells #[.int .i64 mlo, .int .i64 mhi] 31)).mono (by rw [hs6]; exact fun k hk => hk)
      have hb8 := below_alloc w7 (.cells #[.int .i64 mlo, .int .i64 mhi] 31)
      have HVx0 := Lib.hid (box_kept (box_kept hv6b hb7) hb8)
      have HPx0 := Lib.hid (box_kept (box_kept hp6b hb7) hb8)
      have HRx0 := Lib.hid (box_kept (box_kept hr6b hb7) hb8)
      have HLx0 := Lib.hid (box_kept (box_kept hl6b hb7) hb8)
      have HCx0 := Lib.hid (World.alloc_heap_new w7 (.cells #[.int .i64 mlo, .int .i64 mhi] 31))
      have HBx0 : Hid (Below w.heap.size wo (w7.alloc (.cells #[.int .i64 mlo, .int .i64 mhi] 31))) := Below.alloc (((below_alloc_from wo _ hzo)).trans ((hB6.mono (by omega)).trans ((hb6.mono (Nat.le_trans (by simp; omega) hB6.size)).trans (hb7.mono (Nat.le_trans (Nat.le_trans (by simp; omega) hB6.size) (by simp)))))) (Nat.le_trans (Nat.le_trans (Nat.le_trans (by simp; omega) hB6.size) (by simp)) hb7.size) _
      have HSx0 := Lib.hid hS7
      have hgl : w.heap.size + 1 + 1 < w5.heap.size := by have := (hS6.gdlt); omega
      have hgcl' : w.heap.size + 1 + 1 < w7.heap.size := Nat.lt_of_lt_of_le hgl (Nat.le_trans (by simp) hb7.size)
      have HMLO := Lib.hid hmlo
      have HMHI := Lib.hid hmhi
      have HOLD : ∀ W, Below w.heap.size wo W → Sl valE W (fun k => free k ∨ m ≤ k) (.slice a2 nv c2v) xvals := fun W hW => sl_old HVV.out (hW.mono hm)
      have HASG : ∀ W, Below w.heap.size wo W → Hid (Calls Try.prog 89 #[.slice a2 nv c2v, .slice aet e.length cet, .slice ast set.length cst] W (RetOwn valE W (asgV e set xvals))) := fun W hW => rassign_any _ _ _ xvals set e W (HOLD W hW).free (HST.out.below (HB.out.trans hW)) (HE.out.below (HB.out.trans hW)) HEL.out (HVL.out _ HXI.out.1) HC.out (HVN.out _ HXI.out.1)
      clear hP hPa hd5 k0 k1 k2 k3 hS6 hF6 hB6 hv6 hp6 hr6 x0 x2 x3 y0 y1 hS6b hb6 hv6b hp6b hr6b hl6b hS7 hb8 hb7 hmlo hmhi
      have hgcl : w.heap.size + 1 + 1 < w7.heap.size := hgcl'
      by_cases hc1 : xlo < mlo
      · have x1x0 : (w7.alloc (.cells #[.int .i64 mlo, .int .i64 mhi] 31)).cell? ⟨wo.heap.size, 1, none⟩ = some (.slice a2 nv c2v) := cell_of HVx0.out rfl
        have x2x0 : (w7.alloc (.cells #[.int .i64 mlo, .int .i64 mhi] 31)).cell? ⟨wo.heap.size, 2, none⟩ = some (.int .i64 xlo) := cell_of HVx0.out rfl
        have x3x0 : (w7.alloc (.cells #[.int .i64 mlo, .int .i64 mhi] 31)).cell? ⟨wo.heap.size, 3, none⟩ = some (.int .i64 xhi) := cell_of HVx0.out rfl
        have y0x0 : (w7.alloc (.cells #[.int .i64 mlo, .int .i64 mhi] 31)).cell? ⟨w7.heap.size, 0, none⟩ = some (.int .i64 mlo) := cell_of HCx0.out rfl
        have y1x0 : (w7.alloc (.cells #[.int .i64 mlo, .int .i64 mhi] 31)).cell? ⟨w7.heap.size, 1, none⟩ = some (.int .i64 mhi) := cell_of HCx0.out rfl
        obtain ⟨dAx0, dBx0, dCx0, dDx0⟩ := box_two HSx0.out.d
        go_wp2_with (at_builtin; refine wpList_push rfl (.tmp 53) (.tmp 64) 22 rfl (tupE.avoid fun k => (m ≤ k ∧ k ≤ w.heap.size + 1 + 1) ∨ some k = (Value.slice (some ⟨g, 0, none⟩) (clk.length + 1) cap).ownBlock) Try.underlying22 (w.heap.size + 1 + 1 + 1) (.slice aa adk.length ca) adk rfl HSx0.out.ad [(⟨xvals, xlo, mlo, [xid]⟩ : Tup)] #[.slice a2 nv c2v, .int .i64 xlo, .int .i64 mlo, .slice (some ⟨w5.heap.size, 0, none⟩) 1 1] (HSx0.out.elem (HSx0.out.oldv (HOLD _ HBx0.out)) HLx0.out (.inl (.inr rfl)) hgl) 1 1 rfl (show Value.slice (some ⟨w7.heap.size + 1, 0, none⟩) 1 1 = .slice (some ⟨(w7.alloc (.cells #[.int .i64 mlo, .int .i64 mhi] 31)).heap.size, 0, none⟩) 1 1 by simp) (by decide) (by unfold maxLen; (try simp); omega) (by show _ * 64 ≤ _; (try simp); omega) HSx0.out.gdlt ?_; intro gp capp w8 hPp hPap; obtain ⟨j0p, j1p, j2p, j3p⟩ := box_two (hPp.block (fun e => by have := (HSx0.out.ad.lt _ e.symm).1; omega) HSx0.out.d); obtain ⟨hSp, hFp, hBp⟩ := HSx0.out.pushed (Below.refl _ _) hPp (show (adk ++ [(⟨xvals, xlo, mlo, [xid]⟩ : Tup)]).length = adk.length + 1 by simp); have HSp := Lib.hid hSp; have HVp := Lib.hid ((hFp _ (.inl (.inl (.inr rfl)))).trans HVx0.out); have HPp := Lib.hid ((hFp _ (.inl (.inl (.inl (.inl rfl))))).trans HPx0.out); have HRp := Lib.hid ((hFp _ (.inl (.inl (.inl (.inr rfl))))).trans HRx0.out); have HLp := Lib.hid ((hFp _ (.inl (.inr rfl))).trans HLx0.out); have HCp := Lib.hid ((hFp _ (.inr rfl)).trans HCx0.out); have HBp : Hid (Below w.heap.size wo (w8.setCell ⟨w.heap.size + 1 + 1, 1, none⟩ (.slice (some ⟨gp, 0, none⟩) (adk.length + 1) capp))) := HBx0.out.trans (hBp.mono (show w.heap.size ≤ w.heap.size + 1 + 1 by omega)); have x1p : (w8.setCell ⟨w.heap.size + 1 + 1, 1, none⟩ (.slice (some ⟨gp, 0, none⟩) (adk.length + 1) capp)).cell? ⟨wo.heap.size, 1, none⟩ = some (.slice a2 nv c2v) := cell_of HVp.out rfl; have x2p : (w8.setCell ⟨w.heap.size + 1 + 1, 1, none⟩ (.slice (some ⟨gp, 0, none⟩) (adk.length + 1) capp)).cell? ⟨wo.heap.size, 2, none⟩ = some (.int .i64 xlo) := cell_of HVp.out rfl; have x3p : (w8.setCell ⟨w.heap.size + 1 + 1, 1, none⟩ (.slice (some ⟨gp, 0, none⟩) (adk.length + 1) capp)).cell? ⟨wo.heap.size, 3, none⟩ = some (.int .i64 xhi) := cell_of HVp.out rfl; have y0p : (w8.setCell ⟨w.heap.size + 1 + 1, 1, none⟩ (.slice (some ⟨gp, 0, none⟩) (adk.length + 1) capp)).cell? ⟨w7.heap.size, 0, none⟩ = some (.int .i64 mlo) := cell_of HCp.out rfl; have y1p : (w8.setCell ⟨w.heap.size + 1 + 1, 1, none⟩ (.slice (some ⟨gp, 0, none⟩) (adk.length + 1) capp)).cell? ⟨w7.heap.size, 1, none⟩ = some (.int .i64 mhi) := cell_of HCp.out rfl; obtain ⟨dAp, dBp, dCp, dDp⟩ := box_two HSp.out.d)
        have HSdq := Lib.hid (HSp.out.below (Below.refl _ _).drew)
        have hLdq := heap_drew HLp.out
        have hVdq := heap_drew HVp.out
        have hPdq := heap_drew HPp.out
        have hRdq := heap_drew HRp.out
        have hCdq := heap_drew HCp.out
        have hdZq := cell_drew dBp
        have hBzq := HBp.out
        have hszq : w.heap.size + 1 + 1 + 1 ≤ (w8.setCell ⟨w.heap.size + 1 + 1, 1, none⟩ (.slice (some ⟨gp, 0, none⟩) (adk.length + 1) capp)).heap.size := HSp.out.gdlt
        have hgv : w.heap.size + 1 + 1 < wo.heap.size := hgd
        have hBgd : w.heap.size ≤ w.heap.size + 1 + 1 := by omega
        have hgc : w.heap.size + 1 + 1 < w7.heap.size := hgcl
        refine wp_region_noPanic ?_
        refine wp_region_held_drew (S := (fun W => Below w.heap.size wo W ∧ w.heap.size + 1 + 1 + 1 ≤ W.heap.size ∧ W.cell? ⟨wo.heap.size, 1, none⟩ = some (.slice a2 nv c2v) ∧ W.cell? ⟨w7.heap.size, 0, none⟩ = some (.int .i64 mlo) ∧ W.cell? ⟨w7.heap.size, 1, none⟩ = some (.int .i64 mhi))) (by kernel_rfl) ?_ (fun hHeld => ?_)
        · (go_split_ands; refine ⟨?_, ?_, ?_, ?_, ?_⟩ <;> first | (with_reducible assumption) | with_reducible exact Below.drew (by assumption) | with_reducible exact size_drewA (by assumption) | with_reducible exact cell_drew (by assumption) | with_reducible exact below_tr3 (by assumption) (by assumption) (by assumption) | with_reducible exact size_keepR (by assumption) (by assumption) | with_reducible exact cell_keep (by assumption) (by assumption) | with_reducible exact below_allocR (n := w.heap.size + 1 + 1) (by assumption) (by assumption) (by assumption) | with_reducible exact size_allocR (by assumption) | with_reducible exact cell_alloc (by assumption) | with_reducible exact below_setD (by assumption) (by assumption) | with_reducible exact size_setR (by assumption) | with_reducible exact cell_setD (by assumption) (by assumption))
        refine take_y (i := 0) (d := some 68) (v := ?_) rfl rfl (by kernel_rfl) (by kernel_rfl) (by kernel_rfl) (fun _ _ _ h => h) (by assumption) ?_ ?_
        rotate_left
        · intro oi ho
          simp only [List.getElem?_toArray, List.getElem?_cons_zero, Option.some.injEq] at ho
          subst ho
          intro w hSw
          (try dsimp only at hSw)
          go_simp
          (try with_reducible rfl)
        (try simp only [Act.put, List.setIfInBounds_toArray, List.set_cons_zero, List.set_cons_succ])
        refine take_y (i := 2) (d := some 70) (v := ?_) rfl rfl (by kernel_rfl) (by kernel_rfl) (by kernel_rfl) (fun _ _ _ h => h) (by assumption) ?_ ?_
        rotate_left
        · intro oi ho
          simp only [List.getElem?_toArray, List.getElem?_cons_succ, List.getElem?_cons_zero, Option.some.injEq] at ho
          subst ho
          intro w hSw
          (try dsimp only at hSw)
          go_simp
          (try with_reducible rfl)
        (try simp only [Act.put, List.setIfInBounds_toArray, List.set_cons_zero, List.set_cons_succ])
        refine take_y (i := 3) (d := some 71) (v := ?_) rfl rfl (by kernel_rfl) (by kernel_rfl) (by kernel_rfl) (fun _ _ _ h => h) (by assumption) ?_ ?_
        rotate_left
        · intro oi ho
          simp only [List.getElem?_toArray, List.getElem?_cons_succ, List.getElem?_cons_zero, Option.some.injEq] at ho
          subst ho
          intro w hSw
          (try dsimp only at hSw)
          go_simp
          (try with_reducible rfl)
        (try simp only [Act.put, List.setIfInBounds_toArray, List.set_cons_zero, List.set_cons_succ])
        refine take_y (i := 4) (d := some 72) (v := ?_) rfl rfl (by kernel_rfl) (by kernel_rfl) (by kernel_rfl) (fun _ _ _ h => h) (by assumption) ?_ ?_
        rotate_left
        · intro oi ho
          simp only [List.getElem?_toArray, List.getElem?_cons_succ, List.getElem?_cons_zero, Option.some.injEq] at ho
          subst ho
          intro w hSw
          (try dsimp only at hSw)
          go_simp
          (try with_reducible rfl)
        (try simp only [Act.put, List.setIfInBounds_toArray, List.set_cons_zero, List.set_cons_succ])
        refine take_y (i := 5) (d := some 73) (v := ?_) rfl rfl (by kernel_rfl) (by kernel_rfl) (by kernel_rfl) (fun _ _ _ h => h) (by assumption) ?_ ?_
        rotate_left
        · intro oi ho
          simp only [List.getElem?_toArray, List.getElem?_cons_succ, List.getElem?_cons_zero, Option.some.injEq] at ho
          subst ho
          intro w hSw
          (try dsimp only at hSw)
          go_simp
          (try with_reducible rfl)
        (try simp only [Act.put, List.setIfInBounds_toArray, List.set_cons_zero, List.set_cons_succ])
        refine take_y (i := 7) (d := some 75) (v := ?_) rfl rfl (by kernel_rfl) (by kernel_rfl) (by kernel_rfl) (fun _ _ _ h => h) (by assumption) ?_ ?_
        rotate_left
        · intro oi ho
          simp only [List.getElem?_toArray, List.getElem?_cons_succ, List.getElem?_cons_zero, Option.some.injEq] at ho
          subst ho
          intro w hSw
          (try dsimp only at hSw)
          go_simp
          (try with_reducible rfl)
        (try simp only [Act.put, List.setIfInBounds_toArray, List.set_cons_zero, List.set_cons_succ])
        refine take_y (i := 8) (d := some 76) (v := ?_) rfl rfl (by kernel_rfl) (by kernel_rfl) (by kernel_rfl) (fun _ _ _ h => h) (by assumption) ?_ ?_
        rotate_left
        · intro oi ho
          simp only [List.getElem?_toArray, List.getElem?_cons_succ, List.getElem?_cons_zero, Option.some.injEq] at ho
          subst ho
          intro w hSw
          (try dsimp only at hSw)
          go_simp
          (try with_reducible rfl)
        (try simp only [Act.put, List.setIfInBounds_toArray, List.set_cons_zero, List.set_cons_succ])
        refine wpAnyH_ready (rs := [1, 6]) (by kernel_rfl) (by simp) ?_
        refine AllReadyH.cons rfl (fun K hK => ?_) (AllReadyH.cons rfl (fun K hK => ?_) AllReadyH.nil)
        · go_simp
          refine hK.out _ _ ?_ (fun hHeld => ?_)
          · (try dsimp only)
            (go_split_ands; refine ⟨?_, ?_, ?_, ?_, ?_⟩ <;> first | (with_reducible assumption) | with_reducible exact Below.drew (by assumption) | with_reducible exact size_drewA (by assumption) | with_reducible exact cell_drew (by assumption) | with_reducible exact below_tr3 (by assumption) (by assumption) (by assumption) | with_reducible exact size_keepR (by assumption) (by assumption) | with_reducible exact cell_keep (by assumption) (by assumption) | with_reducible exact below_allocR (n := w.heap.size + 1 + 1) (by assumption) (by assumption) (by assumption) | with_reducible exact size_allocR (by assumption) | with_reducible exact cell_alloc (by assumption) | with_reducible exact below_setD (by assumption) (by assumption) | with_reducible exact size_setR (by assumption) | with_reducible exact cell_setD (by assumption) (by assumption))
          clear hK K
          (try simp only [Act.put, List.setIfInBounds_toArray, List.set_cons_zero, List.set_cons_succ])
          refine wpAnyH_ready (rs := [6]) (by kernel_rfl) (by simp) ?_
          refine AllReadyH.cons rfl (fun K hK => ?_) AllReadyH.nil
          go_simp
          (go_at_call 89; refine (HASG _ (hBzq.drew)).out.mono ?_; rintro e' wCq ⟨vCq, rfl, hOCq, hbCq⟩; obtain ⟨aCq, cCq, rfl⟩ := hOCq.shape; have HSCq := Lib.hid (HSdq.out.below hbCq); have hLCq := box_kept hLdq hbCq; have hVCq := box_kept hVdq hbCq; have hPCq := box_kept hPdq hbCq; have hRCq := box_kept hRdq hbCq; have hCCq := box_kept hCdq hbCq; have hBCq : Below w.heap.size wo wCq := below_tr3 hzo hBzq.drew hbCq; have HISq := Lib.hid (HSCq.out.elem (lo := mlo) (hi := mhi) (HSdq.out.newv hOCq) hLCq (.inl (.inr rfl)) hgl); have hdCq : wCq.cell? ⟨w.heap.size + 1 + 1, 1, none⟩ = some (.slice (some ⟨gp, 0, none⟩) (adk.length + 1) capp) := cell_of HSCq.out.d rfl; have hdAq := cell_alloc (o := .cells #[.slice aCq (asgV e set xvals).length cCq, .int .i64 mlo, .int .i64 mhi, .slice (some ⟨w5.heap.size, 0, none⟩) 1 1] 67) hdCq)
          refine hK.out _ _ ?_ (fun hHeld => ?_)
          · (try dsimp only)
            (go_split_ands; refine ⟨?_, ?_, ?_, ?_, ?_⟩ <;> first | (with_reducible assumption) | with_reducible exact Below.drew (by assumption) | with_reducible exact size_drewA (by assumption) | with_reducible exact cell_drew (by assumption) | with_reducible exact below_tr3 (by assumption) (by assumption) (by assumption) | with_reducible exact size_keepR (by assumption) (by assumption) | with_reducible exact cell_keep (by assumption) (by assumption) | with_reducible exact below_allocR (n := w.heap.size + 1 + 1) (by assumption) (by assumption) (by assumption) | with_reducible exact size_allocR (by assumption) | with_reducible exact cell_alloc (by assumption) | with_reducible exact below_setD (by assumption) (by assumption) | with_reducible exact size_setR (by assumption) | with_reducible exact cell_setD (by assumption) (by assumption))
          clear hK K
          (try simp only [Act.put, List.setIfInBounds_toArray, List.set_cons_zero, List.set_cons_succ])
          refine take_y (i := 9) (d := some 77) (v := ?_) rfl rfl (by kernel_rfl) (by kernel_rfl) (by kernel_rfl) (fun _ _ _ h => h) (by assumption) ?_ ?_
          rotate_left
          · intro oi ho
            simp only [List.getElem?_toArray, List.getElem?_cons_succ, List.getElem?_cons_zero, Option.some.injEq] at ho
            subst ho
            intro w hSw
            (try dsimp only at hSw)
            go_simp
            (try with_reducible rfl)
          (try simp only [Act.put, List.setIfInBounds_toArray, List.set_cons_zero, List.set_cons_succ])
          refine wpAnyH_ready (rs := [10]) (by kernel_rfl) (by simp) ?_
          refine AllReadyH.cons rfl (fun K hK => ?_) AllReadyH.nil
          go_simp
          refine hK.out _ _ ?_ (fun hHeld => ?_)
          · (try dsimp only)
            (go_split_ands; refine ⟨?_, ?_, ?_, ?_, ?_⟩ <;> first | (with_reducible assumption) | with_reducible exact Below.drew (by assumption) | with_reducible exact size_drewA (by assumption) | with_reducible exact cell_drew (by assumption) | with_reducible exact below_tr3 (by assumption) (by assumption) (by assumption) | with_reducible exact size_keepR (by assumption) (by assumption) | with_reducible exact cell_keep (by assumption) (by assumption) | with_reducible exact below_allocR (n := w.heap.size + 1 + 1) (by assumption) (by assumption) (by assumption) | with_reducible exact size_allocR (by assumption) | with_reducible exact cell_alloc (by assumption) | with_reducible exact below_setD (by assumption) (by assumption) | with_reducible exact size_setR (by assumption) | with_reducible exact cell_setD (by assumption) (by assumption))
          clear hK K
          (try simp only [Act.put, List.setIfInBounds_toArray, List.set_cons_zero, List.set_cons_succ])
          refine wpAnyH_ready (rs := [11]) (by kernel_rfl) (by simp) ?_
          refine AllReadyH.cons rfl (fun K hK => ?_) AllReadyH.nil
          (refine step_push rfl (.tmp 69) (.tmp 78) 22 rfl (tupE.avoid fun k => (m ≤ k ∧ k ≤ w.heap.size + 1 + 1) ∨ some k = (Value.slice (some ⟨g, 0, none⟩) (clk.length + 1) cap).ownBlock) Try.underlying22 (w.heap.size + 1 + 1 + 1) (.slice (some ⟨gp, 0, none⟩) (adk.length + 1) capp) (adk ++ [(⟨xvals, xlo, mlo, [xid]⟩ : Tup)]) rfl HSCq.out.ad [(⟨asgV e set xvals, mlo, mhi, [xid]⟩ : Tup)] #[.slice aCq (asgV e set xvals).length cCq, .int .i64 mlo, .int .i64 mhi, .slice (some ⟨w5.heap.size, 0, none⟩) 1 1] HISq.out 1 1 rfl rfl (by decide) (by unfold maxLen; (try simp); omega) (by show _ * 64 ≤ _; (try simp); omega) HSCq.out.gdlt ?_; intro gq capq w9 hPq hPaq; have hneq : some (w.heap.size + 1 + 1) ≠ Value.ownBlock (.slice (some ⟨gp, 0, none⟩) (adk.length + 1) capp) := (fun e => by have := (HSCq.out.ad.lt _ e.symm).1; omega); have hddq := hPq.block hneq HSCq.out.d; obtain ⟨j0q, j1q, j2q, j3q⟩ := box_two hddq; have qbq : Below w.heap.size wo w9 := hBCq.trans (hPq.below.mono (by omega)); have qsq : w.heap.size + 1 + 1 + 1 ≤ w9.heap.size := Nat.le_trans HSCq.out.gdlt hPq.below.size; have r1q : w9.cell? ⟨wo.heap.size, 1, none⟩ = some (.slice a2 nv c2v) := cell_of (hPq.block (fun e => (HSCq.out.bx _ (.inl (.inl (.inr rfl)))).2.2.1 e.symm) hVCq) rfl; have r4q : w9.cell? ⟨w7.heap.size, 0, none⟩ = some (.int .i64 mlo) := cell_of (hPq.block (fun e => (HSCq.out.bx _ (.inr rfl)).2.2.1 e.symm) hCCq) rfl; have r5q : w9.cell? ⟨w7.heap.size, 1, none⟩ = some (.int .i64 mhi) := cell_of (hPq.block (fun e => (HSCq.out.bx _ (.inr rfl)).2.2.1 e.symm) hCCq) rfl)
          refine hK.out _ _ ?_ (fun hHeld => ?_)
          · (try dsimp only)
            (go_split_ands; refine ⟨?_, ?_, ?_, ?_, ?_⟩ <;> first | (with_reducible assumption) | with_reducible exact Below.drew (by assumption) | with_reducible exact size_drewA (by assumption) | with_reducible exact cell_drew (by assumption) | with_reducible exact below_tr3 (by assumption) (by assumption) (by assumption) | with_reducible exact size_keepR (by assumption) (by assumption) | with_reducible exact cell_keep (by assumption) (by assumption) | with_reducible exact below_allocR (n := w.heap.size + 1 + 1) (by assumption) (by assumption) (by assumption) | with_reducible exact size_allocR (by assumption) | with_reducible exact cell_alloc (by assumption) | with_reducible exact below_setD (by assumption) (by assumption) | with_reducible exact size_setR (by assumption) | with_reducible exact cell_setD (by assumption) (by assumption))
          clear hK K
          (try simp only [Act.put, List.setIfInBounds_toArray])
          refine take_y (i := 12) (d := some 80) (v := ?_) rfl rfl (by kernel_rfl) (by kernel_rfl) (by kernel_rfl) (fun _ _ _ h => h) (by assumption) ?_ ?_
          rotate_left
          · intro oi ho
            simp only [List.getElem?_toArray, List.getElem?_cons_succ, List.getElem?_cons_zero, Option.some.injEq] at ho
            subst ho
            intro w hSw
            (try dsimp only at hSw)
            go_simp
            (try with_reducible rfl)
          (try simp only [Act.put])
          refine wpAnyH_ready (rs := [13]) (by kernel_rfl) (by simp) ?_
          refine AllReadyH.cons rfl (fun K hK => ?_) AllReadyH.nil
          go_simp
          refine hK.out _ _ ?_ (fun hHeld => ?_)
          · (try dsimp only)
            (go_split_ands; refine ⟨?_, ?_, ?_, ?_, ?_⟩ <;> first | (with_reducible assumption) | with_reducible exact Below.drew (by assumption) | with_reducible exact size_drewA (by assumption) | with_reducible exact cell_drew (by assumption) | with_reducible exact below_tr3 (by assumption) (by assumption) (by assumption) | with_reducible exact size_keepR (by assumption) (by assumption) | with_reducible exact cell_keep (by assumption) (by assumption) | with_reducible exact below_allocR (n := w.heap.size + 1 + 1) (by assumption) (by assumption) (by assumption) | with_reducible exact size_allocR (by assumption) | with_reducible exact cell_alloc (by assumption) | with_reducible exact below_setD (by assumption) (by assumption) | with_reducible exact size_setR (by assumption) | with_reducible exact cell_setD (by assumption) (by assumption))
          clear hK K
          (try simp only [Act.put, List.setIfInBounds_toArray, List.set_cons_zero, List.set_cons_succ])
          refine wpAnyH_done (by kernel_rfl) ?_ _
          refine NoPanic.normal ?_
          (try dsimp only)
          obtain ⟨hSq, hFq, hBq⟩ := HSCq.out.pushed (Below.refl _ _) hPq (show ((adk ++ [(⟨xvals, xlo, mlo, [xid]⟩ : Tup)]) ++ [(⟨asgV e set xvals, mlo, mhi, [xid]⟩ : Tup)]).length = adk.length + 1 + 1 by simp)
          have HSq := Lib.hid hSq
          have HVq := Lib.hid ((hFq _ (.inl (.inl (.inr rfl)))).trans hVCq)
          have HPq := Lib.hid ((hFq _ (.inl (.inl (.inl (.inl rfl))))).trans hPCq)
          have HRq := Lib.hid ((hFq _ (.inl (.inl (.inl (.inr rfl))))).trans hRCq)
          have HLq := Lib.hid ((hFq _ (.inl (.inr rfl))).trans hLCq)
          have HCq := Lib.hid ((hFq _ (.inr rfl)).trans hCCq)
          have HBq : Hid (Below w.heap.size wo (w9.setCell ⟨w.heap.size + 1 + 1, 1, none⟩ (.slice (some ⟨gq, 0, none⟩) (adk.length + 1 + 1) capq))) := hBCq.trans (hBq.mono (show w.heap.size ≤ w.heap.size + 1 + 1 by omega))
          have x1q : (w9.setCell ⟨w.heap.size + 1 + 1, 1, none⟩ (.slice (some ⟨gq, 0, none⟩) (adk.length + 1 + 1) capq)).cell? ⟨wo.heap.size, 1, none⟩ = some (.slice a2 nv c2v) := cell_of HVq.out rfl
          have x2q : (w9.setCell ⟨w.heap.size + 1 + 1, 1, none⟩ (.slice (some ⟨gq, 0, none⟩) (adk.length + 1 + 1) capq)).cell? ⟨wo.heap.size, 2, none⟩ = some (.int .i64 xlo) := cell_of HVq.out rfl
          have x3q : (w9.setCell ⟨w.heap.size + 1 + 1, 1, none⟩ (.slice (some ⟨gq, 0, none⟩) (adk.length + 1 + 1) capq)).cell? ⟨wo.heap.size, 3, none⟩ = some (.int .i64 xhi) := cell_of HVq.out rfl
          have y0q : (w9.setCell ⟨w.heap.size + 1 + 1, 1, none⟩ (.slice (some ⟨gq, 0, none⟩) (adk.length + 1 + 1) capq)).cell? ⟨w7.heap.size, 0, none⟩ = some (.int .i64 mlo) := cell_of HCq.out rfl
          have y1q : (w9.setCell ⟨w.heap.size + 1 + 1, 1, none⟩ (.slice (some ⟨gq, 0, none⟩) (adk.length + 1 + 1) capq)).cell? ⟨w7.heap.size, 1, none⟩ = some (.int .i64 mhi) := cell_of HCq.out rfl
          obtain ⟨dAq, dBq, dCq, dDq⟩ := box_two HSq.out.d
          by_cases hc2 : mhi < xhi
          · have HPV : Hid (partsV plo phi chg ⟨xid, xvals, xlo, xhi, xrlo, xrhi⟩ = ([(⟨xvals, xlo, mlo, [xid]⟩ : Tup), (⟨asgV e set xvals, mlo, mhi, [xid]⟩ : Tup), (⟨xvals, mhi, xhi, [xid]⟩ : Tup)] : List Tup)) := by show _ = _; rw [HCHG.out]; unfold partsV partL partM partR; dsimp only; rw [← HMLO.out, ← HMHI.out]; simp [hc1, hc2, HMID]
            go_wp2_with (at_builtin; refine wpList_push rfl (.tmp 88) (.tmp 99) 22 rfl (tupE.avoid fun k => (m ≤ k ∧ k ≤ w.heap.size + 1 + 1) ∨ some k = (Value.slice (some ⟨g, 0, none⟩) (clk.length + 1) cap).ownBlock) Try.underlying22 (w.heap.size + 1 + 1 + 1) (.slice (some ⟨gq, 0, none⟩) (adk.length + 1 + 1) capq) ((adk ++ [(⟨xvals, xlo, mlo, [xid]⟩ : Tup)]) ++ [(⟨asgV e set xvals, mlo, mhi, [xid]⟩ : Tup)]) rfl HSq.out.ad [(⟨xvals, mhi, xhi, [xid]⟩ : Tup)] #[.slice a2 nv c2v, .int .i64 mhi, .int .i64 xhi, .slice (some ⟨w5.heap.size, 0, none⟩) 1 1] (HSq.out.elem (HSq.out.oldv (HOLD _ HBq.out)) HLq.out (.inl (.inr rfl)) hgl) 1 1 rfl (show Value.slice (some ⟨w9.heap.size, 0, none⟩) 1 1 = .slice (some ⟨(w9.setCell ⟨w.heap.size + 1 + 1, 1, none⟩ (.slice (some ⟨gq, 0, none⟩) (adk.length + 1 + 1) capq)).heap.size, 0, none⟩) 1 1 by simp [World.setCell]) (by decide) (by unfold maxLen; (try simp); omega) (by show _ * 64 ≤ _; (try simp); omega) HSq.out.gdlt ?_; intro gr capr w10 hPr hPar; obtain ⟨j0r, j1r, j2r, j3r⟩ := box_two (hPr.block (fun e => by have := (HSq.out.ad.lt _ e.symm).1; omega) HSq.out.d); obtain ⟨hSr, hFr, hBr⟩ := HSq.out.pushed (Below.refl _ _) hPr (show (((adk ++ [(⟨xvals, xlo, mlo, [xid]⟩ : Tup)]) ++ [(⟨asgV e set xvals, mlo, mhi, [xid]⟩ : Tup)]) ++ [(⟨xvals, mhi, xhi, [xid]⟩ : Tup)]).length = adk.length + 1 + 1 + 1 by simp); have HSr := Lib.hid hSr; have HVr := Lib.hid ((hFr _ (.inl (.inl (.inr rfl)))).trans HVq.out); have HPr := Lib.hid ((hFr _ (.inl (.inl (.inl (.inl rfl))))).trans HPq.out); have HRr := Lib.hid ((hFr _ (.inl (.inl (.inl (.inr rfl))))).trans HRq.out); have HLr := Lib.hid ((hFr _ (.inl (.inr rfl))).trans HLq.out); have HCr := Lib.hid ((hFr _ (.inr rfl)).trans HCq.out); have HBr : Hid (Below w.heap.size wo (w10.setCell ⟨w.heap.size + 1 + 1, 1, none⟩ (.slice (some ⟨gr, 0, none⟩) (adk.length + 1 + 1 + 1) capr))) := HBq.out.trans (hBr.mono (show w.heap.size ≤ w.heap.size + 1 + 1 by omega)); have x1r : (w10.setCell ⟨w.heap.size + 1 + 1, 1, none⟩ (.slice (some ⟨gr, 0, none⟩) (adk.length + 1 + 1 + 1) capr)).cell? ⟨wo.heap.size, 1, none⟩ = some (.slice a2 nv c2v) := cell_of HVr.out rfl; have x2r : (w10.setCell ⟨w.heap.size + 1 + 1, 1, none⟩ (.slice (some ⟨gr, 0, none⟩) (adk.length + 1 + 1 + 1) capr)).cell? ⟨wo.heap.size, 2, none⟩ = some (.int .i64 xlo) := cell_of HVr.out rfl; have x3r : (w10.setCell ⟨w.heap.size + 1 + 1, 1, none⟩ (.slice (some ⟨gr, 0, none⟩) (adk.length + 1 + 1 + 1) capr)).cell? ⟨wo.heap.size, 3, none⟩ = some (.int .i64 xhi) := cell_of HVr.out rfl; have y0r : (w10.setCell ⟨w.heap.size + 1 + 1, 1, none⟩ (.slice (some ⟨gr, 0, none⟩) (adk.length + 1 + 1 + 1) capr)).cell? ⟨w7.heap.size, 0, none⟩ = some (.int .i64 mlo) := cell_of HCr.out rfl; have y1r : (w10.setCell ⟨w.heap.size + 1 + 1, 1, none⟩ (.slice (some ⟨gr, 0, none⟩) (adk.length + 1 + 1 + 1) capr)).cell? ⟨w7.heap.size, 1, none⟩ = some (.int .i64 mhi) := cell_of HCr.out rfl; obtain ⟨dAr, dBr, dCr, dDr⟩ := box_two HSr.out.d)
            go_roundw
            case rel =>
              refine ⟨k + 1, .slice (some ⟨g, 0, none⟩) (clk.length + 1) cap, (.slice (some ⟨gr, 0, none⟩) (adk.length + 1 + 1 + 1) capr), by omega, by go_num, ?_, HPr.out, HRr.out, HB.out.trans HBr.out⟩
              have h := (HSr.out).mono (F' := fun k => k = w.heap.size ∨ k = w.heap.size + 1) (fun k hk => .inl (.inl (.inl hk)))
              rw [show (aff.take (k + 1)).map Ver.id = clk ++ [xid] by rw [take_get HX.out, List.map_append, HCLK.out]; rfl, show (aff.take (k + 1)).flatMap (partsV plo phi chg) = (((adk ++ [(⟨xvals, xlo, mlo, [xid]⟩ : Tup)]) ++ [(⟨asgV e set xvals, mlo, mhi, [xid]⟩ : Tup)]) ++ [(⟨xvals, mhi, xhi, [xid]⟩ : Tup)]) by rw [take_get HX.out, List.flatMap_append, List.flatMap_cons, List.flatMap_nil, List.append_nil, ← HADK.out, HPV.out]; (try simp only [List.append_assoc, List.nil_append, List.cons_append])]
              exact h
            case measure => simp [intOf]; omega
          · have HPV : Hid (partsV plo phi chg ⟨xid, xvals, xlo, xhi, xrlo, xrhi⟩ = ([(⟨xvals, xlo, mlo, [xid]⟩ : Tup), (⟨asgV e set xvals, mlo, mhi, [xid]⟩ : Tup)] : List Tup)) := by show _ = _; rw [HCHG.out]; unfold partsV partL partM partR; dsimp only; rw [← HMLO.out, ← HMHI.out]; simp [hc1, hc2, HMID]
            go_wp2_with fail
            go_roundw
            case rel =>
              refine ⟨k + 1, .slice (some ⟨g, 0, none⟩) (clk.length + 1) cap, (.slice (some ⟨gq, 0, none⟩) (adk.length + 1 + 1) capq), by omega, by go_num, ?_, HPq.out, HRq.out, HB.out.trans HBq.out⟩
              have h := (HSq.out).mono (F' := fun k => k = w.heap.size ∨ k = w.heap.size + 1) (fun k hk => .inl (.inl (.inl hk)))
              rw [show (aff.take (k + 1)).map Ver.id = clk ++ [xid] by rw [take_get HX.out, List.map_append, HCLK.out]; rfl, show (aff.take (k + 1)).flatMap (partsV plo phi chg) = ((adk ++ [(⟨xvals, xlo, mlo, [xid]⟩ : Tup)]) ++ [(⟨asgV e set xvals, mlo, mhi, [xid]⟩ : Tup)]) by rw [take_get HX.out, List.flatMap_append, List.flatMap_cons, List.flatMap_nil, List.append_nil, ← HADK.out, HPV.out]; (try simp only [List.append_assoc, List.nil_append, List.cons_append])]
              exact h
            case measure => simp [intOf]; omega
        · go_simp
          (go_at_call 89; refine (HASG _ (hBzq.drew)).out.mono ?_; rintro e' wCq ⟨vCq, rfl, hOCq, hbCq⟩; obtain ⟨aCq, cCq, rfl⟩ := hOCq.shape; have HSCq := Lib.hid (HSdq.out.below hbCq); have hLCq := box_kept hLdq hbCq; have hVCq := box_kept hVdq hbCq; have hPCq := box_kept hPdq hbCq; have hRCq := box_kept hRdq hbCq; have hCCq := box_kept hCdq hbCq; have hBCq : Below w.heap.size wo wCq := below_tr3 hzo hBzq.drew hbCq; have HISq := Lib.hid (HSCq.out.elem (lo := mlo) (hi := mhi) (HSdq.out.newv hOCq) hLCq (.inl (.inr rfl)) hgl); have hdCq : wCq.cell? ⟨w.heap.size + 1 + 1, 1, none⟩ = some (.slice (some ⟨gp, 0, none⟩) (adk.length + 1) capp) := cell_of HSCq.out.d rfl; have hdAq := cell_alloc (o := .cells #[.slice aCq (asgV e set xvals).length cCq, .int .i64 mlo, .int .i64 mhi, .slice (some ⟨w5.heap.size, 0, none⟩) 1 1] 67) hdCq)
          refine hK.out _ _ ?_ (fun hHeld => ?_)
          · (try dsimp only)
            (go_split_ands; refine ⟨?_, ?_, ?_, ?_, ?_⟩ <;> first | (with_reducible assumption) | with_reducible exact Below.drew (by assumption) | with_reducible exact size_drewA (by assumption) | with_reducible exact cell_drew (by assumption) | with_reducible exact below_tr3 (by assumption) (by assumption) (by assumption) | with_reducible exact size_keepR (by assumption) (by assumption) | with_reducible exact cell_keep (by assumption) (by assumption) | with_reducible exact below_allocR (n := w.heap.size + 1 + 1) (by assumption) (by assumption) (by assumption) | with_reducible exact size_allocR (by assumption) | with_reducible exact cell_alloc (by assumption) | with_reducible exact below_setD (by assumption) (by assumption) | with_reducible exact size_setR (by assumption) | with_reducible exact cell_setD (by assumption) (by assumption))
          clear hK K
          (try simp only [Act.put, List.setIfInBounds_toArray, List.set_cons_zero, List.set_cons_succ])
          refine take_y (i := 9) (d := some 77) (v := ?_) rfl rfl (by kernel_rfl) (by kernel_rfl) (by kernel_rfl) (fun _ _ _ h => h) (by assumption) ?_ ?_
          rotate_left
          · intro oi ho
            simp only [List.getElem?_toArray, List.getElem?_cons_succ, List.getElem?_cons_zero, Option.some.injEq] at ho
            subst ho
            intro w hSw
            (try dsimp only at hSw)
            go_simp
            (try with_reducible rfl)
          (try simp only [Act.put, List.setIfInBounds_toArray, List.set_cons_zero, List.set_cons_succ])
          refine wpAnyH_ready (rs := [1, 10]) (by kernel_rfl) (by simp) ?_
          refine AllReadyH.cons rfl (fun K hK => ?_) (AllReadyH.cons rfl (fun K hK => ?_) AllReadyH.nil)
          · go_simp
            refine hK.out _ _ ?_ (fun hHeld => ?_)
            · (try dsimp only)
              (go_split_ands; refine ⟨?_, ?_, ?_, ?_, ?_⟩ <;> first | (with_reducible assumption) | with_reducible exact Below.drew (by assumption) | with_reducible exact size_drewA (by assumption) | with_reducible exact cell_drew (by assumption) | with_reducible exact below_tr3 (by assumption) (by assumption) (by assumption) | with_reducible exact size_keepR (by assumption) (by assumption) | with_reducible exact cell_keep (by assumption) (by assumption) | with_reducible exact below_allocR (n := w.heap.size + 1 + 1) (by assumption) (by assumption) (by assumption) | with_reducible exact size_allocR (by assumption) | with_reducible exact cell_alloc (by assumption) | with_reducible exact below_setD (by assumption) (by assumption) | with_reducible exact size_setR (by assumption) | with_reducible exact cell_setD (by assumption) (by assumption))
            clear hK K
            (try simp only [Act.put, List.setIfInBounds_toArray, List.set_cons_zero, List.set_cons_succ])
            refine wpAnyH_ready (rs := [10]) (by kernel_rfl) (by simp) ?_
            refine AllReadyH.cons rfl (fun K hK => ?_) AllReadyH.nil
            go_simp
            refine hK.out _ _ ?_ (fun hHeld => ?_)
            · (try dsimp only)
              (go_split_ands; refine ⟨?_, ?_, ?_, ?_, ?_⟩ <;> first | (with_reducible assumption) | with_reducible exact Below.drew (by assumption) | with_reducible exact size_drewA (by assumption) | with_reducible exact cell_drew (by assumption) | with_reducible exact below_tr3 (by assumption) (by assumption) (by assumption) | with_reducible exact size_keepR (by assumption) (by assumption) | with_reducible exact cell_keep (by assumption) (by assumption) | with_reducible exact below_allocR (n := w.heap.size + 1 + 1) (by assumption) (by assumption) (by assumption) | with_reducible exact size_allocR (by assumption) | with_reducible exact cell_alloc (by assumption) | with_reducible exact below_setD (by assumption) (by assumption) | with_reducible exact size_setR (by assumption) | with_reducible exact cell_setD (by assumption) (by assumption))
            clear hK K
            (try simp only [Act.put, List.setIfInBounds_toArray, List.set_cons_zero, List.set_cons_succ])
            refine wpAnyH_ready (rs := [11]) (by kernel_rfl) (by simp) ?_
            refine AllReadyH.cons rfl (fun K hK => ?_) AllReadyH.nil
            (refine step_push rfl (.tmp 69) (.tmp 78) 22 rfl (tupE.avoid fun k => (m ≤ k ∧ k ≤ w.heap.size + 1 + 1) ∨ some k = (Value.slice (some ⟨g, 0, none⟩) (clk.length + 1) cap).ownBlock) Try.underlying22 (w.heap.size + 1 + 1 + 1) (.slice (some ⟨gp, 0, none⟩) (adk.length + 1) capp) (adk ++ [(⟨xvals, xlo, mlo, [xid]⟩ : Tup)]) rfl HSCq.out.ad [(⟨asgV e set xvals, mlo, mhi, [xid]⟩ : Tup)] #[.slice aCq (asgV e set xvals).length cCq, .int .i64 mlo, .int .i64 mhi, .slice (some ⟨w5.heap.size, 0, none⟩) 1 1] HISq.out 1 1 rfl rfl (by decide) (by unfold maxLen; (try simp); omega) (by show _ * 64 ≤ _; (try simp); omega) HSCq.out.gdlt ?_; intro gq capq w9 hPq hPaq; have hneq : some (w.heap.size + 1 + 1) ≠ Value.ownBlock (.slice (some ⟨gp, 0, none⟩) (adk.length + 1) capp) := (fun e => by have := (HSCq.out.ad.lt _ e.symm).1; omega); have hddq := hPq.block hneq HSCq.out.d; obtain ⟨j0q, j1q, j2q, j3q⟩ := box_two hddq; have qbq : Below w.heap.size wo w9 := hBCq.trans (hPq.below.mono (by omega)); have qsq : w.heap.size + 1 + 1 + 1 ≤ w9.heap.size := Nat.le_trans HSCq.out.gdlt hPq.below.size; have r1q : w9.cell? ⟨wo.heap.size, 1, none⟩ = some (.slice a2 nv c2v) := cell_of (hPq.block (fun e => (HSCq.out.bx _ (.inl (.inl (.inr rfl)))).2.2.1 e.symm) hVCq) rfl; have r4q : w9.cell? ⟨w7.heap.size, 0, none⟩ = some (.int .i64 mlo) := cell_of (hPq.block (fun e => (HSCq.out.bx _ (.inr rfl)).2.2.1 e.symm) hCCq) rfl; have r5q : w9.cell? ⟨w7.heap.size, 1, none⟩ = some (.int .i64 mhi) := cell_of (hPq.block (fun e => (HSCq.out.bx _ (.inr rfl)).2.2.1 e.symm) hCCq) rfl)
            refine hK.out _ _ ?_ (fun hHeld => ?_)
            · (try dsimp only)
              (go_split_ands; refine ⟨?_, ?_, ?_, ?_, ?_⟩ <;> first | (with_reducible assumption) | with_reducible exact Below.drew (by assumption) | with_reducible exact size_drewA (by assumption) | with_reducible exact cell_drew (by assumption) | with_reducible exact below_tr3 (by assumption) (by assumption) (by assumption) | with_reducible exact size_keepR (by assumption) (by assumption) | with_reducible exact cell_keep (by assumption) (by assumption) | with_reducible exact below_allocR (n := w.heap.size + 1 + 1) (by assumption) (by assumption) (by assumption) | with_reducible exact size_allocR (by assumption) | with_reducible exact cell_alloc (by assumption) | with_reducible exact below_setD (by assumption) (by assumption) | with_reducible exact size_setR (by assumption) | with_reducible exact cell_setD (by assumption) (by assumption))
            clear hK K
            (try simp only [Act.put, List.setIfInBounds_toArray])
            refine take_y (i := 12) (d := some 80) (v := ?_) rfl rfl (by kernel_rfl) (by kernel_rfl) (by kernel_rfl) (fun _ _ _ h => h) (by assumption) ?_ ?_
            rotate_left
            · intro oi ho
              simp only [List.getElem?_toArray, List.getElem?_cons_succ, List.getElem?_cons_zero, Option.some.injEq] at ho
              subst ho
              intro w hSw
              (try dsimp only at hSw)
              go_simp
              (try with_reducible rfl)
            (try simp only [Act.put])
            refine wpAnyH_ready (rs := [13]) (by kernel_rfl) (by simp) ?_
            refine AllReadyH.cons rfl (fun K hK => ?_) AllReadyH.nil
            go_simp
            refine hK.out _ _ ?_ (fun hHeld => ?_)
            · (try dsimp only)
              (go_split_ands; refine ⟨?_, ?_, ?_, ?_, ?_⟩ <;> first | (with_reducible assumption) | with_reducible exact Below.drew (by assumption) | with_reducible exact size_drewA (by assumption) | with_reducible exact cell_drew (by assumption) | with_reducible exact below_tr3 (by assumption) (by assumption) (by assumption) | with_reducible exact size_keepR (by assumption) (by assumption) | with_reducible exact cell_keep (by assumption) (by assumption) | with_reducible exact below_allocR (n := w.heap.size + 1 + 1) (by assumption) (by assumption) (by assumption) | with_reducible exact size_allocR (by assumption) | with_reducible exact cell_alloc (by assumption) | with_reducible exact below_setD (by assumption) (by assumption) | with_reducible exact size_setR (by assumption) | with_reducible exact cell_setD (by assumption) (by assumption))
            clear hK K
            (try simp only [Act.put, List.setIfInBounds_toArray, List.set_cons_zero, List.set_cons_succ])
            refine wpAnyH_done (by kernel_rfl) ?_ _
            refine NoPanic.normal ?_
            (try dsimp only)
            obtain ⟨hSq, hFq, hBq⟩ := HSCq.out.pushed (Below.refl _ _) hPq (show ((adk ++ [(⟨xvals, xlo, mlo, [xid]⟩ : Tup)]) ++ [(⟨asgV e set xvals, mlo, mhi, [xid]⟩ : Tup)]).length = adk.length + 1 + 1 by simp)
            have HSq := Lib.hid hSq
            have HVq := Lib.hid ((hFq _ (.inl (.inl (.inr rfl)))).trans hVCq)
            have HPq := Lib.hid ((hFq _ (.inl (.inl (.inl (.inl rfl))))).trans hPCq)
            have HRq := Lib.hid ((hFq _ (.inl (.inl (.inl (.inr rfl))))).trans hRCq)
            have HLq := Lib.hid ((hFq _ (.inl (.inr rfl))).trans hLCq)
            have HCq := Lib.hid ((hFq _ (.inr rfl)).trans hCCq)
            have HBq : Hid (Below w.heap.size wo (w9.setCell ⟨w.heap.size + 1 + 1, 1, none⟩ (.slice (some ⟨gq, 0, none⟩) (adk.length + 1 + 1) capq))) := hBCq.trans (hBq.mono (show w.heap.size ≤ w.heap.size + 1 + 1 by omega))
            have x1q : (w9.setCell ⟨w.heap.size + 1 + 1, 1, none⟩ (.slice (some ⟨gq, 0, none⟩) (adk.length + 1 + 1) capq)).cell? ⟨wo.heap.size, 1, none⟩ = some (.slice a2 nv c2v) := cell_of HVq.out rfl
            have x2q : (w9.setCell ⟨w.heap.size + 1 + 1, 1, none⟩ (.slice (some ⟨gq, 0, none⟩) (adk.length + 1 + 1) capq)).cell? ⟨wo.heap.size, 2, none⟩ = some (.int .i64 xlo) := cell_of HVq.out rfl
            have x3q : (w9.setCell ⟨w.heap.size + 1 + 1, 1, none⟩ (.slice (some ⟨gq, 0, none⟩) (adk.length + 1 + 1) capq)).cell? ⟨wo.heap.size, 3, none⟩ = some (.int .i64 xhi) := cell_of HVq.out rfl
            have y0q : (w9.setCell ⟨w.heap.size + 1 + 1, 1, none⟩ (.slice (some ⟨gq, 0, none⟩) (adk.length + 1 + 1) capq)).cell? ⟨w7.heap.size, 0, none⟩ = some (.int .i64 mlo) := cell_of HCq.out rfl
            have y1q : (w9.setCell ⟨w.heap.size + 1 + 1, 1, none⟩ (.slice (some ⟨gq, 0, none⟩) (adk.length + 1 + 1) capq)).cell? ⟨w7.heap.size, 1, none⟩ = some (.int .i64 mhi) := cell_of HCq.out rfl
            obtain ⟨dAq, dBq, dCq, dDq⟩ := box_two HSq.out.d
            by_cases hc2 : mhi < xhi
            · have HPV : Hid (partsV plo phi chg ⟨xid, xvals, xlo, xhi, xrlo, xrhi⟩ = ([(⟨xvals, xlo, mlo, [xid]⟩ : Tup), (⟨asgV e set xvals, mlo, mhi, [xid]⟩ : Tup), (⟨xvals, mhi, xhi, [xid]⟩ : Tup)] : List Tup)) := by show _ = _; rw [HCHG.out]; unfold partsV partL partM partR; dsimp only; rw [← HMLO.out, ← HMHI.out]; simp [hc1, hc2, HMID]
              go_wp2_with (at_builtin; refine wpList_push rfl (.tmp 88) (.tmp 99) 22 rfl (tupE.avoid fun k => (m ≤ k ∧ k ≤ w.heap.size + 1 + 1) ∨ some k = (Value.slice (some ⟨g, 0, none⟩) (clk.length + 1) cap).ownBlock) Try.underlying22 (w.heap.size + 1 + 1 + 1) (.slice (some ⟨gq, 0, none⟩) (adk.length + 1 + 1) capq) ((adk ++ [(⟨xvals, xlo, mlo, [xid]⟩ : Tup)]) ++ [(⟨asgV e set xvals, mlo, mhi, [xid]⟩ : Tup)]) rfl HSq.out.ad [(⟨xvals, mhi, xhi, [xid]⟩ : Tup)] #[.slice a2 nv c2v, .int .i64 mhi, .int .i64 xhi, .slice (some ⟨w5.heap.size, 0, none⟩) 1 1] (HSq.out.elem (HSq.out.oldv (HOLD _ HBq.out)) HLq.out (.inl (.inr rfl)) hgl) 1 1 rfl (show Value.slice (some ⟨w9.heap.size, 0, none⟩) 1 1 = .slice (some ⟨(w9.setCell ⟨w.heap.size + 1 + 1, 1, none⟩ (.slice (some ⟨gq, 0, none⟩) (adk.length + 1 + 1) capq)).heap.size, 0, none⟩) 1 1 by simp [World.setCell]) (by decide) (by unfold maxLen; (try simp); omega) (by show _ * 64 ≤ _; (try simp); omega) HSq.out.gdlt ?_; intro gr capr w10 hPr hPar; obtain ⟨j0r, j1r, j2r, j3r⟩ := box_two (hPr.block (fun e => by have := (HSq.out.ad.lt _ e.symm).1; omega) HSq.out.d); obtain ⟨hSr, hFr, hBr⟩ := HSq.out.pushed (Below.refl _ _) hPr (show (((adk ++ [(⟨xvals, xlo, mlo, [xid]⟩ : Tup)]) ++ [(⟨asgV e set xvals, mlo, mhi, [xid]⟩ : Tup)]) ++ [(⟨xvals, mhi, xhi, [xid]⟩ : Tup)]).length = adk.length + 1 + 1 + 1 by simp); have HSr := Lib.hid hSr; have HVr := Lib.hid ((hFr _ (.inl (.inl (.inr rfl)))).trans HVq.out); have HPr := Lib.hid ((hFr _ (.inl (.inl (.inl (.inl rfl))))).trans HPq.out); have HRr := Lib.hid ((hFr _ (.inl (.inl (.inl (.inr rfl))))).trans HRq.out); have HLr := Lib.hid ((hFr _ (.inl (.inr rfl))).trans HLq.out); have HCr := Lib.hid ((hFr _ (.inr rfl)).trans HCq.out); have HBr : Hid (Below w.heap.size wo (w10.setCell ⟨w.heap.size + 1 + 1, 1, none⟩ (.slice (some ⟨gr, 0, none⟩) (adk.length + 1 + 1 + 1) capr))) := HBq.out.trans (hBr.mono (show w.heap.size ≤ w.heap.size + 1 + 1 by omega)); have x1r : (w10.setCell ⟨w.heap.size + 1 + 1, 1, none⟩ (.slice (some ⟨gr, 0, none⟩) (adk.length + 1 + 1 + 1) capr)).cell? ⟨wo.heap.size, 1, none⟩ = some (.slice a2 nv c2v) := cell_of HVr.out rfl; have x2r : (w10.setCell ⟨w.heap.size + 1 + 1, 1, none⟩ (.slice (some ⟨gr, 0, none⟩) (adk.length + 1 + 1 + 1) capr)).cell? ⟨wo.heap.size, 2, none⟩ = some (.int .i64 xlo) := cell_of HVr.out rfl; have x3r : (w10.setCell ⟨w.heap.size + 1 + 1, 1, none⟩ (.slice (some ⟨gr, 0, none⟩) (adk.length + 1 + 1 + 1) capr)).cell? ⟨wo.heap.size, 3, none⟩ = some (.int .i64 xhi) := cell_of HVr.out rfl; have y0r : (w10.setCell ⟨w.heap.size + 1 + 1, 1, none⟩ (.slice (some ⟨gr, 0, none⟩) (adk.length + 1 + 1 + 1) capr)).cell? ⟨w7.heap.size, 0, none⟩ = some (.int .i64 mlo) := cell_of HCr.out rfl; have y1r : (w10.setCell ⟨w.heap.size + 1 + 1, 1, none⟩ (.slice (some ⟨gr, 0, none⟩) (adk.length + 1 + 1 + 1) capr)).cell? ⟨w7.heap.size, 1, none⟩ = some (.int .i64 mhi) := cell_of HCr.out rfl; obtain ⟨dAr, dBr, dCr, dDr⟩ := box_two HSr.out.d)
              go_roundw
              case rel =>
                refine ⟨k + 1, .slice (some ⟨g, 0, none⟩) (clk.length + 1) cap, (.slice (some ⟨gr, 0, none⟩) (adk.length + 1 + 1 + 1) capr), by omega, by go_num, ?_, HPr.out, HRr.out, HB.out.trans HBr.out⟩
                have h := (HSr.out).mono (F' := fun k => k = w.heap.size ∨ k = w.heap.size + 1) (fun k hk => .inl (.inl (.inl hk)))
                rw [show (aff.take (k + 1)).map Ver.id = clk ++ [xid] by rw [take_get HX.out, List.map_append, HCLK.out]; rfl, show (aff.take (k + 1)).flatMap (partsV plo phi chg) = (((adk ++ [(⟨xvals, xlo, mlo, [xid]⟩ : Tup)]) ++ [(⟨asgV e set xvals, mlo, mhi, [xid]⟩ : Tup)]) ++ [(⟨xvals, mhi, xhi, [xid]⟩ : Tup)]) by rw [take_get HX.out, List.flatMap_append, List.flatMap_cons, List.flatMap_nil, List.append_nil, ← HADK.out, HPV.out]; (try simp only [List.append_assoc, List.nil_append, List.cons_append])]
                exact h
              case measure => simp [intOf]; omega
            · have HPV : Hid (partsV plo phi chg ⟨xid, xvals, xlo, xhi, xrlo, xrhi⟩ = ([(⟨xvals, xlo, mlo, [xid]⟩ : Tup), (⟨asgV e set xvals, mlo, mhi, [xid]⟩ : Tup)] : List Tup)) := by show _ = _; rw [HCHG.out]; unfold partsV partL partM partR; dsimp only; rw [← HMLO.out, ← HMHI.out]; simp [hc1, hc2, HMID]
              go_wp2_with fail
              go_roundw
              case rel =>
                refine ⟨k + 1, .slice (some ⟨g, 0, none⟩) (clk.length + 1) cap, (.slice (some ⟨gq, 0, none⟩) (adk.length + 1 + 1) capq), by omega, by go_num, ?_, HPq.out, HRq.out, HB.out.trans HBq.out⟩
                have h := (HSq.out).mono (F' := fun k => k = w.heap.size ∨ k = w.heap.size + 1) (fun k hk => .inl (.inl (.inl hk)))
                rw [show (aff.take (k + 1)).map Ver.id = clk ++ [xid] by rw [take_get HX.out, List.map_append, HCLK.out]; rfl, show (aff.take (k + 1)).flatMap (partsV plo phi chg) = ((adk ++ [(⟨xvals, xlo, mlo, [xid]⟩ : Tup)]) ++ [(⟨asgV e set xvals, mlo, mhi, [xid]⟩ : Tup)]) by rw [take_get HX.out, List.flatMap_append, List.flatMap_cons, List.flatMap_nil, List.append_nil, ← HADK.out, HPV.out]; (try simp only [List.append_assoc, List.nil_append, List.cons_append])]
                exact h
              case measure => simp [intOf]; omega
          · go_simp
            refine hK.out _ _ ?_ (fun hHeld => ?_)
            · (try dsimp only)
              (go_split_ands; refine ⟨?_, ?_, ?_, ?_, ?_⟩ <;> first | (with_reducible assumption) | with_reducible exact Below.drew (by assumption) | with_reducible exact size_drewA (by assumption) | with_reducible exact cell_drew (by assumption) | with_reducible exact below_tr3 (by assumption) (by assumption) (by assumption) | with_reducible exact size_keepR (by assumption) (by assumption) | with_reducible exact cell_keep (by assumption) (by assumption) | with_reducible exact below_allocR (n := w.heap.size + 1 + 1) (by assumption) (by assumption) (by assumption) | with_reducible exact size_allocR (by assumption) | with_reducible exact cell_alloc (by assumption) | with_reducible exact below_setD (by assumption) (by assumption) | with_reducible exact size_setR (by assumption) | with_reducible exact cell_setD (by assumption) (by assumption))
            clear hK K
            (try simp only [Act.put, List.setIfInBounds_toArray, List.set_cons_zero, List.set_cons_succ])
            refine wpAnyH_ready (rs := [1]) (by kernel_rfl) (by simp) ?_
            refine AllReadyH.cons rfl (fun K hK => ?_) AllReadyH.nil
            go_simp
            refine hK.out _ _ ?_ (fun hHeld => ?_)
            · (try dsimp only)
              (go_split_ands; refine ⟨?_, ?_, ?_, ?_, ?_⟩ <;> first | (with_reducible assumption) | with_reducible exact Below.drew (by assumption) | with_reducible exact size_drewA (by assumption) | with_reducible exact cell_drew (by assumption) | with_reducible exact below_tr3 (by assumption) (by assumption) (by assumption) | with_reducible exact size_keepR (by assumption) (by assumption) | with_reducible exact cell_keep (by assumption) (by assumption) | with_reducible exact below_allocR (n := w.heap.size + 1 + 1) (by assumption) (by assumption) (by assumption) | with_reducible exact size_allocR (by assumption) | with_reducible exact cell_alloc (by assumption) | with_reducible exact below_setD (by assumption) (by assumption) | with_reducible exact size_setR (by assumption) | with_reducible exact cell_setD (by assumption) (by assumption))
            clear hK K
            (try simp only [Act.put, List.setIfInBounds_toArray, List.set_cons_zero, List.set_cons_succ])
            refine wpAnyH_ready (rs := [11]) (by kernel_rfl) (by simp) ?_
            refine AllReadyH.cons rfl (fun K hK => ?_) AllReadyH.nil
            (refine step_push rfl (.tmp 69) (.tmp 78) 22 rfl (tupE.avoid fun k => (m ≤ k ∧ k ≤ w.heap.size + 1 + 1) ∨ some k = (Value.slice (some ⟨g, 0, none⟩) (clk.length + 1) cap).ownBlock) Try.underlying22 (w.heap.size + 1 + 1 + 1) (.slice (some ⟨gp, 0, none⟩) (adk.length + 1) capp) (adk ++ [(⟨xvals, xlo, mlo, [xid]⟩ : Tup)]) rfl HSCq.out.ad [(⟨asgV e set xvals, mlo, mhi, [xid]⟩ : Tup)] #[.slice aCq (asgV e set xvals).length cCq, .int .i64 mlo, .int .i64 mhi, .slice (some ⟨w5.heap.size, 0, none⟩) 1 1] HISq.out 1 1 rfl rfl (by decide) (by unfold maxLen; (try simp); omega) (by show _ * 64 ≤ _; (try simp); omega) HSCq.out.gdlt ?_; intro gq capq w9 hPq hPaq; have hneq : some (w.heap.size + 1 + 1) ≠ Value.ownBlock (.slice (some ⟨gp, 0, none⟩) (adk.length + 1) capp) := (fun e => by have := (HSCq.out.ad.lt _ e.symm).1; omega); have hddq := hPq.block hneq HSCq.out.d; obtain ⟨j0q, j1q, j2q, j3q⟩ := box_two hddq; have qbq : Below w.heap.size wo w9 := hBCq.trans (hPq.below.mono (by omega)); have qsq : w.heap.size + 1 + 1 + 1 ≤ w9.heap.size := Nat.le_trans HSCq.out.gdlt hPq.below.size; have r1q : w9.cell? ⟨wo.heap.size, 1, none⟩ = some (.slice a2 nv c2v) := cell_of (hPq.block (fun e => (HSCq.out.bx _ (.inl (.inl (.inr rfl)))).2.2.1 e.symm) hVCq) rfl; have r4q : w9.cell? ⟨w7.heap.size, 0, none⟩ = some (.int .i64 mlo) := cell_of (hPq.block (fun e => (HSCq.out.bx _ (.inr rfl)).2.2.1 e.symm) hCCq) rfl; have r5q : w9.cell? ⟨w7.heap.size, 1, none⟩ = some (.int .i64 mhi) := cell_of (hPq.block (fun e => (HSCq.out.bx _ (.inr rfl)).2.2.1 e.symm) hCCq) rfl)
            refine hK.out _ _ ?_ (fun hHeld => ?_)
            · (try dsimp only)
              (go_split_ands; refine ⟨?_, ?_, ?_, ?_, ?_⟩ <;> first | (with_reducible assumption) | with_reducible exact Below.drew (by assumption) | with_reducible exact size_drewA (by assumption) | with_reducible exact cell_drew (by assumption) | with_reducible exact below_tr3 (by assumption) (by assumption) (by assumption) | with_reducible exact size_keepR (by assumption) (by assumption) | with_reducible exact cell_keep (by assumption) (by assumption) | with_reducible exact below_allocR (n := w.heap.size + 1 + 1) (by assumption) (by assumption) (by assumption) | with_reducible exact size_allocR (by assumption) | with_reducible exact cell_alloc (by assumption) | with_reducible exact below_setD (by assumption) (by assumption) | with_reducible exact size_setR (by assumption) | with_reducible exact cell_setD (by assumption) (by assumption))
            clear hK K
            (try simp only [Act.put, List.setIfInBounds_toArray])
            refine take_y (i := 12) (d := some 80) (v := ?_) rfl rfl (by kernel_rfl) (by kernel_rfl) (by kernel_rfl) (fun _ _ _ h => h) (by assumption) ?_ ?_
            rotate_left
            · intro oi ho
              simp only [List.getElem?_toArray, List.getElem?_cons_succ, List.getElem?_cons_zero, Option.some.injEq] at ho
              subst ho
              intro w hSw
              (try dsimp only at hSw)
              go_simp
              (try with_reducible rfl)
            (try simp only [Act.put])
            refine wpAnyH_ready (rs := [13]) (by kernel_rfl) (by simp) ?_
            refine AllReadyH.cons rfl (fun K hK => ?_) AllReadyH.nil
            go_simp
            refine hK.out _ _ ?_ (fun hHeld => ?_)
            · (try dsimp only)
              (go_split_ands; refine ⟨?_, ?_, ?_, ?_, ?_⟩ <;> first | (with_reducible assumption) | with_reducible exact Below.drew (by assumption) | with_reducible exact size_drewA (by assumption) | with_reducible exact cell_drew (by assumption) | with_reducible exact below_tr3 (by assumption) (by assumption) (by assumption) | with_reducible exact size_keepR (by assumption) (by assumption) | with_reducible exact cell_keep (by assumption) (by assumption) | with_reducible exact below_allocR (n := w.heap.size + 1 + 1) (by assumption) (by assumption) (by assumption) | with_reducible exact size_allocR (by assumption) | with_reducible exact cell_alloc (by assumption) | with_reducible exact below_setD (by assumption) (by assumption) | with_reducible exact size_setR (by assumption) | with_reducible exact cell_setD (by assumption) (by assumption))
            clear hK K
            (try simp only [Act.put, List.setIfInBounds_toArray, List.set_cons_zero, List.set_cons_succ])
            refine wpAnyH_done (by kernel_rfl) ?_ _
            refine NoPanic.normal ?_
            (try dsimp only)
            obtain ⟨hSq, hFq, hBq⟩ := HSCq.out.pushed (Below.refl _ _) hPq (show ((adk ++ [(⟨xvals, xlo, mlo, [xid]⟩ : Tup)]) ++ [(⟨asgV e set xvals, mlo, mhi, [xid]⟩ : Tup)]).length = adk.length + 1 + 1 by simp)
            have HSq := Lib.hid hSq
            have HVq := Lib.hid ((hFq _ (.inl (.inl (.inr rfl)))).trans hVCq)
            have HPq := Lib.hid ((hFq _ (.inl (.inl (.inl (.inl rfl))))).trans hPCq)
            have HRq := Lib.hid ((hFq _ (.inl (.inl (.inl (.inr rfl))))).trans hRCq)
            have HLq := Lib.hid ((hFq _ (.inl (.inr rfl))).trans hLCq)
            have HCq := Lib.hid ((hFq _ (.inr rfl)).trans hCCq)
            have HBq : Hid (Below w.heap.size wo (w9.setCell ⟨w.heap.size + 1 + 1, 1, none⟩ (.slice (some ⟨gq, 0, none⟩) (adk.length + 1 + 1) capq))) := hBCq.trans (hBq.mono (show w.heap.size ≤ w.heap.size + 1 + 1 by omega))
            have x1q : (w9.setCell ⟨w.heap.size + 1 + 1, 1, none⟩ (.slice (some ⟨gq, 0, none⟩) (adk.length + 1 + 1) capq)).cell? ⟨wo.heap.size, 1, none⟩ = some (.slice a2 nv c2v) := cell_of HVq.out rfl
            have x2q : (w9.setCell ⟨w.heap.size + 1 + 1, 1, none⟩ (.slice (some ⟨gq, 0, none⟩) (adk.length + 1 + 1) capq)).cell? ⟨wo.heap.size, 2, none⟩ = some (.int .i64 xlo) := cell_of HVq.out rfl
            have x3q : (w9.setCell ⟨w.heap.size + 1 + 1, 1, none⟩ (.slice (some ⟨gq, 0, none⟩) (adk.length + 1 + 1) capq)).cell? ⟨wo.heap.size, 3, none⟩ = some (.int .i64 xhi) := cell_of HVq.out rfl
            have y0q : (w9.setCell ⟨w.heap.size + 1 + 1, 1, none⟩ (.slice (some ⟨gq, 0, none⟩) (adk.length + 1 + 1) capq)).cell? ⟨w7.heap.size, 0, none⟩ = some (.int .i64 mlo) := cell_of HCq.out rfl
            have y1q : (w9.setCell ⟨w.heap.size + 1 + 1, 1, none⟩ (.slice (some ⟨gq, 0, none⟩) (adk.length + 1 + 1) capq)).cell? ⟨w7.heap.size, 1, none⟩ = some (.int .i64 mhi) := cell_of HCq.out rfl
            obtain ⟨dAq, dBq, dCq, dDq⟩ := box_two HSq.out.d
            by_cases hc2 : mhi < xhi
            · have HPV : Hid (partsV plo phi chg ⟨xid, xvals, xlo, xhi, xrlo, xrhi⟩ = ([(⟨xvals, xlo, mlo, [xid]⟩ : Tup), (⟨asgV e set xvals, mlo, mhi, [xid]⟩ : Tup), (⟨xvals, mhi, xhi, [xid]⟩ : Tup)] : List Tup)) := by show _ = _; rw [HCHG.out]; unfold partsV partL partM partR; dsimp only; rw [← HMLO.out, ← HMHI.out]; simp [hc1, hc2, HMID]
              go_wp2_with (at_builtin; refine wpList_push rfl (.tmp 88) (.tmp 99) 22 rfl (tupE.avoid fun k => (m ≤ k ∧ k ≤ w.heap.size + 1 + 1) ∨ some k = (Value.slice (some ⟨g, 0, none⟩) (clk.length + 1) cap).ownBlock) Try.underlying22 (w.heap.size + 1 + 1 + 1) (.slice (some ⟨gq, 0, none⟩) (adk.length + 1 + 1) capq) ((adk ++ [(⟨xvals, xlo, mlo, [xid]⟩ : Tup)]) ++ [(⟨asgV e set xvals, mlo, mhi, [xid]⟩ : Tup)]) rfl HSq.out.ad [(⟨xvals, mhi, xhi, [xid]⟩ : Tup)] #[.slice a2 nv c2v, .int .i64 mhi, .int .i64 xhi, .slice (some ⟨w5.heap.size, 0, none⟩) 1 1] (HSq.out.elem (HSq.out.oldv (HOLD _ HBq.out)) HLq.out (.inl (.inr rfl)) hgl) 1 1 rfl (show Value.slice (some ⟨w9.heap.size, 0, none⟩) 1 1 = .slice (some ⟨(w9.setCell ⟨w.heap.size + 1 + 1, 1, none⟩ (.slice (some ⟨gq, 0, none⟩) (adk.length + 1 + 1) capq)).heap.size, 0, none⟩) 1 1 by simp [World.setCell]) (by decide) (by unfold maxLen; (try simp); omega) (by show _ * 64 ≤ _; (try simp); omega) HSq.out.gdlt ?_; intro gr capr w10 hPr hPar; obtain ⟨j0r, j1r, j2r, j3r⟩ := box_two (hPr.block (fun e => by have := (HSq.out.ad.lt _ e.symm).1; omega) HSq.out.d); obtain ⟨hSr, hFr, hBr⟩ := HSq.out.pushed (Below.refl _ _) hPr (show (((adk ++ [(⟨xvals, xlo, mlo, [xid]⟩ : Tup)]) ++ [(⟨asgV e set xvals, mlo, mhi, [xid]⟩ : Tup)]) ++ [(⟨xvals, mhi, xhi, [xid]⟩ : Tup)]).length = adk.length + 1 + 1 + 1 by simp); have HSr := Lib.hid hSr; have HVr := Lib.hid ((hFr _ (.inl (.inl (.inr rfl)))).trans HVq.out); have HPr := Lib.hid ((hFr _ (.inl (.inl (.inl (.inl rfl))))).trans HPq.out); have HRr := Lib.hid ((hFr _ (.inl (.inl (.inl (.inr rfl))))).trans HRq.out); have HLr := Lib.hid ((hFr _ (.inl (.inr rfl))).trans HLq.out); have HCr := Lib.hid ((hFr _ (.inr rfl)).trans HCq.out); have HBr : Hid (Below w.heap.size wo (w10.setCell ⟨w.heap.size + 1 + 1, 1, none⟩ (.slice (some ⟨gr, 0, none⟩) (adk.length + 1 + 1 + 1) capr))) := HBq.out.trans (hBr.mono (show w.heap.size ≤ w.heap.size + 1 + 1 by omega)); have x1r : (w10.setCell ⟨w.heap.size + 1 + 1, 1, none⟩ (.slice (some ⟨gr, 0, none⟩) (adk.length + 1 + 1 + 1) capr)).cell? ⟨wo.heap.size, 1, none⟩ = some (.slice a2 nv c2v) := cell_of HVr.out rfl; have x2r : (w10.setCell ⟨w.heap.size + 1 + 1, 1, none⟩ (.slice (some ⟨gr, 0, none⟩) (adk.length + 1 + 1 + 1) capr)).cell? ⟨wo.heap.size, 2, none⟩ = some (.int .i64 xlo) := cell_of HVr.out rfl; have x3r : (w10.setCell ⟨w.heap.size + 1 + 1, 1, none⟩ (.slice (some ⟨gr, 0, none⟩) (adk.length + 1 + 1 + 1) capr)).cell? ⟨wo.heap.size, 3, none⟩ = some (.int .i64 xhi) := cell_of HVr.out rfl; have y0r : (w10.setCell ⟨w.heap.size + 1 + 1, 1, none⟩ (.slice (some ⟨gr, 0, none⟩) (adk.length + 1 + 1 + 1) capr)).cell? ⟨w7.heap.size, 0, none⟩ = some (.int .i64 mlo) := cell_of HCr.out rfl; have y1r : (w10.setCell ⟨w.heap.size + 1 + 1, 1, none⟩ (.slice (some ⟨gr, 0, none⟩) (adk.length + 1 + 1 + 1) capr)).cell? ⟨w7.heap.size, 1, none⟩ = some (.int .i64 mhi) := cell_of HCr.out rfl; obtain ⟨dAr, dBr, dCr, dDr⟩ := box_two HSr.out.d)
              go_roundw
              case rel =>
                refine ⟨k + 1, .slice (some ⟨g, 0, none⟩) (clk.length + 1) cap, (.slice (some ⟨gr, 0, none⟩) (adk.length + 1 + 1 + 1) capr), by omega, by go_num, ?_, HPr.out, HRr.out, HB.out.trans HBr.out⟩
                have h := (HSr.out).mono (F' := fun k => k = w.heap.size ∨ k = w.heap.size + 1) (fun k hk => .inl (.inl (.inl hk)))
                rw [show (aff.take (k + 1)).map Ver.id = clk ++ [xid] by rw [take_get HX.out, List.map_append, HCLK.out]; rfl, show (aff.take (k + 1)).flatMap (partsV plo phi chg) = (((adk ++ [(⟨xvals, xlo, mlo, [xid]⟩ : Tup)]) ++ [(⟨asgV e set xvals, mlo, mhi, [xid]⟩ : Tup)]) ++ [(⟨xvals, mhi, xhi, [xid]⟩ : Tup)]) by rw [take_get HX.out, List.flatMap_append, List.flatMap_cons, List.flatMap_nil, List.append_nil, ← HADK.out, HPV.out]; (try simp only [List.append_assoc, List.nil_append, List.cons_append])]
                exact h
              case measure => simp [intOf]; omega
            · have HPV : Hid (partsV plo phi chg ⟨xid, xvals, xlo, xhi, xrlo, xrhi⟩ = ([(⟨xvals, xlo, mlo, [xid]⟩ : Tup), (⟨asgV e set xvals, mlo, mhi, [xid]⟩ : Tup)] : List Tup)) := by show _ = _; rw [HCHG.out]; unfold partsV partL partM partR; dsimp only; rw [← HMLO.out, ← HMHI.out]; simp [hc1, hc2, HMID]
              go_wp2_with fail
              go_roundw
              case rel =>
                refine ⟨k + 1, .slice (some ⟨g, 0, none⟩) (clk.length + 1) cap, (.slice (some ⟨gq, 0, none⟩) (adk.length + 1 + 1) capq), by omega, by go_num, ?_, HPq.out, HRq.out, HB.out.trans HBq.out⟩
                have h := (HSq.out).mono (F' := fun k => k = w.heap.size ∨ k = w.heap.size + 1) (fun k hk => .inl (.inl (.inl hk)))
                rw [show (aff.take (k + 1)).map Ver.id = clk ++ [xid] by rw [take_get HX.out, List.map_append, HCLK.out]; rfl, show (aff.take (k + 1)).flatMap (partsV plo phi chg) = ((adk ++ [(⟨xvals, xlo, mlo, [xid]⟩ : Tup)]) ++ [(⟨asgV e set xvals, mlo, mhi, [xid]⟩ : Tup)]) by rw [take_get HX.out, List.flatMap_append, List.flatMap_cons, List.flatMap_nil, List.append_nil, ← HADK.out, HPV.out]; (try simp only [List.append_assoc, List.nil_append, List.cons_append])]
                exact h
              case measure => simp [intOf]; omega
      · have x1x0 : (w7.alloc (.cells #[.int .i64 mlo, .int .i64 mhi] 31)).cell? ⟨wo.heap.size, 1, none⟩ = some (.slice a2 nv c2v) := cell_of HVx0.out rfl
        have x2x0 : (w7.alloc (.cells #[.int .i64 mlo, .int .i64 mhi] 31)).cell? ⟨wo.heap.size, 2, none⟩ = some (.int .i64 xlo) := cell_of HVx0.out rfl
        have x3x0 : (w7.alloc (.cells #[.int .i64 mlo, .int .i64 mhi] 31)).cell? ⟨wo.heap.size, 3, none⟩ = some (.int .i64 xhi) := cell_of HVx0.out rfl
        have y0x0 : (w7.alloc (.cells #[.int .i64 mlo, .int .i64 mhi] 31)).cell? ⟨w7.heap.size, 0, none⟩ = some (.int .i64 mlo) := cell_of HCx0.out rfl
        have y1x0 : (w7.alloc (.cells #[.int .i64 mlo, .int .i64 mhi] 31)).cell? ⟨w7.heap.size, 1, none⟩ = some (.int .i64 mhi) := cell_of HCx0.out rfl
        obtain ⟨dAx0, dBx0, dCx0, dDx0⟩ := box_two HSx0.out.d
        go_wp2_with fail
        have HSdq := Lib.hid (HSx0.out.below (Below.refl _ _).drew)
        have hLdq := heap_drew HLx0.out
        have hVdq := heap_drew HVx0.out
        have hPdq := heap_drew HPx0.out
        have hRdq := heap_drew HRx0.out
        have hCdq := heap_drew HCx0.out
        have hdZq := cell_drew dBx0
        have hBzq := HBx0.out
        have hszq : w.heap.size + 1 + 1 + 1 ≤ (w7.alloc (.cells #[.int .i64 mlo, .int .i64 mhi] 31)).heap.size := HSx0.out.gdlt
        have hgv : w.heap.size + 1 + 1 < wo.heap.size := hgd
        have hBgd : w.heap.size ≤ w.heap.size + 1 + 1 := by omega
        have hgc : w.heap.size + 1 + 1 < w7.heap.size := hgcl
        refine wp_region_noPanic ?_
        refine wp_region_held_drew (S := (fun W => Below w.heap.size wo W ∧ w.heap.size + 1 + 1 + 1 ≤ W.heap.size ∧ W.cell? ⟨wo.heap.size, 1, none⟩ = some (.slice a2 nv c2v) ∧ W.cell? ⟨w7.heap.size, 0, none⟩ = some (.int .i64 mlo) ∧ W.cell? ⟨w7.heap.size, 1, none⟩ = some (.int .i64 mhi))) (by kernel_rfl) ?_ (fun hHeld => ?_)
        · (go_split_ands; refine ⟨?_, ?_, ?_, ?_, ?_⟩ <;> first | (with_reducible assumption) | with_reducible exact Below.drew (by assumption) | with_reducible exact size_drewA (by assumption) | with_reducible exact cell_drew (by assumption) | with_reducible exact below_tr3 (by assumption) (by assumption) (by assumption) | with_reducible exact size_keepR (by assumption) (by assumption) | with_reducible exact cell_keep (by assumption) (by assumption) | with_reducible exact below_allocR (n := w.heap.size + 1 + 1) (by assumption) (by assumption) (by assumption) | with_reducible exact size_allocR (by assumption) | with_reducible exact cell_alloc (by assumption) | with_reducible exact below_setD (by assumption) (by assumption) | with_reducible exact size_setR (by assumption) | with_reducible exact cell_setD (by assumption) (by assumption))
        refine take_y (i := 0) (d := some 68) (v := ?_) rfl rfl (by kernel_rfl) (by kernel_rfl) (by kernel_rfl) (fun _ _ _ h => h) (by assumption) ?_ ?_
        rotate_left
        · intro oi ho
          simp only [List.getElem?_toArray, List.getElem?_cons_zero, Option.some.injEq] at ho
          subst ho
          intro w hSw
          (try dsimp only at hSw)
          go_simp
          (try with_reducible rfl)
        (try simp only [Act.put, List.setIfInBounds_toArray, List.set_cons_zero, List.set_cons_succ])
        refine take_y (i := 2) (d := some 70) (v := ?_) rfl rfl (by kernel_rfl) (by kernel_rfl) (by kernel_rfl) (fun _ _ _ h => h) (by assumption) ?_ ?_
        rotate_left
        · intro oi ho
          simp only [List.getElem?_toArray, List.getElem?_cons_succ, List.getElem?_cons_zero, Option.some.injEq] at ho
          subst ho
          intro w hSw
          (try dsimp only at hSw)
          go_simp
          (try with_reducible rfl)
        (try simp only [Act.put, List.setIfInBounds_toArray, List.set_cons_zero, List.set_cons_succ])
        refine take_y (i := 3) (d := some 71) (v := ?_) rfl rfl (by kernel_rfl) (by kernel_rfl) (by kernel_rfl) (fun _ _ _ h => h) (by assumption) ?_ ?_
        rotate_left
        · intro oi ho
          simp only [List.getElem?_toArray, List.getElem?_cons_succ, List.getElem?_cons_zero, Option.some.injEq] at ho
          subst ho
          intro w hSw
          (try dsimp only at hSw)
          go_simp
          (try with_reducible rfl)
        (try simp only [Act.put, List.setIfInBounds_toArray, List.set_cons_zero, List.set_cons_succ])
        refine take_y (i := 4) (d := some 72) (v := ?_) rfl rfl (by kernel_rfl) (by kernel_rfl) (by kernel_rfl) (fun _ _ _ h => h) (by assumption) ?_ ?_
        rotate_left
        · intro oi ho
          simp only [List.getElem?_toArray, List.getElem?_cons_succ, List.getElem?_cons_zero, Option.some.injEq] at ho
          subst ho
          intro w hSw
          (try dsimp only at hSw)
          go_simp
          (try with_reducible rfl)
        (try simp only [Act.put, List.setIfInBounds_toArray, List.set_cons_zero, List.set_cons_succ])
        refine take_y (i := 5) (d := some 73) (v := ?_) rfl rfl (by kernel_rfl) (by kernel_rfl) (by kernel_rfl) (fun _ _ _ h => h) (by assumption) ?_ ?_
        rotate_left
        · intro oi ho
          simp only [List.getElem?_toArray, List.getElem?_cons_succ, List.getElem?_cons_zero, Option.some.injEq] at ho
          subst ho
          intro w hSw
          (try dsimp only at hSw)
          go_simp
          (try with_reducible rfl)
        (try simp only [Act.put, List.setIfInBounds_toArray, List.set_cons_zero, List.set_cons_succ])
        refine take_y (i := 7) (d := some 75) (v := ?_) rfl rfl (by kernel_rfl) (by kernel_rfl) (by kernel_rfl) (fun _ _ _ h => h) (by assumption) ?_ ?_
        rotate_left
        · intro oi ho
          simp only [List.getElem?_toArray, List.getElem?_cons_succ, List.getElem?_cons_zero, Option.some.injEq] at ho
          subst ho
          intro w hSw
          (try dsimp only at hSw)
          go_simp
          (try with_reducible rfl)
        (try simp only [Act.put, List.setIfInBounds_toArray, List.set_cons_zero, List.set_cons_succ])
        refine take_y (i := 8) (d := some 76) (v := ?_) rfl rfl (by kernel_rfl) (by kernel_rfl) (by kernel_rfl) (fun _ _ _ h => h) (by assumption) ?_ ?_
        rotate_left
        · intro oi ho
          simp only [List.getElem?_toArray, List.getElem?_cons_succ, List.getElem?_cons_zero, Option.some.injEq] at ho
          subst ho
          intro w hSw
          (try dsimp only at hSw)
          go_simp
          (try with_reducible rfl)
        (try simp only [Act.put, List.setIfInBounds_toArray, List.set_cons_zero, List.set_cons_succ])
        refine wpAnyH_ready (rs := [1, 6]) (by kernel_rfl) (by simp) ?_
        refine AllReadyH.cons rfl (fun K hK => ?_) (AllReadyH.cons rfl (fun K hK => ?_) AllReadyH.nil)
        · go_simp
          refine hK.out _ _ ?_ (fun hHeld => ?_)
          · (try dsimp only)
            (go_split_ands; refine ⟨?_, ?_, ?_, ?_, ?_⟩ <;> first | (with_reducible assumption) | with_reducible exact Below.drew (by assumption) | with_reducible exact size_drewA (by assumption) | with_reducible exact cell_drew (by assumption) | with_reducible exact below_tr3 (by assumption) (by assumption) (by assumption) | with_reducible exact size_keepR (by assumption) (by assumption) | with_reducible exact cell_keep (by assumption) (by assumption) | with_reducible exact below_allocR (n := w.heap.size + 1 + 1) (by assumption) (by assumption) (by assumption) | with_reducible exact size_allocR (by assumption) | with_reducible exact cell_alloc (by assumption) | with_reducible exact below_setD (by assumption) (by assumption) | with_reducible exact size_setR (by assumption) | with_reducible exact cell_setD (by assumption) (by assumption))
          clear hK K
          (try simp only [Act.put, List.setIfInBounds_toArray, List.set_cons_zero, List.set_cons_succ])
          refine wpAnyH_ready (rs := [6]) (by kernel_rfl) (by simp) ?_
          refine AllReadyH.cons rfl (fun K hK => ?_) AllReadyH.nil
          go_simp
          (go_at_call 89; refine (HASG _ (hBzq.drew)).out.mono ?_; rintro e' wCq ⟨vCq, rfl, hOCq, hbCq⟩; obtain ⟨aCq, cCq, rfl⟩ := hOCq.shape; have HSCq := Lib.hid (HSdq.out.below hbCq); have hLCq := box_kept hLdq hbCq; have hVCq := box_kept hVdq hbCq; have hPCq := box_kept hPdq hbCq; have hRCq := box_kept hRdq hbCq; have hCCq := box_kept hCdq hbCq; have hBCq : Below w.heap.size wo wCq := below_tr3 hzo hBzq.drew hbCq; have HISq := Lib.hid (HSCq.out.elem (lo := mlo) (hi := mhi) (HSdq.out.newv hOCq) hLCq (.inl (.inr rfl)) hgl); have hdCq : wCq.cell? ⟨w.heap.size + 1 + 1, 1, none⟩ = some (.slice aa adk.length ca) := cell_of HSCq.out.d rfl; have hdAq := cell_alloc (o := .cells #[.slice aCq (asgV e set xvals).length cCq, .int .i64 mlo, .int .i64 mhi, .slice (some ⟨w5.heap.size, 0, none⟩) 1 1] 67) hdCq)
          refine hK.out _ _ ?_ (fun hHeld => ?_)
          · (try dsimp only)
            (go_split_ands; refine ⟨?_, ?_, ?_, ?_, ?_⟩ <;> first | (with_reducible assumption) | with_reducible exact Below.drew (by assumption) | with_reducible exact size_drewA (by assumption) | with_reducible exact cell_drew (by assumption) | with_reducible exact below_tr3 (by assumption) (by assumption) (by assumption) | with_reducible exact size_keepR (by assumption) (by assumption) | with_reducible exact cell_keep (by assumption) (by assumption) | with_reducible exact below_allocR (n := w.heap.size + 1 + 1) (by assumption) (by assumption) (by assumption) | with_reducible exact size_allocR (by assumption) | with_reducible exact cell_alloc (by assumption) | with_reducible exact below_setD (by assumption) (by assumption) | with_reducible exact size_setR (by assumption) | with_reducible exact cell_setD (by assumption) (by assumption))
          clear hK K
          (try simp only [Act.put, List.setIfInBounds_toArray, List.set_cons_zero, List.set_cons_succ])
          refine take_y (i := 9) (d := some 77) (v := ?_) rfl rfl (by kernel_rfl) (by kernel_rfl) (by kernel_rfl) (fun _ _ _ h => h) (by assumption) ?_ ?_
          rotate_left
          · intro oi ho
            simp only [List.getElem?_toArray, List.getElem?_cons_succ, List.getElem?_cons_zero, Option.some.injEq] at ho
            subst ho
            intro w hSw
            (try dsimp only at hSw)
            go_simp
            (try with_reducible rfl)
          (try simp only [Act.put, List.setIfInBounds_toArray, List.set_cons_zero, List.set_cons_succ])
          refine wpAnyH_ready (rs := [10]) (by kernel_rfl) (by simp) ?_
          refine AllReadyH.cons rfl (fun K hK => ?_) AllReadyH.nil
          go_simp
          refine hK.out _ _ ?_ (fun hHeld => ?_)
          · (try dsimp only)
            (go_split_ands; refine ⟨?_, ?_, ?_, ?_, ?_⟩ <;> first | (with_reducible assumption) | with_reducible exact Below.drew (by assumption) | with_reducible exact size_drewA (by assumption) | with_reducible exact cell_drew (by assumption) | with_reducible exact below_tr3 (by assumption) (by assumption) (by assumption) | with_reducible exact size_keepR (by assumption) (by assumption) | with_reducible exact cell_keep (by assumption) (by assumption) | with_reducible exact below_allocR (n := w.heap.size + 1 + 1) (by assumption) (by assumption) (by assumption) | with_reducible exact size_allocR (by assumption) | with_reducible exact cell_alloc (by assumption) | with_reducible exact below_setD (by assumption) (by assumption) | with_reducible exact size_setR (by assumption) | with_reducible exact cell_setD (by assumption) (by assumption))
          clear hK K
          (try simp only [Act.put, List.setIfInBounds_toArray, List.set_cons_zero, List.set_cons_succ])
          refine wpAnyH_ready (rs := [11]) (by kernel_rfl) (by simp) ?_
          refine AllReadyH.cons rfl (fun K hK => ?_) AllReadyH.nil
          (refine step_push rfl (.tmp 69) (.tmp 78) 22 rfl (tupE.avoid fun k => (m ≤ k ∧ k ≤ w.heap.size + 1 + 1) ∨ some k = (Value.slice (some ⟨g, 0, none⟩) (clk.length + 1) cap).ownBlock) Try.underlying22 (w.heap.size + 1 + 1 + 1) (.slice aa adk.length ca) adk rfl HSCq.out.ad [(⟨asgV e set xvals, mlo, mhi, [xid]⟩ : Tup)] #[.slice aCq (asgV e set xvals).length cCq, .int .i64 mlo, .int .i64 mhi, .slice (some ⟨w5.heap.size, 0, none⟩) 1 1] HISq.out 1 1 rfl rfl (by decide) (by unfold maxLen; (try simp); omega) (by show _ * 64 ≤ _; (try simp); omega) HSCq.out.gdlt ?_; intro gq capq w9 hPq hPaq; have hneq : some (w.heap.size + 1 + 1) ≠ Value.ownBlock (.slice aa adk.length ca) := (fun e => by have := (HSCq.out.ad.lt _ e.symm).1; omega); have hddq := hPq.block hneq HSCq.out.d; obtain ⟨j0q, j1q, j2q, j3q⟩ := box_two hddq; have qbq : Below w.heap.size wo w9 := hBCq.trans (hPq.below.mono (by omega)); have qsq : w.heap.size + 1 + 1 + 1 ≤ w9.heap.size := Nat.le_trans HSCq.out.gdlt hPq.below.size; have r1q : w9.cell? ⟨wo.heap.size, 1, none⟩ = some (.slice a2 nv c2v) := cell_of (hPq.block (fun e => (HSCq.out.bx _ (.inl (.inl (.inr rfl)))).2.2.1 e.symm) hVCq) rfl; have r4q : w9.cell? ⟨w7.heap.size, 0, none⟩ = some (.int .i64 mlo) := cell_of (hPq.block (fun e => (HSCq.out.bx _ (.inr rfl)).2.2.1 e.symm) hCCq) rfl; have r5q : w9.cell? ⟨w7.heap.size, 1, none⟩ = some (.int .i64 mhi) := cell_of (hPq.block (fun e => (HSCq.out.bx _ (.inr rfl)).2.2.1 e.symm) hCCq) rfl)
          refine hK.out _ _ ?_ (fun hHeld => ?_)
          · (try dsimp only)
            (go_split_ands; refine ⟨?_, ?_, ?_, ?_, ?_⟩ <;> first | (with_reducible assumption) | with_reducible exact Below.drew (by assumption) | with_reducible exact size_drewA (by assumption) | with_reducible exact cell_drew (by assumption) | with_reducible exact below_tr3 (by assumption) (by assumption) (by assumption) | with_reducible exact size_keepR (by assumption) (by assumption) | with_reducible exact cell_keep (by assumption) (by assumption) | with_reducible exact below_allocR (n := w.heap.size + 1 + 1) (by assumption) (by assumption) (by assumption) | with_reducible exact size_allocR (by assumption) | with_reducible exact cell_alloc (by assumption) | with_reducible exact below_setD (by assumption) (by assumption) | with_reducible exact size_setR (by assumption) | with_reducible exact cell_setD (by assumption) (by assumption))
          clear hK K
          (try simp only [Act.put, List.setIfInBounds_toArray])
          refine take_y (i := 12) (d := some 80) (v := ?_) rfl rfl (by kernel_rfl) (by kernel_rfl) (by kernel_rfl) (fun _ _ _ h => h) (by assumption) ?_ ?_
          rotate_left
          · intro oi ho
            simp only [List.getElem?_toArray, List.getElem?_cons_succ, List.getElem?_cons_zero, Option.some.injEq] at ho
            subst ho
            intro w hSw
            (try dsimp only at hSw)
            go_simp
            (try with_reducible rfl)
          (try simp only [Act.put])
          refine wpAnyH_ready (rs := [13]) (by kernel_rfl) (by simp) ?_
          refine AllReadyH.cons rfl (fun K hK => ?_) AllReadyH.nil
          go_simp
          refine hK.out _ _ ?_ (fun hHeld => ?_)
          · (try dsimp only)
            (go_split_ands; refine ⟨?_, ?_, ?_, ?_, ?_⟩ <;> first | (with_reducible assumption) | with_reducible exact Below.drew (by assumption) | with_reducible exact size_drewA (by assumption) | with_reducible exact cell_drew (by assumption) | with_reducible exact below_tr3 (by assumption) (by assumption) (by assumption) | with_reducible exact size_keepR (by assumption) (by assumption) | with_reducible exact cell_keep (by assumption) (by assumption) | with_reducible exact below_allocR (n := w.heap.size + 1 + 1) (by assumption) (by assumption) (by assumption) | with_reducible exact size_allocR (by assumption) | with_reducible exact cell_alloc (by assumption) | with_reducible exact below_setD (by assumption) (by assumption) | with_reducible exact size_setR (by assumption) | with_reducible exact cell_setD (by assumption) (by assumption))
          clear hK K
          (try simp only [Act.put, List.setIfInBounds_toArray, List.set_cons_zero, List.set_cons_succ])
          refine wpAnyH_done (by kernel_rfl) ?_ _
          refine NoPanic.normal ?_
          (try dsimp only)
          obtain ⟨hSq, hFq, hBq⟩ := HSCq.out.pushed (Below.refl _ _) hPq (show (adk ++ [(⟨asgV e set xvals, mlo, mhi, [xid]⟩ : Tup)]).length = adk.length + 1 by simp)
          have HSq := Lib.hid hSq
          have HVq := Lib.hid ((hFq _ (.inl (.inl (.inr rfl)))).trans hVCq)
          have HPq := Lib.hid ((hFq _ (.inl (.inl (.inl (.inl rfl))))).trans hPCq)
          have HRq := Lib.hid ((hFq _ (.inl (.inl (.inl (.inr rfl))))).trans hRCq)
          have HLq := Lib.hid ((hFq _ (.inl (.inr rfl))).trans hLCq)
          have HCq := Lib.hid ((hFq _ (.inr rfl)).trans hCCq)
          have HBq : Hid (Below w.heap.size wo (w9.setCell ⟨w.heap.size + 1 + 1, 1, none⟩ (.slice (some ⟨gq, 0, none⟩) (adk.length + 1) capq))) := hBCq.trans (hBq.mono (show w.heap.size ≤ w.heap.size + 1 + 1 by omega))
          have x1q : (w9.setCell ⟨w.heap.size + 1 + 1, 1, none⟩ (.slice (some ⟨gq, 0, none⟩) (adk.length + 1) capq)).cell? ⟨wo.heap.size, 1, none⟩ = some (.slice a2 nv c2v) := cell_of HVq.out rfl
          have x2q : (w9.setCell ⟨w.heap.size + 1 + 1, 1, none⟩ (.slice (some ⟨gq, 0, none⟩) (adk.length + 1) capq)).cell? ⟨wo.heap.size, 2, none⟩ = some (.int .i64 xlo) := cell_of HVq.out rfl
          have x3q : (w9.setCell ⟨w.heap.size + 1 + 1, 1, none⟩ (.slice (some ⟨gq, 0, none⟩) (adk.length + 1) capq)).cell? ⟨wo.heap.size, 3, none⟩ = some (.int .i64 xhi) := cell_of HVq.out rfl
          have y0q : (w9.setCell ⟨w.heap.size + 1 + 1, 1, none⟩ (.slice (some ⟨gq, 0, none⟩) (adk.length + 1) capq)).cell? ⟨w7.heap.size, 0, none⟩ = some (.int .i64 mlo) := cell_of HCq.out rfl
          have y1q : (w9.setCell ⟨w.heap.size + 1 + 1, 1, none⟩ (.slice (some ⟨gq, 0, none⟩) (adk.length + 1) capq)).cell? ⟨w7.heap.size, 1, none⟩ = some (.int .i64 mhi) := cell_of HCq.out rfl
          obtain ⟨dAq, dBq, dCq, dDq⟩ := box_two HSq.out.d
          by_cases hc2 : mhi < xhi
          · have HPV : Hid (partsV plo phi chg ⟨xid, xvals, xlo, xhi, xrlo, xrhi⟩ = ([(⟨asgV e set xvals, mlo, mhi, [xid]⟩ : Tup), (⟨xvals, mhi, xhi, [xid]⟩ : Tup)] : List Tup)) := by show _ = _; rw [HCHG.out]; unfold partsV partL partM partR; dsimp only; rw [← HMLO.out, ← HMHI.out]; simp [hc1, hc2, HMID]
            go_wp2_with (at_builtin; refine wpList_push rfl (.tmp 88) (.tmp 99) 22 rfl (tupE.avoid fun k => (m ≤ k ∧ k ≤ w.heap.size + 1 + 1) ∨ some k = (Value.slice (some ⟨g, 0, none⟩) (clk.length + 1) cap).ownBlock) Try.underlying22 (w.heap.size + 1 + 1 + 1) (.slice (some ⟨gq, 0, none⟩) (adk.length + 1) capq) (adk ++ [(⟨asgV e set xvals, mlo, mhi, [xid]⟩ : Tup)]) rfl HSq.out.ad [(⟨xvals, mhi, xhi, [xid]⟩ : Tup)] #[.slice a2 nv c2v, .int .i64 mhi, .int .i64 xhi, .slice (some ⟨w5.heap.size, 0, none⟩) 1 1] (HSq.out.elem (HSq.out.oldv (HOLD _ HBq.out)) HLq.out (.inl (.inr rfl)) hgl) 1 1 rfl (show Value.slice (some ⟨w9.heap.size, 0, none⟩) 1 1 = .slice (some ⟨(w9.setCell ⟨w.heap.size + 1 + 1, 1, none⟩ (.slice (some ⟨gq, 0, none⟩) (adk.length + 1) capq)).heap.size, 0, none⟩) 1 1 by simp [World.setCell]) (by decide) (by unfold maxLen; (try simp); omega) (by show _ * 64 ≤ _; (try simp); omega) HSq.out.gdlt ?_; intro gr capr w10 hPr hPar; obtain ⟨j0r, j1r, j2r, j3r⟩ := box_two (hPr.block (fun e => by have := (HSq.out.ad.lt _ e.symm).1; omega) HSq.out.d); obtain ⟨hSr, hFr, hBr⟩ := HSq.out.pushed (Below.refl _ _) hPr (show ((adk ++ [(⟨asgV e set xvals, mlo, mhi, [xid]⟩ : Tup)]) ++ [(⟨xvals, mhi, xhi, [xid]⟩ : Tup)]).length = adk.length + 1 + 1 by simp); have HSr := Lib.hid hSr; have HVr := Lib.hid ((hFr _ (.inl (.inl (.inr rfl)))).trans HVq.out); have HPr := Lib.hid ((hFr _ (.inl (.inl (.inl (.inl rfl))))).trans HPq.out); have HRr := Lib.hid ((hFr _ (.inl (.inl (.inl (.inr rfl))))).trans HRq.out); have HLr := Lib.hid ((hFr _ (.inl (.inr rfl))).trans HLq.out); have HCr := Lib.hid ((hFr _ (.inr rfl)).trans HCq.out); have HBr : Hid (Below w.heap.size wo (w10.setCell ⟨w.heap.size + 1 + 1, 1, none⟩ (.slice (some ⟨gr, 0, none⟩) (adk.length + 1 + 1) capr))) := HBq.out.trans (hBr.mono (show w.heap.size ≤ w.heap.size + 1 + 1 by omega)); have x1r : (w10.setCell ⟨w.heap.size + 1 + 1, 1, none⟩ (.slice (some ⟨gr, 0, none⟩) (adk.length + 1 + 1) capr)).cell? ⟨wo.heap.size, 1, none⟩ = some (.slice a2 nv c2v) := cell_of HVr.out rfl; have x2r : (w10.setCell ⟨w.heap.size + 1 + 1, 1, none⟩ (.slice (some ⟨gr, 0, none⟩) (adk.length + 1 + 1) capr)).cell? ⟨wo.heap.size, 2, none⟩ = some (.int .i64 xlo) := cell_of HVr.out rfl; have x3r : (w10.setCell ⟨w.heap.size + 1 + 1, 1, none⟩ (.slice (some ⟨gr, 0, none⟩) (adk.length + 1 + 1) capr)).cell? ⟨wo.heap.size, 3, none⟩ = some (.int .i64 xhi) := cell_of HVr.out rfl; have y0r : (w10.setCell ⟨w.heap.size + 1 + 1, 1, none⟩ (.slice (some ⟨gr, 0, none⟩) (adk.length + 1 + 1) capr)).cell? ⟨w7.heap.size, 0, none⟩ = some (.int .i64 mlo) := cell_of HCr.out rfl; have y1r : (w10.setCell ⟨w.heap.size + 1 + 1, 1, none⟩ (.slice (some ⟨gr, 0, none⟩) (adk.length + 1 + 1) capr)).cell? ⟨w7.heap.size, 1, none⟩ = some (.int .i64 mhi) := cell_of HCr.out rfl; obtain ⟨dAr, dBr, dCr, dDr⟩ := box_two HSr.out.d)
            go_roundw
            case rel =>
              refine ⟨k + 1, .slice (some ⟨g, 0, none⟩) (clk.length + 1) cap, (.slice (some ⟨gr, 0, none⟩) (adk.length + 1 + 1) capr), by omega, by go_num, ?_, HPr.out, HRr.out, HB.out.trans HBr.out⟩
              have h := (HSr.out).mono (F' := fun k => k = w.heap.size ∨ k = w.heap.size + 1) (fun k hk => .inl (.inl (.inl hk)))
              rw [show (aff.take (k + 1)).map Ver.id = clk ++ [xid] by rw [take_get HX.out, List.map_append, HCLK.out]; rfl, show (aff.take (k + 1)).flatMap (partsV plo phi chg) = ((adk ++ [(⟨asgV e set xvals, mlo, mhi, [xid]⟩ : Tup)]) ++ [(⟨xvals, mhi, xhi, [xid]⟩ : Tup)]) by rw [take_get HX.out, List.flatMap_append, List.flatMap_cons, List.flatMap_nil, List.append_nil, ← HADK.out, HPV.out]; (try simp only [List.append_assoc, List.nil_append, List.cons_append])]
              exact h
            case measure => simp [intOf]; omega
          · have HPV : Hid (partsV plo phi chg ⟨xid, xvals, xlo, xhi, xrlo, xrhi⟩ = ([(⟨asgV e set xvals, mlo, mhi, [xid]⟩ : Tup)] : List Tup)) := by show _ = _; rw [HCHG.out]; unfold partsV partL partM partR; dsimp only; rw [← HMLO.out, ← HMHI.out]; simp [hc1, hc2, HMID]
            go_wp2_with fail
            go_roundw
            case rel =>
              refine ⟨k + 1, .slice (some ⟨g, 0, none⟩) (clk.length + 1) cap, (.slice (some ⟨gq, 0, none⟩) (adk.length + 1) capq), by omega, by go_num, ?_, HPq.out, HRq.out, HB.out.trans HBq.out⟩
              have h := (HSq.out).mono (F' := fun k => k = w.heap.size ∨ k = w.heap.size + 1) (fun k hk => .inl (.inl (.inl hk)))
              rw [show (aff.take (k + 1)).map Ver.id = clk ++ [xid] by rw [take_get HX.out, List.map_append, HCLK.out]; rfl, show (aff.take (k + 1)).flatMap (partsV plo phi chg) = (adk ++ [(⟨asgV e set xvals, mlo, mhi, [xid]⟩ : Tup)]) by rw [take_get HX.out, List.flatMap_append, List.flatMap_cons, List.flatMap_nil, List.append_nil, ← HADK.out, HPV.out]; (try simp only [List.append_assoc, List.append_nil, List.nil_append, List.cons_append])]
              exact h
            case measure => simp [intOf]; omega
        · go_simp
          (go_at_call 89; refine (HASG _ (hBzq.drew)).out.mono ?_; rintro e' wCq ⟨vCq, rfl, hOCq, hbCq⟩; obtain ⟨aCq, cCq, rfl⟩ := hOCq.shape; have HSCq := Lib.hid (HSdq.out.below hbCq); have hLCq := box_kept hLdq hbCq; have hVCq := box_kept hVdq hbCq; have hPCq := box_kept hPdq hbCq; have hRCq := box_kept hRdq hbCq; have hCCq := box_kept hCdq hbCq; have hBCq : Below w.heap.size wo wCq := below_tr3 hzo hBzq.drew hbCq; have HISq := Lib.hid (HSCq.out.elem (lo := mlo) (hi := mhi) (HSdq.out.newv hOCq) hLCq (.inl (.inr rfl)) hgl); have hdCq : wCq.cell? ⟨w.heap.size + 1 + 1, 1, none⟩ = some (.slice aa adk.length ca) := cell_of HSCq.out.d rfl; have hdAq := cell_alloc (o := .cells #[.slice aCq (asgV e set xvals).length cCq, .int .i64 mlo, .int .i64 mhi, .slice (some ⟨w5.heap.size, 0, none⟩) 1 1] 67) hdCq)
          refine hK.out _ _ ?_ (fun hHeld => ?_)
          · (try dsimp only)
            (go_split_ands; refine ⟨?_, ?_, ?_, ?_, ?_⟩ <;> first | (with_reducible assumption) | with_reducible exact Below.drew (by assumption) | with_reducible exact size_drewA (by assumption) | with_reducible exact cell_drew (by assumption) | with_reducible exact below_tr3 (by assumption) (by assumption) (by assumption) | with_reducible exact size_keepR (by assumption) (by assumption) | with_reducible exact cell_keep (by assumption) (by assumption) | with_reducible exact below_allocR (n := w.heap.size + 1 + 1) (by assumption) (by assumption) (by assumption) | with_reducible exact size_allocR (by assumption) | with_reducible exact cell_alloc (by assumption) | with_reducible exact below_setD (by assumption) (by assumption) | with_reducible exact size_setR (by assumption) | with_reducible exact cell_setD (by assumption) (by assumption))
          clear hK K
          (try simp only [Act.put, List.setIfInBounds_toArray, List.set_cons_zero, List.set_cons_succ])
          refine take_y (i := 9) (d := some 77) (v := ?_) rfl rfl (by kernel_rfl) (by kernel_rfl) (by kernel_rfl) (fun _ _ _ h => h) (by assumption) ?_ ?_
          rotate_left
          · intro oi ho
            simp only [List.getElem?_toArray, List.getElem?_cons_succ, List.getElem?_cons_zero, Option.some.injEq] at ho
            subst ho
            intro w hSw
            (try dsimp only at hSw)
            go_simp
            (try with_reducible rfl)
          (try simp only [Act.put, List.setIfInBounds_toArray, List.set_cons_zero, List.set_cons_succ])
          refine wpAnyH_ready (rs := [1, 10]) (by kernel_rfl) (by simp) ?_
          refine AllReadyH.cons rfl (fun K hK => ?_) (AllReadyH.cons rfl (fun K hK => ?_) AllReadyH.nil)
          · go_simp
            refine hK.out _ _ ?_ (fun hHeld => ?_)
            · (try dsimp only)
              (go_split_ands; refine ⟨?_, ?_, ?_, ?_, ?_⟩ <;> first | (with_reducible assumption) | with_reducible exact Below.drew (by assumption) | with_reducible exact size_drewA (by assumption) | with_reducible exact cell_drew (by assumption) | with_reducible exact below_tr3 (by assumption) (by assumption) (by assumption) | with_reducible exact size_keepR (by assumption) (by assumption) | with_reducible exact cell_keep (by assumption) (by assumption) | with_reducible exact below_allocR (n := w.heap.size + 1 + 1) (by assumption) (by assumption) (by assumption) | with_reducible exact size_allocR (by assumption) | with_reducible exact cell_alloc (by assumption) | with_reducible exact below_setD (by assumption) (by assumption) | with_reducible exact size_setR (by assumption) | with_reducible exact cell_setD (by assumption) (by assumption))
            clear hK K
            (try simp only [Act.put, List.setIfInBounds_toArray, List.set_cons_zero, List.set_cons_succ])
            refine wpAnyH_ready (rs := [10]) (by kernel_rfl) (by simp) ?_
            refine AllReadyH.cons rfl (fun K hK => ?_) AllReadyH.nil
            go_simp
            refine hK.out _ _ ?_ (fun hHeld => ?_)
            · (try dsimp only)
              (go_split_ands; refine ⟨?_, ?_, ?_, ?_, ?_⟩ <;> first | (with_reducible assumption) | with_reducible exact Below.drew (by assumption) | with_reducible exact size_drewA (by assumption) | with_reducible exact cell_drew (by assumption) | with_reducible exact below_tr3 (by assumption) (by assumption) (by assumption) | with_reducible exact size_keepR (by assumption) (by assumption) | with_reducible exact cell_keep (by assumption) (by assumption) | with_reducible exact below_allocR (n := w.heap.size + 1 + 1) (by assumption) (by assumption) (by assumption) | with_reducible exact size_allocR (by assumption) | with_reducible exact cell_alloc (by assumption) | with_reducible exact below_setD (by assumption) (by assumption) | with_reducible exact size_setR (by assumption) | with_reducible exact cell_setD (by assumption) (by assumption))
            clear hK K
            (try simp only [Act.put, List.setIfInBounds_toArray, List.set_cons_zero, List.set_cons_succ])
            refine wpAnyH_ready (rs := [11]) (by kernel_rfl) (by simp) ?_
            refine AllReadyH.cons rfl (fun K hK => ?_) AllReadyH.nil
            (refine step_push rfl (.tmp 69) (.tmp 78) 22 rfl (tupE.avoid fun k => (m ≤ k ∧ k ≤ w.heap.size + 1 + 1) ∨ some k = (Value.slice (some ⟨g, 0, none⟩) (clk.length + 1) cap).ownBlock) Try.underlying22 (w.heap.size + 1 + 1 + 1) (.slice aa adk.length ca) adk rfl HSCq.out.ad [(⟨asgV e set xvals, mlo, mhi, [xid]⟩ : Tup)] #[.slice aCq (asgV e set xvals).length cCq, .int .i64 mlo, .int .i64 mhi, .slice (some ⟨w5.heap.size, 0, none⟩) 1 1] HISq.out 1 1 rfl rfl (by decide) (by unfold maxLen; (try simp); omega) (by show _ * 64 ≤ _; (try simp); omega) HSCq.out.gdlt ?_; intro gq capq w9 hPq hPaq; have hneq : some (w.heap.size + 1 + 1) ≠ Value.ownBlock (.slice aa adk.length ca) := (fun e => by have := (HSCq.out.ad.lt _ e.symm).1; omega); have hddq := hPq.block hneq HSCq.out.d; obtain ⟨j0q, j1q, j2q, j3q⟩ := box_two hddq; have qbq : Below w.heap.size wo w9 := hBCq.trans (hPq.below.mono (by omega)); have qsq : w.heap.size + 1 + 1 + 1 ≤ w9.heap.size := Nat.le_trans HSCq.out.gdlt hPq.below.size; have r1q : w9.cell? ⟨wo.heap.size, 1, none⟩ = some (.slice a2 nv c2v) := cell_of (hPq.block (fun e => (HSCq.out.bx _ (.inl (.inl (.inr rfl)))).2.2.1 e.symm) hVCq) rfl; have r4q : w9.cell? ⟨w7.heap.size, 0, none⟩ = some (.int .i64 mlo) := cell_of (hPq.block (fun e => (HSCq.out.bx _ (.inr rfl)).2.2.1 e.symm) hCCq) rfl; have r5q : w9.cell? ⟨w7.heap.size, 1, none⟩ = some (.int .i64 mhi) := cell_of (hPq.block (fun e => (HSCq.out.bx _ (.inr rfl)).2.2.1 e.symm) hCCq) rfl)
            refine hK.out _ _ ?_ (fun hHeld => ?_)
            · (try dsimp only)
              (go_split_ands; refine ⟨?_, ?_, ?_, ?_, ?_⟩ <;> first | (with_reducible assumption) | with_reducible exact Below.drew (by assumption) | with_reducible exact size_drewA (by assumption) | with_reducible exact cell_drew (by assumption) | with_reducible exact below_tr3 (by assumption) (by assumption) (by assumption) | with_reducible exact size_keepR (by assumption) (by assumption) | with_reducible exact cell_keep (by assumption) (by assumption) | with_reducible exact below_allocR (n := w.heap.size + 1 + 1) (by assumption) (by assumption) (by assumption) | with_reducible exact size_allocR (by assumption) | with_reducible exact cell_alloc (by assumption) | with_reducible exact below_setD (by assumption) (by assumption) | with_reducible exact size_setR (by assumption) | with_reducible exact cell_setD (by assumption) (by assumption))
            clear hK K
            (try simp only [Act.put, List.setIfInBounds_toArray])
            refine take_y (i := 12) (d := some 80) (v := ?_) rfl rfl (by kernel_rfl) (by kernel_rfl) (by kernel_rfl) (fun _ _ _ h => h) (by assumption) ?_ ?_
            rotate_left
            · intro oi ho
              simp only [List.getElem?_toArray, List.getElem?_cons_succ, List.getElem?_cons_zero, Option.some.injEq] at ho
              subst ho
              intro w hSw
              (try dsimp only at hSw)
              go_simp
              (try with_reducible rfl)
            (try simp only [Act.put])
            refine wpAnyH_ready (rs := [13]) (by kernel_rfl) (by simp) ?_
            refine AllReadyH.cons rfl (fun K hK => ?_) AllReadyH.nil
            go_simp
            refine hK.out _ _ ?_ (fun hHeld => ?_)
            · (try dsimp only)
              (go_split_ands; refine ⟨?_, ?_, ?_, ?_, ?_⟩ <;> first | (with_reducible assumption) | with_reducible exact Below.drew (by assumption) | with_reducible exact size_drewA (by assumption) | with_reducible exact cell_drew (by assumption) | with_reducible exact below_tr3 (by assumption) (by assumption) (by assumption) | with_reducible exact size_keepR (by assumption) (by assumption) | with_reducible exact cell_keep (by assumption) (by assumption) | with_reducible exact below_allocR (n := w.heap.size + 1 + 1) (by assumption) (by assumption) (by assumption) | with_reducible exact size_allocR (by assumption) | with_reducible exact cell_alloc (by assumption) | with_reducible exact below_setD (by assumption) (by assumption) | with_reducible exact size_setR (by assumption) | with_reducible exact cell_setD (by assumption) (by assumption))
            clear hK K
            (try simp only [Act.put, List.setIfInBounds_toArray, List.set_cons_zero, List.set_cons_succ])
            refine wpAnyH_done (by kernel_rfl) ?_ _
            refine NoPanic.normal ?_
            (try dsimp only)
            obtain ⟨hSq, hFq, hBq⟩ := HSCq.out.pushed (Below.refl _ _) hPq (show (adk ++ [(⟨asgV e set xvals, mlo, mhi, [xid]⟩ : Tup)]).length = adk.length + 1 by simp)
            have HSq := Lib.hid hSq
            have HVq := Lib.hid ((hFq _ (.inl (.inl (.inr rfl)))).trans hVCq)
            have HPq := Lib.hid ((hFq _ (.inl (.inl (.inl (.inl rfl))))).trans hPCq)
            have HRq := Lib.hid ((hFq _ (.inl (.inl (.inl (.inr rfl))))).trans hRCq)
            have HLq := Lib.hid ((hFq _ (.inl (.inr rfl))).trans hLCq)
            have HCq := Lib.hid ((hFq _ (.inr rfl)).trans hCCq)
            have HBq : Hid (Below w.heap.size wo (w9.setCell ⟨w.heap.size + 1 + 1, 1, none⟩ (.slice (some ⟨gq, 0, none⟩) (adk.length + 1) capq))) := hBCq.trans (hBq.mono (show w.heap.size ≤ w.heap.size + 1 + 1 by omega))
            have x1q : (w9.setCell ⟨w.heap.size + 1 + 1, 1, none⟩ (.slice (some ⟨gq, 0, none⟩) (adk.length + 1) capq)).cell? ⟨wo.heap.size, 1, none⟩ = some (.slice a2 nv c2v) := cell_of HVq.out rfl
            have x2q : (w9.setCell ⟨w.heap.size + 1 + 1, 1, none⟩ (.slice (some ⟨gq, 0, none⟩) (adk.length + 1) capq)).cell? ⟨wo.heap.size, 2, none⟩ = some (.int .i64 xlo) := cell_of HVq.out rfl
            have x3q : (w9.setCell ⟨w.heap.size + 1 + 1, 1, none⟩ (.slice (some ⟨gq, 0, none⟩) (adk.length + 1) capq)).cell? ⟨wo.heap.size, 3, none⟩ = some (.int .i64 xhi) := cell_of HVq.out rfl
            have y0q : (w9.setCell ⟨w.heap.size + 1 + 1, 1, none⟩ (.slice (some ⟨gq, 0, none⟩) (adk.length + 1) capq)).cell? ⟨w7.heap.size, 0, none⟩ = some (.int .i64 mlo) := cell_of HCq.out rfl
            have y1q : (w9.setCell ⟨w.heap.size + 1 + 1, 1, none⟩ (.slice (some ⟨gq, 0, none⟩) (adk.length + 1) capq)).cell? ⟨w7.heap.size, 1, none⟩ = some (.int .i64 mhi) := cell_of HCq.out rfl
            obtain ⟨dAq, dBq, dCq, dDq⟩ := box_two HSq.out.d
            by_cases hc2 : mhi < xhi
            · have HPV : Hid (partsV plo phi chg ⟨xid, xvals, xlo, xhi, xrlo, xrhi⟩ = ([(⟨asgV e set xvals, mlo, mhi, [xid]⟩ : Tup), (⟨xvals, mhi, xhi, [xid]⟩ : Tup)] : List Tup)) := by show _ = _; rw [HCHG.out]; unfold partsV partL partM partR; dsimp only; rw [← HMLO.out, ← HMHI.out]; simp [hc1, hc2, HMID]
              go_wp2_with (at_builtin; refine wpList_push rfl (.tmp 88) (.tmp 99) 22 rfl (tupE.avoid fun k => (m ≤ k ∧ k ≤ w.heap.size + 1 + 1) ∨ some k = (Value.slice (some ⟨g, 0, none⟩) (clk.length + 1) cap).ownBlock) Try.underlying22 (w.heap.size + 1 + 1 + 1) (.slice (some ⟨gq, 0, none⟩) (adk.length + 1) capq) (adk ++ [(⟨asgV e set xvals, mlo, mhi, [xid]⟩ : Tup)]) rfl HSq.out.ad [(⟨xvals, mhi, xhi, [xid]⟩ : Tup)] #[.slice a2 nv c2v, .int .i64 mhi, .int .i64 xhi, .slice (some ⟨w5.heap.size, 0, none⟩) 1 1] (HSq.out.elem (HSq.out.oldv (HOLD _ HBq.out)) HLq.out (.inl (.inr rfl)) hgl) 1 1 rfl (show Value.slice (some ⟨w9.heap.size, 0, none⟩) 1 1 = .slice (some ⟨(w9.setCell ⟨w.heap.size + 1 + 1, 1, none⟩ (.slice (some ⟨gq, 0, none⟩) (adk.length + 1) capq)).heap.size, 0, none⟩) 1 1 by simp [World.setCell]) (by decide) (by unfold maxLen; (try simp); omega) (by show _ * 64 ≤ _; (try simp); omega) HSq.out.gdlt ?_; intro gr capr w10 hPr hPar; obtain ⟨j0r, j1r, j2r, j3r⟩ := box_two (hPr.block (fun e => by have := (HSq.out.ad.lt _ e.symm).1; omega) HSq.out.d); obtain ⟨hSr, hFr, hBr⟩ := HSq.out.pushed (Below.refl _ _) hPr (show ((adk ++ [(⟨asgV e set xvals, mlo, mhi, [xid]⟩ : Tup)]) ++ [(⟨xvals, mhi, xhi, [xid]⟩ : Tup)]).length = adk.length + 1 + 1 by simp); have HSr := Lib.hid hSr; have HVr := Lib.hid ((hFr _ (.inl (.inl (.inr rfl)))).trans HVq.out); have HPr := Lib.hid ((hFr _ (.inl (.inl (.inl (.inl rfl))))).trans HPq.out); have HRr := Lib.hid ((hFr _ (.inl (.inl (.inl (.inr rfl))))).trans HRq.out); have HLr := Lib.hid ((hFr _ (.inl (.inr rfl))).trans HLq.out); have HCr := Lib.hid ((hFr _ (.inr rfl)).trans HCq.out); have HBr : Hid (Below w.heap.size wo (w10.setCell ⟨w.heap.size + 1 + 1, 1, none⟩ (.slice (some ⟨gr, 0, none⟩) (adk.length + 1 + 1) capr))) := HBq.out.trans (hBr.mono (show w.heap.size ≤ w.heap.size + 1 + 1 by omega)); have x1r : (w10.setCell ⟨w.heap.size + 1 + 1, 1, none⟩ (.slice (some ⟨gr, 0, none⟩) (adk.length + 1 + 1) capr)).cell? ⟨wo.heap.size, 1, none⟩ = some (.slice a2 nv c2v) := cell_of HVr.out rfl; have x2r : (w10.setCell ⟨w.heap.size + 1 + 1, 1, none⟩ (.slice (some ⟨gr, 0, none⟩) (adk.length + 1 + 1) capr)).cell? ⟨wo.heap.size, 2, none⟩ = some (.int .i64 xlo) := cell_of HVr.out rfl; have x3r : (w10.setCell ⟨w.heap.size + 1 + 1, 1, none⟩ (.slice (some ⟨gr, 0, none⟩) (adk.length + 1 + 1) capr)).cell? ⟨wo.heap.size, 3, none⟩ = some (.int .i64 xhi) := cell_of HVr.out rfl; have y0r : (w10.setCell ⟨w.heap.size + 1 + 1, 1, none⟩ (.slice (some ⟨gr, 0, none⟩) (adk.length + 1 + 1) capr)).cell? ⟨w7.heap.size, 0, none⟩ = some (.int .i64 mlo) := cell_of HCr.out rfl; have y1r : (w10.setCell ⟨w.heap.size + 1 + 1, 1, none⟩ (.slice (some ⟨gr, 0, none⟩) (adk.length + 1 + 1) capr)).cell? ⟨w7.heap.size, 1, none⟩ = some (.int .i64 mhi) := cell_of HCr.out rfl; obtain ⟨dAr, dBr, dCr, dDr⟩ := box_two HSr.out.d)
              go_roundw
              case rel =>
                refine ⟨k + 1, .slice (some ⟨g, 0, none⟩) (clk.length + 1) cap, (.slice (some ⟨gr, 0, none⟩) (adk.length + 1 + 1) capr), by omega, by go_num, ?_, HPr.out, HRr.out, HB.out.trans HBr.out⟩
                have h := (HSr.out).mono (F' := fun k => k = w.heap.size ∨ k = w.heap.size + 1) (fun k hk => .inl (.inl (.inl hk)))
                rw [show (aff.take (k + 1)).map Ver.id = clk ++ [xid] by rw [take_get HX.out, List.map_append, HCLK.out]; rfl, show (aff.take (k + 1)).flatMap (partsV plo phi chg) = ((adk ++ [(⟨asgV e set xvals, mlo, mhi, [xid]⟩ : Tup)]) ++ [(⟨xvals, mhi, xhi, [xid]⟩ : Tup)]) by rw [take_get HX.out, List.flatMap_append, List.flatMap_cons, List.flatMap_nil, List.append_nil, ← HADK.out, HPV.out]; (try simp only [List.append_assoc, List.nil_append, List.cons_append])]
                exact h
              case measure => simp [intOf]; omega
            · have HPV : Hid (partsV plo phi chg ⟨xid, xvals, xlo, xhi, xrlo, xrhi⟩ = ([(⟨asgV e set xvals, mlo, mhi, [xid]⟩ : Tup)] : List Tup)) := by show _ = _; rw [HCHG.out]; unfold partsV partL partM partR; dsimp only; rw [← HMLO.out, ← HMHI.out]; simp [hc1, hc2, HMID]
              go_wp2_with fail
              go_roundw
              case rel =>
                refine ⟨k + 1, .slice (some ⟨g, 0, none⟩) (clk.length + 1) cap, (.slice (some ⟨gq, 0, none⟩) (adk.length + 1) capq), by omega, by go_num, ?_, HPq.out, HRq.out, HB.out.trans HBq.out⟩
                have h := (HSq.out).mono (F' := fun k => k = w.heap.size ∨ k = w.heap.size + 1) (fun k hk => .inl (.inl (.inl hk)))
                rw [show (aff.take (k + 1)).map Ver.id = clk ++ [xid] by rw [take_get HX.out, List.map_append, HCLK.out]; rfl, show (aff.take (k + 1)).flatMap (partsV plo phi chg) = (adk ++ [(⟨asgV e set xvals, mlo, mhi, [xid]⟩ : Tup)]) by rw [take_get HX.out, List.flatMap_append, List.flatMap_cons, List.flatMap_nil, List.append_nil, ← HADK.out, HPV.out]; (try simp only [List.append_assoc, List.append_nil, List.nil_append, List.cons_append])]
                exact h
              case measure => simp [intOf]; omega
          · go_simp
            refine hK.out _ _ ?_ (fun hHeld => ?_)
            · (try dsimp only)
              (go_split_ands; refine ⟨?_, ?_, ?_, ?_, ?_⟩ <;> first | (with_reducible assumption) | with_reducible exact Below.drew (by assumption) | with_reducible exact size_drewA (by assumption) | with_reducible exact cell_drew (by assumption) | with_reducible exact below_tr3 (by assumption) (by assumption) (by assumption) | with_reducible exact size_keepR (by assumption) (by assumption) | with_reducible exact cell_keep (by assumption) (by assumption) | with_reducible exact below_allocR (n := w.heap.size + 1 + 1) (by assumption) (by assumption) (by assumption) | with_reducible exact size_allocR (by assumption) | with_reducible exact cell_alloc (by assumption) | with_reducible exact below_setD (by assumption) (by assumption) | with_reducible exact size_setR (by assumption) | with_reducible exact cell_setD (by assumption) (by assumption))
            clear hK K
            (try simp only [Act.put, List.setIfInBounds_toArray, List.set_cons_zero, List.set_cons_succ])
            refine wpAnyH_ready (rs := [1]) (by kernel_rfl) (by simp) ?_
            refine AllReadyH.cons rfl (fun K hK => ?_) AllReadyH.nil
            go_simp
            refine hK.out _ _ ?_ (fun hHeld => ?_)
            · (try dsimp only)
              (go_split_ands; refine ⟨?_, ?_, ?_, ?_, ?_⟩ <;> first | (with_reducible assumption) | with_reducible exact Below.drew (by assumption) | with_reducible exact size_drewA (by assumption) | with_reducible exact cell_drew (by assumption) | with_reducible exact below_tr3 (by assumption) (by assumption) (by assumption) | with_reducible exact size_keepR (by assumption) (by assumption) | with_reducible exact cell_keep (by assumption) (by assumption) | with_reducible exact below_allocR (n := w.heap.size + 1 + 1) (by assumption) (by assumption) (by assumption) | with_reducible exact size_allocR (by assumption) | with_reducible exact cell_alloc (by assumption) | with_reducible exact below_setD (by assumption) (by assumption) | with_reducible exact size_setR (by assumption) | with_reducible exact cell_setD (by assumption) (by assumption))
            clear hK K
            (try simp only [Act.put, List.setIfInBounds_toArray, List.set_cons_zero, List.set_cons_succ])
            refine wpAnyH_ready (rs := [11]) (by kernel_rfl) (by simp) ?_
            refine AllReadyH.cons rfl (fun K hK => ?_) AllReadyH.nil
            (refine step_push rfl (.tmp 69) (.tmp 78) 22 rfl (tupE.avoid fun k => (m ≤ k ∧ k ≤ w.heap.size + 1 + 1) ∨ some k = (Value.slice (some ⟨g, 0, none⟩) (clk.length + 1) cap).ownBlock) Try.underlying22 (w.heap.size + 1 + 1 + 1) (.slice aa adk.length ca) adk rfl HSCq.out.ad [(⟨asgV e set xvals, mlo, mhi, [xid]⟩ : Tup)] #[.slice aCq (asgV e set xvals).length cCq, .int .i64 mlo, .int .i64 mhi, .slice (some ⟨w5.heap.size, 0, none⟩) 1 1] HISq.out 1 1 rfl rfl (by decide) (by unfold maxLen; (try simp); omega) (by show _ * 64 ≤ _; (try simp); omega) HSCq.out.gdlt ?_; intro gq capq w9 hPq hPaq; have hneq : some (w.heap.size + 1 + 1) ≠ Value.ownBlock (.slice aa adk.length ca) := (fun e => by have := (HSCq.out.ad.lt _ e.symm).1; omega); have hddq := hPq.block hneq HSCq.out.d; obtain ⟨j0q, j1q, j2q, j3q⟩ := box_two hddq; have qbq : Below w.heap.size wo w9 := hBCq.trans (hPq.below.mono (by omega)); have qsq : w.heap.size + 1 + 1 + 1 ≤ w9.heap.size := Nat.le_trans HSCq.out.gdlt hPq.below.size; have r1q : w9.cell? ⟨wo.heap.size, 1, none⟩ = some (.slice a2 nv c2v) := cell_of (hPq.block (fun e => (HSCq.out.bx _ (.inl (.inl (.inr rfl)))).2.2.1 e.symm) hVCq) rfl; have r4q : w9.cell? ⟨w7.heap.size, 0, none⟩ = some (.int .i64 mlo) := cell_of (hPq.block (fun e => (HSCq.out.bx _ (.inr rfl)).2.2.1 e.symm) hCCq) rfl; have r5q : w9.cell? ⟨w7.heap.size, 1, none⟩ = some (.int .i64 mhi) := cell_of (hPq.block (fun e => (HSCq.out.bx _ (.inr rfl)).2.2.1 e.symm) hCCq) rfl)
            refine hK.out _ _ ?_ (fun hHeld => ?_)
            · (try dsimp only)
              (go_split_ands; refine ⟨?_, ?_, ?_, ?_, ?_⟩ <;> first | (with_reducible assumption) | with_reducible exact Below.drew (by assumption) | with_reducible exact size_drewA (by assumption) | with_reducible exact cell_drew (by assumption) | with_reducible exact below_tr3 (by assumption) (by assumption) (by assumption) | with_reducible exact size_keepR (by assumption) (by assumption) | with_reducible exact cell_keep (by assumption) (by assumption) | with_reducible exact below_allocR (n := w.heap.size + 1 + 1) (by assumption) (by assumption) (by assumption) | with_reducible exact size_allocR (by assumption) | with_reducible exact cell_alloc (by assumption) | with_reducible exact below_setD (by assumption) (by assumption) | with_reducible exact size_setR (by assumption) | with_reducible exact cell_setD (by assumption) (by assumption))
            clear hK K
            (try simp only [Act.put, List.setIfInBounds_toArray])
            refine take_y (i := 12) (d := some 80) (v := ?_) rfl rfl (by kernel_rfl) (by kernel_rfl) (by kernel_rfl) (fun _ _ _ h => h) (by assumption) ?_ ?_
            rotate_left
            · intro oi ho
              simp only [List.getElem?_toArray, List.getElem?_cons_succ, List.getElem?_cons_zero, Option.some.injEq] at ho
              subst ho
              intro w hSw
              (try dsimp only at hSw)
              go_simp
              (try with_reducible rfl)
            (try simp only [Act.put])
            refine wpAnyH_ready (rs := [13]) (by kernel_rfl) (by simp) ?_
            refine AllReadyH.cons rfl (fun K hK => ?_) AllReadyH.nil
            go_simp
            refine hK.out _ _ ?_ (fun hHeld => ?_)
            · (try dsimp only)
              (go_split_ands; refine ⟨?_, ?_, ?_, ?_, ?_⟩ <;> first | (with_reducible assumption) | with_reducible exact Below.drew (by assumption) | with_reducible exact size_drewA (by assumption) | with_reducible exact cell_drew (by assumption) | with_reducible exact below_tr3 (by assumption) (by assumption) (by assumption) | with_reducible exact size_keepR (by assumption) (by assumption) | with_reducible exact cell_keep (by assumption) (by assumption) | with_reducible exact below_allocR (n := w.heap.size + 1 + 1) (by assumption) (by assumption) (by assumption) | with_reducible exact size_allocR (by assumption) | with_reducible exact cell_alloc (by assumption) | with_reducible exact below_setD (by assumption) (by assumption) | with_reducible exact size_setR (by assumption) | with_reducible exact cell_setD (by assumption) (by assumption))
            clear hK K
            (try simp only [Act.put, List.setIfInBounds_toArray, List.set_cons_zero, List.set_cons_succ])
            refine wpAnyH_done (by kernel_rfl) ?_ _
            refine NoPanic.normal ?_
            (try dsimp only)
            obtain ⟨hSq, hFq, hBq⟩ := HSCq.out.pushed (Below.refl _ _) hPq (show (adk ++ [(⟨asgV e set xvals, mlo, mhi, [xid]⟩ : Tup)]).length = adk.length + 1 by simp)
            have HSq := Lib.hid hSq
            have HVq := Lib.hid ((hFq _ (.inl (.inl (.inr rfl)))).trans hVCq)
            have HPq := Lib.hid ((hFq _ (.inl (.inl (.inl (.inl rfl))))).trans hPCq)
            have HRq := Lib.hid ((hFq _ (.inl (.inl (.inl (.inr rfl))))).trans hRCq)
            have HLq := Lib.hid ((hFq _ (.inl (.inr rfl))).trans hLCq)
            have HCq := Lib.hid ((hFq _ (.inr rfl)).trans hCCq)
            have HBq : Hid (Below w.heap.size wo (w9.setCell ⟨w.heap.size + 1 + 1, 1, none⟩ (.slice (some ⟨gq, 0, none⟩) (adk.length + 1) capq))) := hBCq.trans (hBq.mono (show w.heap.size ≤ w.heap.size + 1 + 1 by omega))
            have x1q : (w9.setCell ⟨w.heap.size + 1 + 1, 1, none⟩ (.slice (some ⟨gq, 0, none⟩) (adk.length + 1) capq)).cell? ⟨wo.heap.size, 1, none⟩ = some (.slice a2 nv c2v) := cell_of HVq.out rfl
            have x2q : (w9.setCell ⟨w.heap.size + 1 + 1, 1, none⟩ (.slice (some ⟨gq, 0, none⟩) (adk.length + 1) capq)).cell? ⟨wo.heap.size, 2, none⟩ = some (.int .i64 xlo) := cell_of HVq.out rfl
            have x3q : (w9.setCell ⟨w.heap.size + 1 + 1, 1, none⟩ (.slice (some ⟨gq, 0, none⟩) (adk.length + 1) capq)).cell? ⟨wo.heap.size, 3, none⟩ = some (.int .i64 xhi) := cell_of HVq.out rfl
            have y0q : (w9.setCell ⟨w.heap.size + 1 + 1, 1, none⟩ (.slice (some ⟨gq, 0, none⟩) (adk.length + 1) capq)).cell? ⟨w7.heap.size, 0, none⟩ = some (.int .i64 mlo) := cell_of HCq.out rfl
            have y1q : (w9.setCell ⟨w.heap.size + 1 + 1, 1, none⟩ (.slice (some ⟨gq, 0, none⟩) (adk.length + 1) capq)).cell? ⟨w7.heap.size, 1, none⟩ = some (.int .i64 mhi) := cell_of HCq.out rfl
            obtain ⟨dAq, dBq, dCq, dDq⟩ := box_two HSq.out.d
            by_cases hc2 : mhi < xhi
            · have HPV : Hid (partsV plo phi chg ⟨xid, xvals, xlo, xhi, xrlo, xrhi⟩ = ([(⟨asgV e set xvals, mlo, mhi, [xid]⟩ : Tup), (⟨xvals, mhi, xhi, [xid]⟩ : Tup)] : List Tup)) := by show _ = _; rw [HCHG.out]; unfold partsV partL partM partR; dsimp only; rw [← HMLO.out, ← HMHI.out]; simp [hc1, hc2, HMID]
              go_wp2_with (at_builtin; refine wpList_push rfl (.tmp 88) (.tmp 99) 22 rfl (tupE.avoid fun k => (m ≤ k ∧ k ≤ w.heap.size + 1 + 1) ∨ some k = (Value.slice (some ⟨g, 0, none⟩) (clk.length + 1) cap).ownBlock) Try.underlying22 (w.heap.size + 1 + 1 + 1) (.slice (some ⟨gq, 0, none⟩) (adk.length + 1) capq) (adk ++ [(⟨asgV e set xvals, mlo, mhi, [xid]⟩ : Tup)]) rfl HSq.out.ad [(⟨xvals, mhi, xhi, [xid]⟩ : Tup)] #[.slice a2 nv c2v, .int .i64 mhi, .int .i64 xhi, .slice (some ⟨w5.heap.size, 0, none⟩) 1 1] (HSq.out.elem (HSq.out.oldv (HOLD _ HBq.out)) HLq.out (.inl (.inr rfl)) hgl) 1 1 rfl (show Value.slice (some ⟨w9.heap.size, 0, none⟩) 1 1 = .slice (some ⟨(w9.setCell ⟨w.heap.size + 1 + 1, 1, none⟩ (.slice (some ⟨gq, 0, none⟩) (adk.length + 1) capq)).heap.size, 0, none⟩) 1 1 by simp [World.setCell]) (by decide) (by unfold maxLen; (try simp); omega) (by show _ * 64 ≤ _; (try simp); omega) HSq.out.gdlt ?_; intro gr capr w10 hPr hPar; obtain ⟨j0r, j1r, j2r, j3r⟩ := box_two (hPr.block (fun e => by have := (HSq.out.ad.lt _ e.symm).1; omega) HSq.out.d); obtain ⟨hSr, hFr, hBr⟩ := HSq.out.pushed (Below.refl _ _) hPr (show ((adk ++ [(⟨asgV e set xvals, mlo, mhi, [xid]⟩ : Tup)]) ++ [(⟨xvals, mhi, xhi, [xid]⟩ : Tup)]).length = adk.length + 1 + 1 by simp); have HSr := Lib.hid hSr; have HVr := Lib.hid ((hFr _ (.inl (.inl (.inr rfl)))).trans HVq.out); have HPr := Lib.hid ((hFr _ (.inl (.inl (.inl (.inl rfl))))).trans HPq.out); have HRr := Lib.hid ((hFr _ (.inl (.inl (.inl (.inr rfl))))).trans HRq.out); have HLr := Lib.hid ((hFr _ (.inl (.inr rfl))).trans HLq.out); have HCr := Lib.hid ((hFr _ (.inr rfl)).trans HCq.out); have HBr : Hid (Below w.heap.size wo (w10.setCell ⟨w.heap.size + 1 + 1, 1, none⟩ (.slice (some ⟨gr, 0, none⟩) (adk.length + 1 + 1) capr))) := HBq.out.trans (hBr.mono (show w.heap.size ≤ w.heap.size + 1 + 1 by omega)); have x1r : (w10.setCell ⟨w.heap.size + 1 + 1, 1, none⟩ (.slice (some ⟨gr, 0, none⟩) (adk.length + 1 + 1) capr)).cell? ⟨wo.heap.size, 1, none⟩ = some (.slice a2 nv c2v) := cell_of HVr.out rfl; have x2r : (w10.setCell ⟨w.heap.size + 1 + 1, 1, none⟩ (.slice (some ⟨gr, 0, none⟩) (adk.length + 1 + 1) capr)).cell? ⟨wo.heap.size, 2, none⟩ = some (.int .i64 xlo) := cell_of HVr.out rfl; have x3r : (w10.setCell ⟨w.heap.size + 1 + 1, 1, none⟩ (.slice (some ⟨gr, 0, none⟩) (adk.length + 1 + 1) capr)).cell? ⟨wo.heap.size, 3, none⟩ = some (.int .i64 xhi) := cell_of HVr.out rfl; have y0r : (w10.setCell ⟨w.heap.size + 1 + 1, 1, none⟩ (.slice (some ⟨gr, 0, none⟩) (adk.length + 1 + 1) capr)).cell? ⟨w7.heap.size, 0, none⟩ = some (.int .i64 mlo) := cell_of HCr.out rfl; have y1r : (w10.setCell ⟨w.heap.size + 1 + 1, 1, none⟩ (.slice (some ⟨gr, 0, none⟩) (adk.length + 1 + 1) capr)).cell? ⟨w7.heap.size, 1, none⟩ = some (.int .i64 mhi) := cell_of HCr.out rfl; obtain ⟨dAr, dBr, dCr, dDr⟩ := box_two HSr.out.d)
              go_roundw
              case rel =>
                refine ⟨k + 1, .slice (some ⟨g, 0, none⟩) (clk.length + 1) cap, (.slice (some ⟨gr, 0, none⟩) (adk.length + 1 + 1) capr), by omega, by go_num, ?_, HPr.out, HRr.out, HB.out.trans HBr.out⟩
                have h := (HSr.out).mono (F' := fun k => k = w.heap.size ∨ k = w.heap.size + 1) (fun k hk => .inl (.inl (.inl hk)))
                rw [show (aff.take (k + 1)).map Ver.id = clk ++ [xid] by rw [take_get HX.out, List.map_append, HCLK.out]; rfl, show (aff.take (k + 1)).flatMap (partsV plo phi chg) = ((adk ++ [(⟨asgV e set xvals, mlo, mhi, [xid]⟩ : Tup)]) ++ [(⟨xvals, mhi, xhi, [xid]⟩ : Tup)]) by rw [take_get HX.out, List.flatMap_append, List.flatMap_cons, List.flatMap_nil, List.append_nil, ← HADK.out, HPV.out]; (try simp only [List.append_assoc, List.nil_append, List.cons_append])]
                exact h
              case measure => simp [intOf]; omega
            · have HPV : Hid (partsV plo phi chg ⟨xid, xvals, xlo, xhi, xrlo, xrhi⟩ = ([(⟨asgV e set xvals, mlo, mhi, [xid]⟩ : Tup)] : List Tup)) := by show _ = _; rw [HCHG.out]; unfold partsV partL partM partR; dsimp only; rw [← HMLO.out, ← HMHI.out]; simp [hc1, hc2, HMID]
              go_wp2_with fail
              go_roundw
              case rel =>
                refine ⟨k + 1, .slice (some ⟨g, 0, none⟩) (clk.length + 1) cap, (.slice (some ⟨gq, 0, none⟩) (adk.length + 1) capq), by omega, by go_num, ?_, HPq.out, HRq.out, HB.out.trans HBq.out⟩
                have h := (HSq.out).mono (F' := fun k => k = w.heap.size ∨ k = w.heap.size + 1) (fun k hk => .inl (.inl (.inl hk)))
                rw [show (aff.take (k + 1)).map Ver.id = clk ++ [xid] by rw [take_get HX.out, List.map_append, HCLK.out]; rfl, show (aff.take (k + 1)).flatMap (partsV plo phi chg) = (adk ++ [(⟨asgV e set xvals, mlo, mhi, [xid]⟩ : Tup)]) by rw [take_get HX.out, List.flatMap_append, List.flatMap_cons, List.flatMap_nil, List.append_nil, ← HADK.out, HPV.out]; (try simp only [List.append_assoc, List.append_nil, List.nil_append, List.cons_append])]
                exact h
              case measure => simp [intOf]; omega
    · have hF : aff.take k = aff := by rw [List.take_of_length_le (by rw [← HN.out]; omega)]
      rw [hF] at hS
      obtain ⟨clk, hclk⟩ : ∃ clk, clk = aff.map Ver.id := ⟨_, rfl⟩
      obtain ⟨adk, hadk⟩ : ∃ adk, adk = aff.flatMap (partsV plo phi chg) := ⟨_, rfl⟩
      rw [← hclk, ← hadk] at hS ⊢
      obtain ⟨ac, cc, rfl⟩ := hS.cl.shape
      obtain ⟨aa, ca, rfl⟩ := hS.ad.shape
      have HS := Lib.hid hS
      have HB := Lib.hid hB
      have d0 := cell_of (k := 0) hS.d rfl
      have d1 := cell_of (k := 1) hS.d rfl
      obtain ⟨r0, r1, f0, f1⟩ := box_two hr
      have hgd := hS.gdlt
      have HCF := Lib.hid hclk
      have HAF := Lib.hid hadk
      clear hS hB hp hclk hadk
      go_wp2_with fail
      refine bodyPost_ret (v := .agg #[.slice ac clk.length cc, .slice aa adk.length ca]) (by simp [results, Try.results58, go_sem, r0, r1]) rfl ⟨_, _, rfl, ?_, ?_, (HB.out.setCell (by simp) _).setCell (by simp) _⟩
      · rw [← HCF.out]
        have a1 : Own (intE.avoid fun k => k = w.heap.size + 1) ((wo.setCell ⟨w.heap.size + 1, 0, none⟩ (.slice ac clk.length cc)).setCell ⟨w.heap.size + 1, 1, none⟩ (.slice aa adk.length ca)) (w.heap.size + 1 + 1 + 1) (.slice ac clk.length cc) clk := (show Own (intE.avoid fun k => k = w.heap.size + 1) wo (w.heap.size + 1 + 1 + 1) (.slice ac clk.length cc) clk from HS.out.cl).shift (D' := fun k => k = w.heap.size + 1) (K := fun k => k = w.heap.size + 1) ((kept_set (G := fun k => k = w.heap.size + 1) (q := ⟨w.heap.size + 1, 0, none⟩) rfl).trans (kept_set (G := fun k => k = w.heap.size + 1) (q := ⟨w.heap.size + 1, 1, none⟩) rfl)) (fun k _ e => e) (fun k e e' => by have := (HS.out.cl.lt _ e).1; omega) (fun k _ e => .inl e)
        exact (show Own (intE.avoid fun k => m ≤ k ∧ k < w.heap.size) _ _ _ _ from a1.forget).slAvoid (fun k h => h) (fun k h => by omega)
      · rw [← HAF.out]
        exact (HS.out.ad.shift (D' := fun k => m ≤ k ∧ k < w.heap.size) (K := fun k => k = w.heap.size + 1) ((kept_set (G := fun k => k = w.heap.size + 1) (q := ⟨w.heap.size + 1, 0, none⟩) rfl).trans (kept_set (G := fun k => k = w.heap.size + 1) (q := ⟨w.heap.size + 1, 1, none⟩) rfl)) (fun k _ e => .inl ⟨by omega, by omega⟩) (fun k e e' => by have := (HS.out.ad.lt _ e).1; omega) (fun k _ e => .inl (.inl ⟨e.1, by omega⟩))).slAvoid (fun k h => h) (fun k h => by omega)
end Go.Proofs.Ytminnkihcohflaa
