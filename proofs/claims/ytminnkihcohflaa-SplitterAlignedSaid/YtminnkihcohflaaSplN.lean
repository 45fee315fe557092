/- The law SplitterAligned: after aligning two relations with both of them, pieces that overlap have equal periods: the walk. No condition. -/
import Derived.Test.YtminnkihcohflaaSplM
import Derived.Test.YtminnkihcohflaaAliP
namespace Go.Proofs.Ytminnkihcohflaa
open Go.RowKit Go.Lib Go.Shelf

theorem per_neq_same {a b c d : Int} (h : a = c ∧ b = d) (W : World) :
    (binOp .neq 31 (.agg #[.int .i64 a, .int .i64 b]) (.agg #[.int .i64 c, .int .i64 d])).run Try.prog W = .ok (.bool false) W := by
  rw [per_neq]; simp [h]
set_option maxHeartbeats 8000000 in
set_option maxRecDepth 100000 in
theorem aligned_walk (v u : Value) (x y : List U5) (w : World) (hv : Sl u5E w free v x) (hu : Sl u5E w free u y) (hx : ∀ t ∈ x, t.ok) (hy : ∀ t ∈ y, t.ok) :
    Calls Try.prog 9 #[v, u] w fun e w' => e = .returned (.bool true) ∧ Below w.heap.size w w' := by
  obtain ⟨va, vc, rfl⟩ := hv.shape
  obtain ⟨ua, uc, rfl⟩ := hu.shape
  have HTA := Lib.hid (tuples_any _ x 10 (by omega) w hv hx)
  have HTB := fun W (hb : Below w.heap.size w W) => Lib.hid (tuples_any _ y 10 (by omega) W (hu.below hb) hy)
  obtain ⟨a, ha⟩ : ∃ a, a = tupsOf x 10 := ⟨_, rfl⟩
  obtain ⟨b, hb⟩ : ∃ b, b = tupsOf y 10 := ⟨_, rfl⟩
  have hla : a.length ≤ 10 := by rw [ha]; exact tupsOf_length x 10
  have hlb : b.length ≤ 10 := by rw [hb]; exact tupsOf_length y 10
  have HSA : Hid (∀ t ∈ a, t.vals.length ≤ 1000 ∧ t.lin.length ≤ 1000) := by rw [ha]; exact Lib.hid (tupsOf_small x 10)
  have HSB : Hid (∀ t ∈ b, t.vals.length ≤ 1000 ∧ t.lin.length ≤ 1000) := by rw [hb]; exact Lib.hid (tupsOf_small y 10)
  have HVA : Hid (∀ t ∈ a, pvalid t.lo t.hi = true) := by rw [ha]; exact Lib.hid (tupsOf_valid x 10)
  have HVB : Hid (∀ t ∈ b, pvalid t.lo t.hi = true) := by rw [hb]; exact Lib.hid (tupsOf_valid y 10)
  rw [← ha] at HTA
  rw [← hb] at HTB
  have HAW := fun W => awake_any W
  obtain ⟨nx, hnx⟩ : ∃ n, n = x.length := ⟨_, rfl⟩
  obtain ⟨ny, hny⟩ : ∃ n, n = y.length := ⟨_, rfl⟩
  rw [← hnx] at HTA ⊢
  rw [← hny] at HTB ⊢
  clear ha hb hv hu hx hy hnx hny
  go_enter Try.func9, Try.ntmps9
  go_wp2_with fail
  refine HTA.out.mono ?_
  rintro e w1 ⟨v1, rfl, hO1, hb1⟩
  have hS1 := hO1.sl
  obtain ⟨a1, c1, rfl⟩ := hS1.shape
  have HS1 := Lib.hid hS1
  clear hO1 hS1
  go_wp2_with fail
  refine (HTB w1 hb1).out.mono ?_
  rintro e w2 ⟨v2, rfl, hO2, hb2⟩
  have hS2 := hO2.sl
  obtain ⟨a2, c2, rfl⟩ := hS2.shape
  have HS2 := Lib.hid hS2
  have hb2' := below_keep hb1 hb2
  have HS12 := Lib.hid (HS1.out.below hb2)
  clear hO2 hS2
  have hw2 := Below.refl w2.heap.size w2
  go_wp2_with (first
    | (at_builtin; refine wpList_join rfl (.const (.slice none 0 0)) (.tmp 18) 22 rfl tupE Try.underlying22 w2.heap.size (.slice none 0 0) (.slice a1 a.length c1) [] a rfl rfl (Own.nil _ _ _) (HS12.out.clear hw2 (Own.nil tupE _ _) (Nat.le_refl _)) (by unfold maxLen; simp; omega) (by show _ * 64 ≤ _; simp; omega) (Nat.le_refl _) a.length (by simp) ?_; intro x1 y1 w3 hJ1)
    | (at_builtin; refine wpList_join rfl (.tmp 19) (.tmp 20) 22 rfl tupE Try.underlying22 w2.heap.size (.slice x1 a.length y1) (.slice a2 b.length c2) a b rfl rfl hJ1.own (HS2.out.clear hJ1.below hJ1.own (Nat.le_refl _)) (by unfold maxLen; omega) (by show _ * 64 ≤ _; omega) hJ1.below.size (a.length + b.length) rfl ?_; intro x2 y2 w4 hJ2))
  have hb4 : Below w2.heap.size w2 w4 := hJ1.below.trans hJ2.below
  have HSA4 := Lib.hid (HS12.out.below hb4)
  have HSB4 := Lib.hid (HS2.out.below hb4)
  have HAB := Lib.hid hJ2.own.sl
  have hb4' := below_keep hb2' hb4
  have hlab : (a ++ b).length ≤ 20 := by rw [List.length_append]; omega
  have hbd := bnds_length (a ++ b)
  have hsz : ∀ l : List Tup, l.length ≤ 10 → l.length * ((a ++ b).length * 2 + 1) ≤ 1000000000 := fun l hl => Nat.le_trans (Nat.mul_le_mul hl (Nat.succ_le_succ (Nat.mul_le_mul_right 2 hlab))) (by decide)
  have HSZ := Lib.hid hsz
  clear hJ1 hJ2 hw2 hb4 hsz
  refine (align_any (.slice a1 a.length c1) (.slice x2 (a.length + b.length) y2) a (a ++ b) w4 HSA4.out HAB.out HSA.out (HSZ.out a hla) (by omega)).mono ?_
  rintro e w5 ⟨v5, rfl, hO5, hb5⟩
  have hS5 := hO5.sl
  obtain ⟨p, hp⟩ : ∃ p, p = splitAt a (bnds (a ++ b)) := ⟨_, rfl⟩
  rw [← hp] at hS5
  obtain ⟨a5, c5, rfl⟩ := hS5.shape
  have HP := Lib.hid hp
  have hpl : a.length ≤ p.length := by rw [hp]; exact splitAt_longer a _ HVA.out
  have hb5' := below_keep hb4' hb5
  have HS5 := Lib.hid hS5
  clear hO5 hS5 hp
  go_wp2_with fail
  refine (align_any (.slice a2 b.length c2) (.slice x2 (a.length + b.length) y2) b (a ++ b) w5 (HSB4.out.below hb5) (HAB.out.below hb5) HSB.out (HSZ.out b hlb) (by omega)).mono ?_
  rintro e w6 ⟨v6, rfl, hO6, hb6⟩
  have hS6 := hO6.sl
  obtain ⟨q, hq⟩ : ∃ q, q = splitAt b (bnds (a ++ b)) := ⟨_, rfl⟩
  rw [← hq] at hS6
  obtain ⟨a6, c6, rfl⟩ := hS6.shape
  have HQ := Lib.hid hq
  have hql : b.length ≤ q.length := by rw [hq]; exact splitAt_longer b _ HVB.out
  have hb6' := below_keep hb5' hb6
  have HS6 := Lib.hid hS6
  have HS56 := Lib.hid (HS5.out.below hb6)
  have HAL : Hid (∀ s ∈ p, ∀ t ∈ q, s.lo < t.hi → t.lo < s.hi → s.lo = t.lo ∧ s.hi = t.hi) := by
    rw [HP.out, hq]; exact Lib.hid (fun s hs t ht h1 h2 => aligned a b s t hs ht h1 h2)
  have h63 := HS56.out.1
  have h64 := HS6.out.1
  obtain ⟨n, hn⟩ : ∃ n, n = p.length := ⟨_, rfl⟩
  obtain ⟨m, hm⟩ : ∃ m, m = q.length := ⟨_, rfl⟩
  rw [← hn] at HS56 hpl h63 ⊢
  rw [← hm] at HS6 hql h64 ⊢
  have HN := Lib.hid hn
  have HM := Lib.hid hm
  have hgd := per_guard
  clear hS6 hO6 hq hn hm
  go_wp2_with fail
  go_loopw [30] (fun i wr => ∃ k : Nat, k ≤ n ∧ i = .int .i64 k ∧ Below w6.heap.size w6 wr) (fun i _ => n - (intOf i).toNat)
  case atStart => exact ⟨0, Nat.zero_le _, rfl, Below.refl _ _⟩
  case round =>
    obtain ⟨k, hk, rfl, hB⟩ := hrel
    obtain ⟨wo, rfl⟩ : ∃ wo : World, wo = wr := ⟨_, rfl⟩
    by_cases hlt : k < n
    · obtain ⟨s, hs⟩ := lget_some p k (by rw [← HN.out]; exact hlt)
      obtain ⟨bs, os, s1, s2, s3, s4, rfl, _, _, g0, g1, g2, g3⟩ := tups_at HS56.out hs
      replace g0 := cell_keep hB g0
      replace g1 := cell_keep hB g1
      replace g2 := cell_keep hB g2
      replace g3 := cell_keep hB g3
      have HSP := Lib.hid (List.mem_of_getElem? hs)
      clear hs
      obtain ⟨nb, hnb⟩ : ∃ nb, nb = wo.heap.size := ⟨_, rfl⟩
      have hbx := World.alloc_heap_new wo (.cells #[.slice s1 s.vals.length s2, .int .i64 s.lo, .int .i64 s.hi, .slice s3 s.lin.length s4] 67)
      have HBX := Lib.hid hbx
      clear hbx hnb
      go_wp2_with fail
      go_loopw [36] (fun i wr => ∃ j : Nat, j ≤ m ∧ i = .int .i64 j ∧ wr.heap[wo.heap.size]? = some (.cells #[.slice s1 s.vals.length s2, .int .i64 s.lo, .int .i64 s.hi, .slice s3 s.lin.length s4] 67) ∧ Below w6.heap.size w6 wr) (fun i _ => m - (intOf i).toNat)
      case atStart => exact ⟨0, Nat.zero_le _, rfl, HBX.out, below_alloc_keep hB⟩
      case round =>
        obtain ⟨j, hj, rfl, hbx, hB2⟩ := hrel
        obtain ⟨wp, rfl⟩ : ∃ wp : World, wp = wr := ⟨_, rfl⟩
        have HBX2 := Lib.hid hbx
        have hlo : wo.heap.size < wp.heap.size := (Array.getElem?_eq_some_iff.1 hbx).1
        obtain ⟨⟨e0, e1, e2, e3⟩, _⟩ := box_four hbx
        clear hbx
        by_cases hlt2 : j < m
        · obtain ⟨t, ht⟩ := lget_some q j (by rw [← HM.out]; exact hlt2)
          obtain ⟨bt, ot, t1, t2, t3, t4, rfl, _, _, k0, k1, k2, k3⟩ := tups_at HS6.out ht
          replace k0 := cell_keep hB2 k0
          replace k1 := cell_keep hB2 k1
          replace k2 := cell_keep hB2 k2
          replace k3 := cell_keep hB2 k3
          have hst := HAL.out s HSP.out t (List.mem_of_getElem? ht)
          clear ht
          have HBX3 := Lib.hid (box_kept HBX2.out (below_alloc wp (.cells #[.slice t1 t.vals.length t2, .int .i64 t.lo, .int .i64 t.hi, .slice t3 t.lin.length t4] 67)))
          by_cases h1 : s.lo < t.hi
          · by_cases h2 : t.lo < s.hi
            · have heq := per_neq_same (hst h1 h2)
              clear hst
              go_wp2_with fail
              go_roundw
              case rel => exact ⟨j + 1, by omega, by go_num, HBX3.out, below_alloc_keep hB2⟩
              case measure => simp [intOf]; omega
            · clear hst
              go_wp2_with fail
              go_roundw
              case rel => exact ⟨j + 1, by omega, by go_num, HBX3.out, below_alloc_keep hB2⟩
              case measure => simp [intOf]; omega
          · clear hst
            go_wp2_with fail
            go_roundw
            case rel => exact ⟨j + 1, by omega, by go_num, HBX3.out, below_alloc_keep hB2⟩
            case measure => simp [intOf]; omega
        · go_wp2_with fail
          go_roundw
          case rel => exact ⟨k + 1, by omega, by go_num, hB2⟩
          case measure => simp [intOf]; omega
    · go_wp2_with fail
      refine (HAW _).mono ?_
      rintro e w7 ⟨rfl, hb7⟩
      go_wp2_with fail
      go_ret
      exact ⟨rfl, below_keep (below_keep hb6' hB) hb7⟩
end Go.Proofs.Ytminnkihcohflaa
