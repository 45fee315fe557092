/- The law SplitterTwice: splitting at some points and then at others is splitting at all of them: the walk. No condition. -/
import Derived.Test.YtminnkihcohflaaSplK
import Derived.Test.YtminnkihcohflaaSplQ
import Derived.Test.YtminnkihcohflaaElB
namespace Go.Proofs.Ytminnkihcohflaa
open Go.RowKit Go.Lib Go.Shelf

theorem few_of {l : List Tup} {m : Nat} (h : few l m = true) : l.length ≤ m ∧ ∀ t ∈ l, t.vals.length ≤ 1000 ∧ t.lin.length ≤ 1000 := by
  simp [few, small] at h
  exact ⟨h.1, fun t ht => by have := h.2 t ht; omega⟩

set_option maxHeartbeats 4000000 in
set_option maxRecDepth 100000 in
theorem twice_walk (v u1 u2 : Value) (l : List Tup) (a b : List Int) (w : World) (hv : Tups w v l) (ha : Sl intE w free u1 a) (hb : Sl intE w free u2 b) :
    Calls Try.prog 3 #[v, u1, u2] w fun e w' => e = .returned (.bool true) ∧ Below w.heap.size w w' := by
  obtain ⟨va, vc, rfl⟩ := hv.shape
  obtain ⟨a1, c1, rfl⟩ := ha.shape
  obtain ⟨a2, c2, rfl⟩ := hb.shape
  have HV := Lib.hid hv
  have HA := Lib.hid ha
  have HB := Lib.hid hb
  clear hv ha hb
  obtain ⟨n, hn⟩ : ∃ n, n = a.length := ⟨_, rfl⟩
  obtain ⟨m, hm⟩ : ∃ m, m = b.length := ⟨_, rfl⟩
  obtain ⟨t, ht⟩ : ∃ t, t = l.length := ⟨_, rfl⟩
  rw [← hn, ← hm, ← ht]
  have HF : Hid (Calls Try.prog 12 #[.slice va t vc, .int .i64 12] w fun e w' => e = .returned (.bool (few l 12)) ∧ w = w') := by
    rw [ht]; exact (few_any (.slice va l.length vc) l 12 (by omega) w HV.out).mono fun _ _ ⟨h1, h2⟩ => ⟨h1, h2.symm⟩
  have HAW := fun W => awake_any W
  by_cases hsm : few l 12 = true ∧ n ≤ 20 ∧ m ≤ 20
  · obtain ⟨hfew, hn20, hm20⟩ := hsm
    rw [hfew] at HF
    obtain ⟨hl12, hsm⟩ := few_of hfew
    rw [← ht] at hl12
    have HSM := Lib.hid hsm
    have HN := Lib.hid hn
    have HM := Lib.hid hm
    have HT := Lib.hid ht
    clear hfew hsm hn hm ht
    go_enter Try.func3, Try.ntmps3
    go_wp2_with fail
    refine HF.out.mono ?_
    rintro e w' ⟨rfl, rfl⟩
    have hA' : Sl intE w free (.slice a1 n c1) a := by rw [HN.out]; exact HA.out
    have hB' : Sl intE w free (.slice a2 m c2) b := by rw [HM.out]; exact HB.out
    have hV' : Tups w (.slice va t vc) l := by rw [HT.out]; exact HV.out
    have HA' := Lib.hid hA'
    have HB' := Lib.hid hB'
    have HV' := Lib.hid hV'
    have hal : a.length ≤ 20 := by rw [← HN.out]; exact hn20
    have hbl : b.length ≤ 20 := by rw [← HM.out]; exact hm20
    have hll : l.length ≤ 12 := by rw [← HT.out]; exact hl12
    clear hA' hB' hV'
    have hw0 : Below w.heap.size w w := Below.refl _ _
    go_wp2_with (first
      | (at_builtin; refine wpList_join rfl (.const (.slice none 0 0)) (.tmp 23) 23 rfl intE Try.underlying23 w.heap.size (.slice none 0 0) (.slice a1 n c1) [] a rfl rfl (Own.nil _ _ _) (HA'.out.clear hw0 (Own.nil intE _ _) (Nat.le_refl _)) (by unfold maxLen; simp; omega) (by show _ * 8 ≤ _; simp; omega) (Nat.le_refl _) n (by rw [HN.out]; simp) ?_; intro x1 y1 w1 hJ1)
      | (at_builtin; refine wpList_join rfl (.tmp 24) (.tmp 25) 23 rfl intE Try.underlying23 w.heap.size (.slice x1 n y1) (.slice a2 m c2) a b rfl rfl hJ1.own (HB'.out.clear hJ1.below hJ1.own (Nat.le_refl _)) (by unfold maxLen; omega) (by show _ * 8 ≤ _; omega) hJ1.below.size (n + m) (by rw [HN.out, HM.out]) ?_; intro x2 y2 w2 hJ2))
    have hb2 : Below w.heap.size w w2 := hJ1.below.trans hJ2.below
    have hlab : (a ++ b).length ≤ 40 := by rw [List.length_append]; omega
    refine (splitAt_any (.slice va t vc) (.slice x2 (n + m) y2) l (a ++ b) w2 (HV'.out.below hb2) hJ2.own.sl HSM.out (Nat.le_trans (Nat.mul_le_mul hll (Nat.succ_le_succ hlab)) (by decide)) (by omega)).mono ?_
    rintro e w3 ⟨v3, rfl, hO3, hb3⟩
    have hb3' := below_keep hb2 hb3
    have hS3 := hO3.sl
    obtain ⟨x3, y3, rfl⟩ := hS3.shape
    go_wp2_with fail
    refine (HAW _).mono ?_
    rintro e w4 ⟨rfl, hb4⟩
    have hb4' := below_keep hb3' hb4
    replace hS3 := hS3.below hb4
    go_wp2_with fail
    refine (splitAt_any (.slice va t vc) (.slice a1 n c1) l a w4 (HV'.out.below hb4') (HA'.out.below hb4') HSM.out (Nat.le_trans (Nat.mul_le_mul hll (Nat.succ_le_succ hal)) (by decide)) (by omega)).mono ?_
    rintro e w5 ⟨v5, rfl, hO5, hb5⟩
    have hb5' := below_keep hb4' hb5
    replace hS3 := hS3.below hb5
    have hS5 := hO5.sl
    obtain ⟨x5, y5, rfl⟩ := hS5.shape
    go_wp2_with fail
    refine (splitAt_any _ (.slice a2 m c2) (splitAt l a) b w5 hS5 (HB'.out.below hb5') (splitAt_small HSM.out) (Nat.le_trans (Nat.mul_le_mul (splitAt_size hll hal) (Nat.succ_le_succ hbl)) (by decide)) (by omega)).mono ?_
    rintro e w6 ⟨v6, rfl, hO6, hb6⟩
    have hb6' := below_keep hb5' hb6
    replace hS3 := hS3.below hb6
    have hS6 := hO6.sl
    obtain ⟨x6, y6, rfl⟩ := hS6.shape
    go_wp2_with fail
    refine (sameTups_any _ _ _ _ w6 hS6 hS3).mono ?_
    rw [splitAt_twice, sameTups_refl]
    rintro e w7 ⟨rfl, hb7⟩
    have hb7' := below_keep hb6' hb7
    replace hS3 := hS3.below hb7
    go_wp2_with fail
    refine (splitAt_any (.slice va t vc) (.slice a2 m c2) l b w7 (HV'.out.below hb7') (HB'.out.below hb7') HSM.out (Nat.le_trans (Nat.mul_le_mul hll (Nat.succ_le_succ hbl)) (by decide)) (by omega)).mono ?_
    rintro e w8 ⟨v8, rfl, hO8, hb8⟩
    have hb8' := below_keep hb7' hb8
    replace hS3 := hS3.below hb8
    have hS8 := hO8.sl
    obtain ⟨x8, y8, rfl⟩ := hS8.shape
    go_wp2_with fail
    refine (splitAt_any _ (.slice a1 n c1) (splitAt l b) a w8 hS8 (HA'.out.below hb8') (splitAt_small HSM.out) (Nat.le_trans (Nat.mul_le_mul (splitAt_size hll hbl) (Nat.succ_le_succ hal)) (by decide)) (by omega)).mono ?_
    rintro e w9 ⟨v9, rfl, hO9, hb9⟩
    have hb9' := below_keep hb8' hb9
    replace hS3 := hS3.below hb9
    have hS9 := hO9.sl
    obtain ⟨x9, y9, rfl⟩ := hS9.shape
    go_wp2_with fail
    refine (sameTups_any _ _ _ _ w9 hS9 hS3).mono ?_
    rw [splitAt_twice, splitAt_congr l (b ++ a) (a ++ b) (fun x => by simp [or_comm]), sameTups_refl]
    rintro e w10 ⟨rfl, hb10⟩
    have hb10' := below_keep hb9' hb10
    replace hS3 := hS3.below hb10
    go_wp2_with fail
    go_ret
    exact ⟨rfl, hb10'⟩
  · have HSM : Hid (few l 12 = true → n ≤ 20 → ¬ m ≤ 20) := fun h1 h2 h3 => hsm ⟨h1, h2, h3⟩
    clear hsm hn hm ht
    cases hfew : few l 12
    · rw [hfew] at HF
      clear hfew
      go_enter Try.func3, Try.ntmps3
      go_wp2_with fail
      refine HF.out.mono ?_
      rintro e w' ⟨rfl, rfl⟩
      go_wp2_with fail
      refine (HAW _).mono ?_
      rintro e w1 ⟨rfl, hb1⟩
      go_wp2_with fail
      go_ret
      exact ⟨rfl, hb1⟩
    · rw [hfew] at HF
      have HSM2 := fun h => HSM.out hfew h
      clear hfew
      by_cases h20 : n ≤ 20
      · have h21 := HSM2 h20
        clear HSM2
        go_enter Try.func3, Try.ntmps3
        go_wp2_with fail
        refine HF.out.mono ?_
        rintro e w' ⟨rfl, rfl⟩
        go_wp2_with fail
        refine (HAW _).mono ?_
        rintro e w1 ⟨rfl, hb1⟩
        go_wp2_with fail
        go_ret
        exact ⟨rfl, hb1⟩
      · clear HSM2
        go_enter Try.func3, Try.ntmps3
        go_wp2_with fail
        refine HF.out.mono ?_
        rintro e w' ⟨rfl, rfl⟩
        go_wp2_with fail
        refine (HAW _).mono ?_
        rintro e w1 ⟨rfl, hb1⟩
        go_wp2_with fail
        go_ret
        exact ⟨rfl, hb1⟩
end Go.Proofs.Ytminnkihcohflaa
