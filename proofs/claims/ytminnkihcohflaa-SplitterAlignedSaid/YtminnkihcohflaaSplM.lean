/- The law SplitterSplit: SplitAt and Align agree with the definition: the walk. No condition. -/
import Derived.Test.YtminnkihcohflaaBnd
import Derived.Test.YtminnkihcohflaaSplL
namespace Go.Proofs.Ytminnkihcohflaa
open Go.RowKit Go.Lib Go.Shelf

theorem few_call {va : Option Addr} {vc n m : Nat} {l : List Tup} {w : World} (hv : Tups w (.slice va n vc) l) (hm : m ≤ 1000) :
    Calls Try.prog 12 #[.slice va n vc, .int .i64 m] w fun e w' => e = .returned (.bool (few l m)) ∧ w = w' :=
  (few_any (.slice va n vc) l m hm w hv).mono fun _ _ ⟨h1, h2⟩ => ⟨h1, h2.symm⟩

set_option maxHeartbeats 4000000 in
set_option maxRecDepth 100000 in
theorem split_walk (v u p : Value) (l m : List Tup) (ps : List Int) (w : World) (hv : Tups w v l) (hu : Tups w u m) (hp : Sl intE w free p ps) :
    Calls Try.prog 8 #[v, u, p] w fun e w' => e = .returned (.bool true) ∧ Below w.heap.size w w' := by
  obtain ⟨va, vc, rfl⟩ := hv.shape
  obtain ⟨ua, uc, rfl⟩ := hu.shape
  obtain ⟨pa, pc, rfl⟩ := hp.shape
  have HFa := Lib.hid (few_call (m := 20) hv (by omega))
  have HFb := Lib.hid (few_call (m := 20) hu (by omega))
  have HV := Lib.hid hv
  have HU := Lib.hid hu
  have HP := Lib.hid hp
  obtain ⟨n1, hn1⟩ : ∃ n, n = l.length := ⟨_, rfl⟩
  obtain ⟨n2, hn2⟩ : ∃ n, n = m.length := ⟨_, rfl⟩
  obtain ⟨n3, hn3⟩ : ∃ n, n = ps.length := ⟨_, rfl⟩
  rw [← hn1] at HFa HV ⊢
  rw [← hn2] at HFb HU ⊢
  rw [← hn3] at HP ⊢
  have HAW := fun W => awake_any W
  clear hv hu hp
  cases ha : few l 20
  · rw [ha] at HFa
    clear hn1 hn2 hn3 ha
    go_enter Try.func8, Try.ntmps8
    go_wp2_with fail
    refine HFa.out.mono ?_
    rintro e w' ⟨rfl, rfl⟩
    go_wp2_with fail
    refine (HAW _).mono ?_
    rintro e w1 ⟨rfl, hb1⟩
    go_wp2_with fail
    go_ret
    exact ⟨rfl, hb1⟩
  · cases hb : few m 20
    · rw [ha] at HFa
      rw [hb] at HFb
      clear hn1 hn2 hn3 ha hb
      go_enter Try.func8, Try.ntmps8
      go_wp2_with fail
      refine HFa.out.mono ?_
      rintro e w' ⟨rfl, rfl⟩
      go_wp2_with fail
      refine HFb.out.mono ?_
      rintro e w' ⟨rfl, rfl⟩
      go_wp2_with fail
      refine (HAW _).mono ?_
      rintro e w1 ⟨rfl, hb1⟩
      go_wp2_with fail
      go_ret
      exact ⟨rfl, hb1⟩
    · by_cases h40 : n3 ≤ 40
      · obtain ⟨hl20, hsm⟩ := few_of ha
        obtain ⟨hm20, hsm2⟩ := few_of hb
        have hp40 : ps.length ≤ 40 := by omega
        have HSM := Lib.hid hsm
        have hlm : l.length * (m.length * 2 + 1) ≤ 1000000000 := Nat.le_trans (Nat.mul_le_mul hl20 (Nat.succ_le_succ (Nat.mul_le_mul_right 2 hm20))) (by decide)
        have hlp : l.length * (ps.length + 1) ≤ 1000000000 := Nat.le_trans (Nat.mul_le_mul hl20 (Nat.succ_le_succ hp40)) (by decide)
        have hlb : l.length * ((refBnd m).length + 1) ≤ 1000000000 := Nat.le_trans (Nat.mul_le_mul hl20 (Nat.succ_le_succ (Nat.le_trans (refBnd_length m) (Nat.mul_le_mul_right 2 hm20)))) (by decide)
        have hrb := refBnd_length m
        rw [ha] at HFa
        rw [hb] at HFb
        clear hn1 hn2 hn3 ha hb hsm hsm2
        go_enter Try.func8, Try.ntmps8
        go_wp2_with fail
        refine HFa.out.mono ?_
        rintro e w' ⟨rfl, rfl⟩
        go_wp2_with fail
        refine HFb.out.mono ?_
        rintro e w' ⟨rfl, rfl⟩
        go_wp2_with fail
        refine (HAW _).mono ?_
        rintro e w1 ⟨rfl, hb1⟩
        go_wp2_with fail
        refine (splitAt_any (.slice va n1 vc) (.slice pa n3 pc) l ps w1 (HV.out.below hb1) (HP.out.below hb1) HSM.out hlp (by omega)).mono ?_
        rintro e w2 ⟨v2, rfl, hO2, hb2⟩
        have hb2' := below_keep hb1 hb2
        have hS2 := hO2.sl
        obtain ⟨x2, y2, rfl⟩ := hS2.shape
        go_wp2_with fail
        refine (refSplit_any (.slice va n1 vc) (.slice pa n3 pc) l ps w2 (HV.out.below hb2') (HP.out.below hb2') hlp (by omega)).mono ?_
        rintro e w3 ⟨v3, rfl, hO3, hb3⟩
        have hb3' := below_keep hb2' hb3
        have hS3 := hO3.sl
        obtain ⟨x3, y3, rfl⟩ := hS3.shape
        go_wp2_with fail
        refine (sameTups_any _ _ _ _ w3 (hS2.below hb3) hS3).mono ?_
        rw [refSplit_eq, sameTups_refl]
        rintro e w4 ⟨rfl, hb4⟩
        have hb4' := below_keep hb3' hb4
        go_wp2_with fail
        refine (align_any (.slice va n1 vc) (.slice ua n2 uc) l m w4 (HV.out.below hb4') (HU.out.below hb4') HSM.out hlm (by omega)).mono ?_
        rintro e w5 ⟨v5, rfl, hO5, hb5⟩
        have hb5' := below_keep hb4' hb5
        have hS5 := hO5.sl
        obtain ⟨x5, y5, rfl⟩ := hS5.shape
        go_wp2_with fail
        refine (refBnd_any (.slice ua n2 uc) m w5 (HU.out.below hb5') (by omega)).mono ?_
        rintro e w6 ⟨v6, rfl, hO6, hb6⟩
        have hb6' := below_keep hb5' hb6
        have hS6 := hO6.sl
        obtain ⟨x6, y6, rfl⟩ := hS6.shape
        go_wp2_with fail
        refine (refSplit_any (.slice va n1 vc) _ l (refBnd m) w6 (HV.out.below hb6') hS6 hlb (by omega)).mono ?_
        rintro e w7 ⟨v7, rfl, hO7, hb7⟩
        have hb7' := below_keep hb6' hb7
        have hS7 := hO7.sl
        obtain ⟨x7, y7, rfl⟩ := hS7.shape
        go_wp2_with fail
        refine (sameTups_any _ _ _ _ w7 ((hS5.below hb6).below hb7) hS7).mono ?_
        rw [refSplit_eq, splitAt_congr l (bnds m) (refBnd m) (fun x => by rw [bnds_mem, refBnd_mem]), sameTups_refl]
        rintro e w8 ⟨rfl, hb8⟩
        have hb8' := below_keep hb7' hb8
        go_wp2_with fail
        go_ret
        exact ⟨rfl, hb8'⟩
      · rw [ha] at HFa
        rw [hb] at HFb
        clear hn1 hn2 hn3 ha hb
        go_enter Try.func8, Try.ntmps8
        go_wp2_with fail
        refine HFa.out.mono ?_
        rintro e w' ⟨rfl, rfl⟩
        go_wp2_with fail
        refine HFb.out.mono ?_
        rintro e w' ⟨rfl, rfl⟩
        go_wp2_with fail
        refine (HAW _).mono ?_
        rintro e w1 ⟨rfl, hb1⟩
        go_wp2_with fail
        go_ret
        exact ⟨rfl, hb1⟩
end Go.Proofs.Ytminnkihcohflaa
