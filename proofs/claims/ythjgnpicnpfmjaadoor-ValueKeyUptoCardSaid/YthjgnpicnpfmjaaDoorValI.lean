/- The definition's Format of a value, whole. No condition beside that the string's size is a machine's. -/
import Derived.Test.YthjgnpicnpfmjaaDoorValH
namespace Go.Proofs.YthjgnpicnpfmjaaDoor
open Go.RowKit

set_option maxHeartbeats 4000000 in
theorem rfmt_any (v : GVal) (hs : v.s.size ≤ maxLen) (hn : In64 v.n) (w : World) :
    Calls Tryd.prog 17 #[aggG v] w fun e w' => e = .returned (.string ⟨(fmtG v).toArray⟩) ∧ Below w.heap.size w w' := by
  have HV := Lib.hid (fun W => rvalid_any v hs W)
  obtain ⟨r, hr⟩ : ∃ r, r = validG v := ⟨_, rfl⟩
  obtain ⟨o, ho⟩ : ∃ o, o = fmtG v := ⟨_, rfl⟩
  rw [← ho]
  have HR := Lib.hid hr
  have HO := Lib.hid ho
  rw [← hr] at HV
  clear hr ho
  obtain ⟨k, n, s⟩ := v
  dsimp only at hs hn
  unfold aggG at HV ⊢
  dsimp only at HV ⊢
  cases r
  · have HO' : Hid (o = []) := by show _ = _; rw [HO.out, fmtG, if_neg (by rw [← HR.out]; simp)]
    go_enter Tryd.func17, Tryd.ntmps17
    go_wp2_with fail
    refine (HV.out _).mono ?_
    rintro e w1 ⟨rfl, hb1⟩
    have HB1 := Lib.hid (below_alloc2' hb1)
    clear hb1
    go_wp2_with fail
    go_ret
    rw [HO'.out]
    exact ⟨rfl, HB1.out⟩
  · have hv : validG ⟨k, n, s⟩ = true := HR.out.symm
    have hk : k = 0 ∨ k = 1 ∨ k = 2 ∨ k = 3 := by
      unfold validG at hv
      dsimp only at hv
      by_cases h0 : k = 0
      · exact .inl h0
      · by_cases h1 : k = 1
        · exact .inr (.inl h1)
        · by_cases h2 : k = 2
          · exact .inr (.inr (.inl h2))
          · by_cases h3 : k = 3
            · exact .inr (.inr (.inr h3))
            · rw [if_neg h0, if_neg h1, if_neg h2, if_neg h3] at hv; cases hv
    have HO1 : Hid (o = if k = 0 then sNull else if k = 1 then Lib.itoa n else if k = 3 then (if n = 1 then sTrue else sFalse) else 39 :: (dbl2 s.data.toList ++ [39])) := by
      show _ = _
      rw [HO.out, fmtG, if_pos hv]
    have HVV := Lib.hid hv
    clear HO hv
    rcases hk with rfl | rfl | rfl | rfl
    · have HO2 : Hid (o = sNull) := by show _ = _; rw [HO1.out]; rfl
      clear HO1
      go_enter Tryd.func17, Tryd.ntmps17
      go_wp2_with fail
      refine (HV.out _).mono ?_
      rintro e w1 ⟨rfl, hb1⟩
      have HB1 := Lib.hid (below_alloc2' hb1)
      obtain ⟨⟨d0, d1, d2⟩, f0, f1, f2⟩ := box_three (box_kept (heap_alloc_new w _) hb1)
      clear hb1
      go_wp2_with fail
      go_ret
      rw [HO2.out]
      exact ⟨rfl, HB1.out⟩
    · have HO2 : Hid (o = Lib.itoa n) := by show _ = _; rw [HO1.out]; rfl
      clear HO1
      go_enter Tryd.func17, Tryd.ntmps17
      go_wp2_with fail
      refine (HV.out _).mono ?_
      rintro e w1 ⟨rfl, hb1⟩
      have HB1 := Lib.hid (below_alloc2' hb1)
      obtain ⟨⟨d0, d1, d2⟩, f0, f1, f2⟩ := box_three (box_kept (heap_alloc_new w _) hb1)
      have HF := Lib.hid (decimal_any n hn w1)
      clear hb1
      go_wp2_with fail
      refine HF.out.mono ?_
      rintro e w2 ⟨rfl, hb2⟩
      have HB2 := Lib.hid (below_keep HB1.out hb2)
      clear hb2
      go_wp2_with fail
      go_ret
      rw [HO2.out]
      exact ⟨rfl, HB2.out⟩
    · have HO2 : Hid (o = 39 :: (dbl2 s.data.toList ++ [39])) := by show _ = _; rw [HO1.out]; rfl
      rw [HO2.out]
      exact rfmt_text n s HVV.out w
    · have hnn : n = 0 ∨ n = 1 := by
        have := HVV.out
        simp [validG] at this
        exact this.1
      rcases hnn with rfl | rfl
      · have HO2 : Hid (o = sFalse) := by show _ = _; rw [HO1.out]; rfl
        clear HO1
        go_enter Tryd.func17, Tryd.ntmps17
        go_wp2_with fail
        refine (HV.out _).mono ?_
        rintro e w1 ⟨rfl, hb1⟩
        have HB1 := Lib.hid (below_alloc2' hb1)
        obtain ⟨⟨d0, d1, d2⟩, f0, f1, f2⟩ := box_three (box_kept (heap_alloc_new w _) hb1)
        clear hb1
        go_wp2_with fail
        go_ret
        rw [HO2.out]
        exact ⟨rfl, HB1.out⟩
      · have HO2 : Hid (o = sTrue) := by show _ = _; rw [HO1.out]; rfl
        clear HO1
        go_enter Tryd.func17, Tryd.ntmps17
        go_wp2_with fail
        refine (HV.out _).mono ?_
        rintro e w1 ⟨rfl, hb1⟩
        have HB1 := Lib.hid (below_alloc2' hb1)
        obtain ⟨⟨d0, d1, d2⟩, f0, f1, f2⟩ := box_three (box_kept (heap_alloc_new w _) hb1)
        clear hb1
        go_wp2_with fail
        go_ret
        rw [HO2.out]
        exact ⟨rfl, HB1.out⟩
end Go.Proofs.YthjgnpicnpfmjaaDoor
