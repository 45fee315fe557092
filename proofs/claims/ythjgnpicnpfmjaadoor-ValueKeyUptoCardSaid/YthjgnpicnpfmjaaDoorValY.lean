/- The laws of chapter 6, walked: round trip and uniqueness. Condition: the library's table and variables read as laid. -/
import Derived.Test.YthjgnpicnpfmjaaDoorValX
namespace Go.Proofs.YthjgnpicnpfmjaaDoor
open Go.RowKit

theorem fmt_len (v : GVal) (hn : In64 v.n) : (fmtG v).length ≤ 500 := by
  unfold fmtG
  split
  · rename_i h
    split
    · simp [sNull]
    · split
      · have := Lib.itoa_length_le v.n hn.1 hn.2; omega
      · split
        · split <;> simp [sTrue, sFalse]
        · rename_i h0 h1 h3
          unfold validG at h
          rw [if_neg h0, if_neg h1] at h
          split at h
          · simp only [Bool.and_eq_true, decide_eq_true_eq] at h
            have h2 := dbl2_length v.s.data.toList
            rw [← Lib.size_eq] at h2
            simp; omega
          · first
              | cases h
              | (rw [if_neg h3] at h; cases h)
  · simp
theorem mk_data (l : List UInt8) : (ByteArray.mk l.toArray).data.toList = l := by simp
theorem mk_size (l : List UInt8) : (ByteArray.mk l.toArray).size = l.length := by simp [ByteArray.size]
set_option maxHeartbeats 4000000 in
set_option maxRecDepth 100000 in
theorem vround_walk (v : GVal) (w : World) (hs : v.s.size ≤ maxLen) (hn : In64 v.n) (hT : Tabs w) : Calls Tryd.prog 6 #[aggG v] w fun e w' => e = .returned (.bool true) ∧ Below w.heap.size w w' := by
  have HT := Lib.hid hT
  have HR := Lib.hid (fun W => rvalid_any v hs W)
  have HF := Lib.hid (fun W (h : Tabs W) => vfmt_any v hs hn W h)
  have hfl := fmt_len v hn
  have HP := Lib.hid (fun W (h : Tabs W) => vparse_any ⟨(fmtG v).toArray⟩ (by rw [mk_size]; omega) W h)
  rw [mk_data] at HP
  clear hT
  cases hv : validG v with
  | false =>
    have hf : fmtG v = [] := by unfold fmtG; rw [if_neg (by rw [hv]; simp)]
    rw [hv] at HR
    rw [hf] at HF
    clear HP hfl hf hv
    obtain ⟨k, n, s⟩ := v
    unfold aggG at HR HF ⊢
    dsimp only at hs hn HR HF ⊢
    go_enter Tryd.func6, Tryd.ntmps6
    go_wp2_with fail
    refine (HR.out _).mono ?_
    rintro e w1 ⟨rfl, hb1⟩
    have HX1 := Lib.hid (box_kept (heap_alloc_new w _) hb1)
    have HB1 := Lib.hid (below_alloc2' hb1)
    have HA := Lib.hid (awake_any _ (HT.out.below HB1.out))
    clear hb1 HR
    go_wp2_with fail
    refine HA.out.mono ?_
    rintro e w2 ⟨rfl, hb2⟩
    have HX2 := Lib.hid (box_kept HX1.out hb2)
    have HB2 := Lib.hid (below_keep HB1.out hb2)
    obtain ⟨⟨x0, x1, x2⟩, _⟩ := box_three HX2.out
    have HF2 := Lib.hid (HF.out w2 (HT.out.below HB2.out))
    clear hb2 HA HF HX1
    go_wp2_with fail
    refine HF2.out.mono ?_
    rintro e w3 ⟨rfl, hb3⟩
    have HB3 := Lib.hid (below_keep HB2.out hb3)
    clear hb3 HF2
    go_wp2_with fail
    go_ret
    exact ⟨rfl, HB3.out⟩
  | true =>
    have hp := parse_fmt v hv hn
    rw [hp] at HP
    rw [hv] at HR
    obtain ⟨fl, hfe⟩ : ∃ fl, fl = fmtG v := ⟨_, rfl⟩
    rw [← hfe] at HF HP
    clear hfl hp hfe hv
    obtain ⟨k, n, s⟩ := v
    have HEQ := Lib.hid (val_eql ⟨k, n, s⟩ ⟨k, n, s⟩)
    rw [sameG_refl] at HEQ
    have hgd := val_guard
    unfold aggG at HR HF HP ⊢
    dsimp only at hs hn HR HF HP HEQ ⊢
    go_enter Tryd.func6, Tryd.ntmps6
    go_wp2_with fail
    refine (HR.out _).mono ?_
    rintro e w1 ⟨rfl, hb1⟩
    have HX1 := Lib.hid (box_kept (heap_alloc_new w _) hb1)
    have HB1 := Lib.hid (below_alloc2' hb1)
    obtain ⟨⟨x0, x1, x2⟩, _⟩ := box_three HX1.out
    have HF1 := Lib.hid (HF.out w1 (HT.out.below HB1.out))
    clear hb1 HR HF
    go_wp2_with fail
    refine HF1.out.mono ?_
    rintro e w2 ⟨rfl, hb2⟩
    have HX2 := Lib.hid (box_kept HX1.out hb2)
    have HB2 := Lib.hid (below_keep HB1.out hb2)
    have HP2 := Lib.hid (HP.out w2 (HT.out.below HB2.out))
    clear hb2 HF1 HP HX1
    go_wp2_with fail
    refine HP2.out.mono ?_
    rintro e w3 ⟨rfl, hb3⟩
    have HX3 := Lib.hid (heap_alloc_old2 (o := .cells #[.int .i64 k, .int .i64 n, .string s] 23) (box_kept HX2.out hb3))
    have HY3 := Lib.hid (vbox_cells w3 k n s)
    have HB3 := Lib.hid (below_alloc_keep (o := .cells #[.int .i64 k, .int .i64 n, .string s] 23) (below_keep HB2.out hb3))
    have HA := Lib.hid (awake_any _ (HT.out.below HB3.out))
    clear hb3 HP2 HX2
    go_wp2_with fail
    refine HA.out.mono ?_
    rintro e w4 ⟨rfl, hb4⟩
    obtain ⟨⟨x0, x1, x2⟩, _⟩ := box_three (box_kept HX3.out hb4)
    obtain ⟨⟨y0, y1, y2⟩, _⟩ := box_three (box_kept HY3.out hb4)
    have HB4 := Lib.hid (below_keep HB3.out hb4)
    have heq := HEQ.out
    clear hb4 HA HX3 HY3
    go_wp2_with fail
    go_ret
    exact ⟨rfl, HB4.out⟩
set_option maxHeartbeats 4000000 in
set_option maxRecDepth 100000 in
theorem vunique_walk (s : ByteArray) (w : World) (hs : s.size ≤ maxLen) (hT : Tabs w) : Calls Tryd.prog 7 #[.string s] w fun e w' => e = .returned (.bool true) ∧ Below w.heap.size w w' := by
  unfold maxLen at hs
  have HT := Lib.hid hT
  by_cases hl : 1000 < s.size
  · have HA := Lib.hid (awake_any w hT)
    clear hT
    go_enter Tryd.func7, Tryd.ntmps7
    go_wp2_with fail
    refine HA.out.mono ?_
    rintro e w1 ⟨rfl, hb1⟩
    have HB1 := Lib.hid hb1
    clear hb1
    go_wp2_with fail
    go_ret
    exact ⟨rfl, HB1.out⟩
  · have HP := Lib.hid (vparse_any s (by omega) w hT)
    clear hT
    obtain ⟨⟨v, er⟩, hp⟩ : ∃ p, p = parseG s.data.toList := ⟨_, rfl⟩
    rw [← hp] at HP
    by_cases he : er = 0
    · subst he
      obtain ⟨hv, hf, hn⟩ := fmt_parse s.data.toList v hp.symm
      have hvs : v.s.size ≤ maxLen := by
        unfold validG at hv
        unfold maxLen
        split at hv
        · simp only [Bool.and_eq_true, List.isEmpty_iff] at hv; rw [Lib.size_eq, hv.2]; simp
        · split at hv
          · simp only [List.isEmpty_iff] at hv; rw [Lib.size_eq, hv]; simp
          · split at hv
            · simp only [Bool.and_eq_true, decide_eq_true_eq] at hv; omega
            · split at hv
              · simp only [Bool.and_eq_true, List.isEmpty_iff] at hv; rw [Lib.size_eq, hv.2]; simp
              · cases hv
      have HV := Lib.hid (fun W => vvalid_any v hvs W)
      have HF := Lib.hid (fun W (h : Tabs W) => vfmt_any v hvs hn W h)
      rw [hv] at HV
      rw [hf, bytes_mk] at HF
      clear hp hv hf hn hvs
      obtain ⟨k, n, t⟩ := v
      unfold aggG at HP HV HF
      dsimp only at HP HV HF
      go_enter Tryd.func7, Tryd.ntmps7
      go_wp2_with fail
      refine HP.out.mono ?_
      rintro e w1 ⟨rfl, hb1⟩
      have HX1 := Lib.hid (vbox_cells w1 k n t)
      have HB1 := Lib.hid (below_alloc_keep (o := .cells #[.int .i64 k, .int .i64 n, .string t] 23) hb1)
      have HA := Lib.hid (awake_any _ (HT.out.below HB1.out))
      clear hb1 HP
      go_wp2_with fail
      refine HA.out.mono ?_
      rintro e w2 ⟨rfl, hb2⟩
      have HX2 := Lib.hid (box_kept HX1.out hb2)
      obtain ⟨⟨x0, x1, x2⟩, _⟩ := box_three HX2.out
      have HB2 := Lib.hid (below_keep HB1.out hb2)
      clear hb2 HA HX1
      go_wp2_with fail
      refine (HV.out _).mono ?_
      rintro e w3 ⟨rfl, hb3⟩
      have HX3 := Lib.hid (box_kept HX2.out hb3)
      obtain ⟨⟨x0, x1, x2⟩, _⟩ := box_three HX3.out
      have HB3 := Lib.hid (below_keep HB2.out hb3)
      have HF3 := Lib.hid (HF.out w3 (HT.out.below HB3.out))
      clear hb3 HV HF HX2
      go_wp2_with fail
      refine HF3.out.mono ?_
      rintro e w4 ⟨rfl, hb4⟩
      have HB4 := Lib.hid (below_keep HB3.out hb4)
      clear hb4 HF3 HX3
      go_wp2_with fail
      go_ret
      exact ⟨rfl, HB4.out⟩
    · have hne : (er != 0) = true := by simpa using he
      clear hp he
      obtain ⟨k, n, t⟩ := v
      unfold aggG at HP
      dsimp only at HP
      go_enter Tryd.func7, Tryd.ntmps7
      go_wp2_with fail
      refine HP.out.mono ?_
      rintro e w1 ⟨rfl, hb1⟩
      have HB1 := Lib.hid (below_alloc_keep (o := .cells #[.int .i64 k, .int .i64 n, .string t] 23) hb1)
      have HA := Lib.hid (awake_any _ (HT.out.below HB1.out))
      clear hb1 HP
      go_wp2_with fail
      refine HA.out.mono ?_
      rintro e w2 ⟨rfl, hb2⟩
      have HB2 := Lib.hid (below_keep HB1.out hb2)
      clear hb2 HA
      go_wp2_with fail
      go_ret
      exact ⟨rfl, HB2.out⟩
end Go.Proofs.YthjgnpicnpfmjaaDoor
