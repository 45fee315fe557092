/- The law ValueCompare, walked. Condition: the library's table and variables read as laid. -/
import Derived.Test.YthjgnpicnpfmjaaDoorValZ
namespace Go.Proofs.YthjgnpicnpfmjaaDoor
open Go.RowKit

set_option maxHeartbeats 8000000 in
set_option maxRecDepth 100000 in
theorem vcompare_walk (a b : GVal) (w : World) (hs : a.s.size ≤ maxLen) (hn : In64 a.n) (hT : Tabs w) : Calls Tryd.prog 3 #[aggG a, aggG b] w fun e w' => e = .returned (.bool true) ∧ Below w.heap.size w w' := by
  have HT := Lib.hid hT
  have HV := Lib.hid (fun W => vvalid_any a hs W)
  have HVR := Lib.hid (fun W => rvalid_any a hs W)
  have HC := Lib.hid (fun W => valCmp_any a b W)
  have HCR := Lib.hid (fun W => cmpG_any a b W)
  have HF := Lib.hid (fun W (h : Tabs W) => vfmt_any a hs hn W h)
  have HFR := Lib.hid (fun W => rfmt_any a hs hn W)
  obtain ⟨r, hr⟩ : ∃ r, r = validG a := ⟨_, rfl⟩
  obtain ⟨x, hx⟩ : ∃ x, x = cmpG a b := ⟨_, rfl⟩
  obtain ⟨f, hf⟩ : ∃ f, f = fmtG a := ⟨_, rfl⟩
  rw [← hr] at HV HVR
  rw [← hx] at HC HCR
  rw [← hf] at HF HFR
  clear hT hr hx hf
  obtain ⟨k1, n1, s1⟩ := a
  obtain ⟨k2, n2, s2⟩ := b
  unfold aggG at HV HVR HC HF HFR ⊢
  dsimp only at HV HVR HC HCR HF HFR hs hn ⊢
  cases r
  all_goals
    go_enter Tryd.func3, Tryd.ntmps3
    go_wp2_with fail
    have HX1 : Hid (((w.alloc (.cells #[.int .i64 k1, .int .i64 n1, .string s1] 23)).alloc (.cells #[.int .i64 k2, .int .i64 n2, .string s2] 23)).heap[w.heap.size]? = some (.cells #[.int .i64 k1, .int .i64 n1, .string s1] 23)) := heap_alloc_old' w _ _
    have HX2 : Hid (((w.alloc (.cells #[.int .i64 k1, .int .i64 n1, .string s1] 23)).alloc (.cells #[.int .i64 k2, .int .i64 n2, .string s2] 23)).heap[w.heap.size + 1]? = some (.cells #[.int .i64 k2, .int .i64 n2, .string s2] 23)) := heap_alloc_new' w _ _
    have HB0 : Hid (Below w.heap.size w ((w.alloc (.cells #[.int .i64 k1, .int .i64 n1, .string s1] 23)).alloc (.cells #[.int .i64 k2, .int .i64 n2, .string s2] 23))) := below_alloc_two w _ _
    generalize (w.alloc (.cells #[.int .i64 k1, .int .i64 n1, .string s1] 23)).alloc (.cells #[.int .i64 k2, .int .i64 n2, .string s2] 23) = W0 at HX1 HX2 HB0 ⊢
    have hB : Below W0.heap.size W0 W0 := Below.refl _ _
    have HTW : Hid (∀ W, Below W0.heap.size W0 W → Tabs W) := fun W h => HT.out.below (below_tr2 HB0.out h)
    obtain ⟨a0, a1, a2⟩ := box3 HX1.out hB
    obtain ⟨b0, b1, b2⟩ := box3 HX2.out hB
    go_region_held3 (fun W => Below W0.heap.size W0 W ∧ W.cell? ⟨w.heap.size, 0, none⟩ = some (.int .i64 k1) ∧ W.cell? ⟨w.heap.size, 1, none⟩ = some (.int .i64 n1) ∧ W.cell? ⟨w.heap.size, 2, none⟩ = some (.string s1)
        ∧ W.cell? ⟨w.heap.size + 1, 0, none⟩ = some (.int .i64 k2) ∧ W.cell? ⟨w.heap.size + 1, 1, none⟩ = some (.int .i64 n2) ∧ W.cell? ⟨w.heap.size + 1, 2, none⟩ = some (.string s2))
      ((go_split_ands; refine ⟨?_, ?_, ?_, ?_, ?_, ?_, ?_⟩ <;> first | (with_reducible assumption) | with_reducible exact Below.drew (by assumption) | with_reducible exact cell_drew (by assumption) | with_reducible exact below_keep (by assumption) (by assumption) | with_reducible exact cell_keep (by assumption) (by assumption)))
      (first
        | (go_at_call 11; go_split_ands; refine (awake_any _ (HTW.out _ (by first | assumption | exact Below.drew (by assumption)))).mono ?_; rintro e w' ⟨rfl, hb⟩)
        | (go_at_call 12; with_reducible refine (HV.out _).mono ?_; rintro e w' ⟨rfl, hb⟩)
        | (go_at_call 13; with_reducible refine (HVR.out _).mono ?_; rintro e w' ⟨rfl, hb⟩)
        | (go_at_call 14; with_reducible refine (HC.out _).mono ?_; rintro e w' ⟨rfl, hb⟩)
        | (go_at_call 15; with_reducible refine (HCR.out _).mono ?_; rintro e w' ⟨rfl, hb⟩)
        | (go_at_call 16; go_split_ands; refine (HF.out _ (HTW.out _ (by first | assumption | exact Below.drew (by assumption)))).mono ?_; rintro e w' ⟨rfl, hb⟩)
        | (go_at_call 17; with_reducible refine (HFR.out _).mono ?_; rintro e w' ⟨rfl, hb⟩))
    rename_i hH
    have HBW := Lib.hid hH.1
    clear hH hb hB a0 a1 a2 b0 b1 b2
    go_wp2_with fail
    go_ret
    exact ⟨rfl, below_tr2 HB0.out HBW.out⟩
end Go.Proofs.YthjgnpicnpfmjaaDoor
