/- The definition's Format of a value. No condition beside that the string's size is a machine's. -/
import Derived.Test.YthjgnpicnpfmjaaDoorValG
namespace Go.Proofs.YthjgnpicnpfmjaaDoor
open Go.RowKit

theorem dbl2_snoc (l : List UInt8) (c : UInt8) : dbl2 (l ++ [c]) = dbl2 l ++ (if c = 39 then [39, 39] else [c]) := by
  induction l with
  | nil => by_cases h : c = 39 <;> simp [dbl2, h]
  | cons d l ih => by_cases h : d = 39 <;> simp [dbl2, h, ih]
theorem take_byte (s : ByteArray) (k : Nat) (h : k < s.size) : s.data.toList.take (k + 1) = s.data.toList.take k ++ [s[k]] := by
  rw [List.take_succ_eq_append_getElem (by simpa using h)]; rfl
theorem byte_is (w : World) (G : Nat → Prop) (c : UInt8) : byteE.is w G c [.int .u8 (c.toNat : Int)] := rfl
set_option maxHeartbeats 4000000 in
set_option maxRecDepth 100000 in
theorem rfmt_text (n : Int) (s : ByteArray) (hv : validG ⟨2, n, s⟩ = true) (w : World) :
    Calls Tryd.prog 17 #[.agg #[.int .i64 2, .int .i64 n, .string s]] w fun e w' => e = .returned (.string ⟨(39 :: (dbl2 s.data.toList ++ [39])).toArray⟩) ∧ Below w.heap.size w w' := by
  have hsz : s.size ≤ 200 := by
    have := hv
    simp [validG] at this
    exact this.2
  have HV := Lib.hid (fun W => rvalid_any ⟨2, n, s⟩ (by unfold maxLen; dsimp only; omega) W)
  unfold aggG at HV
  dsimp only at HV
  rw [hv] at HV
  clear hv
  go_enter Tryd.func17, Tryd.ntmps17
  go_wp2_with fail
  refine (HV.out _).mono ?_
  rintro e w1 ⟨rfl, hb1⟩
  have bx := box_kept (heap_alloc_new w _) hb1
  have hB1 := below_alloc2' hb1
  have hz1 : w.heap.size + 1 ≤ w1.heap.size := by have := hb1.size; simpa using this
  obtain ⟨⟨d0, d1, d2⟩, f0, f1, f2⟩ := box_three bx
  have HBX := Lib.hid bx
  have HB1 := Lib.hid hB1
  clear hb1 bx hB1 HV
  go_wp2_with fail
  go_loopw [3, 4] (fun v j wr => ∃ q : Nat, q ≤ s.size ∧ j = .int .i64 (q : Int) ∧ Hid (Own byteE wr (w.heap.size + 1) v (39 :: dbl2 (s.data.toList.take q))) ∧ Hid (Below (w.heap.size + 1) w1 wr)) (fun _ j _ => s.size - (intOf j).toNat)
  case atStart => exact ⟨0, Nat.zero_le _, rfl, Lib.hid (byte_lit w1 (w.heap.size + 1) 39 hz1), Lib.hid ((Below.refl _ _).alloc hz1 _)⟩
  case round =>
    obtain ⟨q, hq, rfl, HO, HB⟩ := hrel
    obtain ⟨wo, rfl⟩ : ∃ wo : World, wo = wr := ⟨_, rfl⟩
    obtain ⟨oa, oc, rfl⟩ := HO.out.shape
    obtain ⟨acc, hacc⟩ : ∃ acc, acc = (39 :: dbl2 (s.data.toList.take q) : List UInt8) := ⟨_, rfl⟩
    rw [← hacc] at HO ⊢
    have hal : acc.length ≤ 401 := by
      rw [hacc]
      have h1 := dbl2_length (s.data.toList.take q)
      have h2 : (s.data.toList.take q).length ≤ q := List.length_take_le _ _
      simp; omega
    obtain ⟨⟨c0, c1, c2⟩, _⟩ := box_three ((HB.out.block _ (by omega)).trans HBX.out)
    have hzo := HB.out.size
    have hbz : w.heap.size + 1 ≤ wo.heap.size := by omega
    have HA := Lib.hid hacc
    clear hacc d0 d1 d2 f0 f1 f2
    by_cases hlt : q < s.size
    · by_cases h39 : s[q].toNat = 39
      · have hc39 : s[q] = 39 := UInt8.toNat_inj.1 (by rw [h39]; rfl)
        have HN : Hid (39 :: dbl2 (s.data.toList.take (q + 1)) = (acc ++ [39]) ++ [s[q]]) := by
          show _ = _
          rw [take_byte s q hlt, dbl2_snoc, if_pos hc39, HA.out, hc39]; simp
        have h39' : ((s[q].toNat : Int) == 39) = true := by rw [beq_iff_eq]; omega
        have HC := Lib.hid hc39
        clear hc39 h39
        go_wp2_with (first
          | (at_builtin; refine wpList_push rfl _ _ 48 rfl byteE Tryd.underlying48 (w.heap.size + 1) (.slice oa acc.length oc) acc rfl HO.out [39] #[.int .u8 39] (Els.one (byte_is _ _ 39)) 1 1 rfl rfl (by decide) (by unfold maxLen; omega) (by show _ * 1 ≤ _; omega) hbz ?_; intro g cap w5 hP hPa; have c2' := (hP.below.cell (p := ⟨w.heap.size, 2, none⟩) (Nat.lt_succ_self _)).trans c2; have HP5 := Lib.hid hP; have hz5 := Nat.le_trans hbz hP.below.size; clear hP hPa)
          | (at_builtin; refine wpList_push rfl _ _ 48 rfl byteE Tryd.underlying48 (w.heap.size + 1) (.slice (some ⟨g, 0, none⟩) (acc.length + 1) cap) (acc ++ [39]) rfl (HP5.out.own' (by simp)) [s[q]] #[.int .u8 (s[q].toNat : Int)] (Els.one (byte_is _ _ _)) 1 1 rfl rfl (by decide) (by unfold maxLen; simp; omega) (by show _ * 1 ≤ _; simp; omega) hz5 ?_; intro g6 cap6 w6 hP6 hPa6))
        have HO6 : Hid (Own byteE w6 (w.heap.size + 1) (.slice (some ⟨g6, 0, none⟩) (acc.length + 1 + 1) cap6) (39 :: dbl2 (s.data.toList.take (q + 1)))) := by
          rw [HN.out]; exact Lib.hid (hP6.own' (by simp))
        have HB6 := Lib.hid ((HB.out.trans HP5.out.below).trans hP6.below)
        clear hP6 hPa6 HP5
        go_roundw
        case rel => exact ⟨q + 1, by omega, by go_num, HO6, HB6⟩
        case measure => simp [intOf]; omega
      · have hc39 : s[q] ≠ 39 := fun e => h39 (by rw [e]; rfl)
        have HN : Hid (39 :: dbl2 (s.data.toList.take (q + 1)) = acc ++ [s[q]]) := by
          show _ = _
          rw [take_byte s q hlt, dbl2_snoc, if_neg hc39, HA.out]; simp
        have h39' : ((s[q].toNat : Int) == 39) = false := by rw [beq_eq_false_iff_ne]; omega
        clear hc39 h39
        go_wp2_with (at_builtin; refine wpList_push rfl _ _ 48 rfl byteE Tryd.underlying48 (w.heap.size + 1) (.slice oa acc.length oc) acc rfl HO.out [s[q]] #[.int .u8 (s[q].toNat : Int)] (Els.one (byte_is _ _ _)) 1 1 rfl rfl (by decide) (by unfold maxLen; omega) (by show _ * 1 ≤ _; omega) hbz ?_; intro g6 cap6 w6 hP6 hPa6)
        have HO6 : Hid (Own byteE w6 (w.heap.size + 1) (.slice (some ⟨g6, 0, none⟩) (acc.length + 1) cap6) (39 :: dbl2 (s.data.toList.take (q + 1)))) := by
          rw [HN.out]; exact Lib.hid (hP6.own' (by simp))
        have HB6 := Lib.hid (HB.out.trans hP6.below)
        clear hP6 hPa6
        go_roundw
        case rel => exact ⟨q + 1, by omega, by go_num, HO6, HB6⟩
        case measure => simp [intOf]; omega
    · have hqs : q = s.size := by omega
      have HF : Hid (acc ++ [39] = 39 :: (dbl2 s.data.toList ++ [39])) := by
        show _ = _
        rw [HA.out, List.take_of_length_le (by rw [← Lib.size_eq]; omega)]; simp
      go_wp2_with (at_builtin; refine wpList_push rfl _ _ 48 rfl byteE Tryd.underlying48 (w.heap.size + 1) (.slice oa acc.length oc) acc rfl HO.out [39] #[.int .u8 39] (Els.one (byte_is _ _ 39)) 1 1 rfl rfl (by decide) (by unfold maxLen; omega) (by show _ * 1 ≤ _; omega) hbz ?_; intro g6 cap6 w6 hP6 hPa6; have hcv := bytes_convert (hP6.own' (n := acc.length + 1) (by simp)))
      have HB6 := Lib.hid ((HB1.out.trans ((HB.out.trans hP6.below).mono (Nat.le_succ _))))
      clear hP6 hPa6
      go_ret
      rw [HF.out]
      exact ⟨rfl, HB6.out⟩
end Go.Proofs.YthjgnpicnpfmjaaDoor
