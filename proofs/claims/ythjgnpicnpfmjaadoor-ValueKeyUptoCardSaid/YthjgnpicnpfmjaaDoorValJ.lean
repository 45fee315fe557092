/- The definition's look for a numeral. No condition beside that the text's length is a machine's. -/
import Derived.Test.YthjgnpicnpfmjaaDoorValI
namespace Go.Proofs.YthjgnpicnpfmjaaDoor
open Go.RowKit

/-- The number, whether it is one, whether the text has the form. -/
def rnumG (l : List UInt8) : Int × Bool × Bool :=
  if numForm l = true then (match numOf l with | some n => (n, true, true) | none => (0, false, true)) else (0, false, false)
def RNum (l : List UInt8) (e : Ending) : Prop := e = .returned (.tuple #[.int .i64 (rnumG l).1, .bool (rnumG l).2.1, .bool (rnumG l).2.2])
/-- The last test of the definition's number. -/
def badNum (neg : Bool) (t : ByteArray) : Bool :=
  (decide (1 < t.size) && t.data.toList.head? == some 48) || (neg && t.data.toList == [48]) || !(refNum t.data.toList).2 || decide (9223372036854775808 < (refNum t.data.toList).1) || ((refNum t.data.toList).1 == 9223372036854775808 && !neg)
theorem badNum_none {l : List UInt8} {t : ByteArray} (ht : t.data.toList = digitsOf l) (hf : numForm l = true) (hb : badNum (hasMinus l) t = true) : rnumG l = (0, false, true) := by
  have hd : (digitsOf l).all digB = true := by simp only [numForm, Bool.and_eq_true] at hf; exact hf.2
  have hn : numOf l = none := by
    unfold numOf
    rw [if_neg]
    rintro ⟨h1, h2, h3, h4⟩
    rw [← ht] at h1 h2 h3 h4 hd
    simp only [badNum, Bool.or_eq_true, Bool.and_eq_true, decide_eq_true_eq, beq_iff_eq, Bool.not_eq_true'] at hb
    rcases hb with (((⟨a, b⟩ | ⟨a, b⟩) | a) | a) | ⟨a, b⟩
    · simp only [canon, Bool.or_eq_true, decide_eq_true_eq, bne_iff_ne, ne_eq] at h1
      rw [← Lib.size_eq] at h1
      rcases h1 with h1 | h1
      · omega
      · exact h1 b
    · exact h2 ⟨a, b⟩
    · have := refNum_big hd a; omega
    · cases hr : (refNum t.data.toList).2 with
      | true => have := refNum_fits hd hr; omega
      | false => have := refNum_big hd hr; omega
    · cases hr : (refNum t.data.toList).2 with
      | true => have := refNum_fits hd hr; rw [h4 (by omega)] at b; cases b
      | false => have := refNum_big hd hr; omega
  rw [rnumG, if_pos hf, hn]
theorem badNum_some {l : List UInt8} {t : ByteArray} (ht : t.data.toList = digitsOf l) (hf : numForm l = true) (hb : badNum (hasMinus l) t = false) :
    rnumG l = ((if hasMinus l then -((refNum t.data.toList).1 : Int) else (refNum t.data.toList).1), true, true) ∧ (refNum t.data.toList).1 ≤ 9223372036854775808 ∧ ((refNum t.data.toList).1 = 9223372036854775808 → hasMinus l = true) := by
  have hd : (digitsOf l).all digB = true := by simp only [numForm, Bool.and_eq_true] at hf; exact hf.2
  rw [← ht] at hd
  simp only [badNum, Bool.or_eq_false_iff, Bool.and_eq_false_iff, decide_eq_false_iff_not, beq_eq_false_iff_ne, Bool.not_eq_false', ne_eq] at hb
  obtain ⟨⟨⟨⟨h1, h2⟩, h3⟩, h4⟩, h5⟩ := hb
  obtain ⟨h6, h7⟩ := refNum_fits hd h3
  have h8 : (refNum t.data.toList).1 = 9223372036854775808 → hasMinus l = true := fun e => by
    rcases h5 with h5 | h5
    · exact absurd e h5
    · exact h5
  refine ⟨?_, by omega, h8⟩
  have hc : canon t.data.toList = true := by
    simp only [canon, Bool.or_eq_true, decide_eq_true_eq, bne_iff_ne, ne_eq]
    rw [← Lib.size_eq]
    rcases h1 with h1 | h1
    · exact .inl (by omega)
    · exact .inr h1
  have hq : ¬ (hasMinus l = true ∧ t.data.toList = [48]) := by
    rintro ⟨a, b⟩
    rcases h2 with h2 | h2
    · rw [a] at h2; cases h2
    · exact h2 b
  have hn : numOf l = some (if hasMinus l then -(natFrom 0 (digitsOf l) : Int) else natFrom 0 (digitsOf l)) := by
    unfold numOf
    rw [← ht, if_pos ⟨hc, hq, by omega, fun e => h8 (by omega)⟩]
  rw [rnumG, if_pos hf, hn, h6, ht]
theorem refNum_take (t : ByteArray) (k : Nat) (h : k < t.size) : refNum (t.data.toList.take (k + 1)) = refStep (refNum (t.data.toList.take k)) t[k] := by
  rw [take_byte t k h, refNum, List.foldl_append]; rfl
theorem ret3 {a b : Int} (h : a = b) : Ending.returned (.tuple #[.int .i64 a, .bool true, .bool true]) = Ending.returned (.tuple #[.int .i64 b, .bool true, .bool true]) := by rw [h]
theorem neg_back (u : Nat) (h : u ≤ 9223372036854775808) : wrap64 (IntKind.u64.wrap (-(u : Int))) = -(u : Int) := by
  rw [u64_mod]; unfold wrap64; omega
theorem neg_top (u : Nat) (h : (u : Int) = 9223372036854775808) : wrap64 (IntKind.u64.wrap (-9223372036854775808)) = -(u : Int) := by
  rw [h, u64_mod]; unfold wrap64; omega
theorem pos_back (u : Nat) (h : u < 9223372036854775808) : wrap64 (u : Int) = (u : Int) := by
  unfold wrap64; omega
set_option maxHeartbeats 8000000 in
set_option maxRecDepth 100000 in
theorem rnumber_any (s : ByteArray) (hs : s.size ≤ maxLen) (w : World) :
    Calls Tryd.prog 33 #[.string s] w fun e w' => RNum s.data.toList e ∧ w = w' := by
  unfold maxLen at hs
  by_cases h0 : s.size = 0
  · have hs0 : s = ⟨#[]⟩ := by
      have := Lib.size_eq s
      exact bytes_nil (List.length_eq_zero_iff.1 (by omega))
    subst hs0
    clear hs h0
    go_enter Tryd.func33, Tryd.ntmps33
    go_wp2_with fail
    go_ret3
    exact ⟨rfl, rfl⟩
  · have h0' : 0 < s.size := by omega
    have hh : hasMinus s.data.toList = (s[0] == 45) := by
      unfold hasMinus
      rw [← List.drop_zero (l := s.data.toList), drop_byte s 0 h0', List.head?_cons]; rfl
    have hs2 : s.size ≤ 9223372036854775807 := by omega
    by_cases hmin : s[0].toNat = 45
    · have HM : Hid (hasMinus s.data.toList = true) := by
        show _ = _
        rw [hh, show s[0] = 45 from UInt8.toNat_inj.1 (by rw [hmin]; rfl)]; rfl
      have HDG : Hid ((s.extract 1 s.size).data.toList = digitsOf s.data.toList) := by
        show _ = _
        unfold digitsOf
        rw [if_pos HM.out]
        rw [ByteArray.data_extract, Array.toList_extract]
        have h1 := Lib.size_eq s
        rw [List.extract_eq_take_drop, List.take_of_length_le (by rw [List.length_drop]; omega)]
      have HTS : Hid ((s.extract 1 s.size).size ≤ 9223372036854775807) := by show _ ≤ _; rw [ByteArray.size_extract]; omega
      clear hh hs h0
      cases hE : (s.extract 1 s.size).data.toList.isEmpty
      · have HT0 : Hid (0 < (s.extract 1 s.size).size) := by
          show 0 < _
          rw [Lib.size_eq]
          exact List.length_pos_iff.2 (fun e => by rw [e] at hE; cases hE)
        have HNE : Hid ((s.extract 1 s.size).data.toList.isEmpty = false) := Lib.hid hE
        have hE' : (s.extract 1 s.size).toList.isEmpty = false := by rw [tl_data]; exact hE
        clear hE
        go_enter Tryd.func33, Tryd.ntmps33
        go_wp2_with fail
        have ht := HDG.out
        generalize s.extract 1 s.size = t at ht HTS HT0 HNE hE' ⊢
        clear HDG
        have HT := Lib.hid ht
        have hts : t.size ≤ 9223372036854775807 := HTS.out
        clear ht
        go_loopw [7, 8, 9] (fun u f i wr => wr = w ∧ ∃ k : Nat, k ≤ t.size ∧ i = .int .i64 (k : Int) ∧ u = .int .u64 ((refNum (t.data.toList.take k)).1 : Int) ∧ f = .bool (refNum (t.data.toList.take k)).2 ∧ Hid ((t.data.toList.take k).all digB = true)) (fun _ _ i _ => t.size - (intOf i).toNat)
        case atStart => exact ⟨rfl, 0, Nat.zero_le _, rfl, rfl, rfl, Lib.hid rfl⟩
        case round =>
          obtain ⟨rfl, k, hk, rfl, rfl, rfl, HD⟩ := hrel
          obtain ⟨x, hx⟩ : ∃ x, x = refNum (t.data.toList.take k) := ⟨_, rfl⟩
          have HX := Lib.hid hx
          have HLE := Lib.hid (refNum_le _ HD.out)
          rw [← hx] at HLE ⊢
          clear hx
          obtain ⟨u, f⟩ := x
          dsimp only at HLE ⊢
          by_cases hlt : k < t.size
          · have HS := Lib.hid (refNum_take t k hlt)
            rw [← HX.out] at HS
            by_cases hdg : 48 ≤ t[k].toNat ∧ t[k].toNat ≤ 57
            · obtain ⟨h1, h2⟩ := hdg
              have HD' : Hid ((t.data.toList.take (k + 1)).all digB = true) := by
                show _ = _
                rw [take_byte t k hlt, List.all_append, HD.out]; simp [digB, h1, h2]
              by_cases hbig : 922337203685477580 < u
              · have HS' : Hid (refNum (t.data.toList.take (k + 1)) = (u, false)) := by show _ = _; rw [HS.out, refStep, if_pos hbig]
                have hbig' : (922337203685477580 : Int) < (u : Int) := by omega
                clear hbig
                go_wp2_with fail
                go_roundw
                case rel => exact ⟨trivial, k + 1, by omega, by go_num, by rw [HS'.out], by rw [HS'.out], HD'⟩
                case measure => simp [intOf]; omega
              · have HS' : Hid (refNum (t.data.toList.take (k + 1)) = (u * 10 + (t[k].toNat - 48), f)) := by show _ = _; rw [HS.out, refStep, if_neg hbig]
                have hbig' : (u : Int) ≤ 922337203685477580 := by omega
                have hbig2 : ¬ (922337203685477580 : Int) < (u : Int) := by omega
                clear hbig
                go_wp2_with fail
                go_roundw
                case rel => exact ⟨trivial, k + 1, by omega, by go_num, by rw [HS'.out]; go_num, by rw [HS'.out], HD'⟩
                case measure => simp [intOf]; omega
            · have HF : Hid (rnumG s.data.toList = (0, false, false)) := by
                show _ = _
                have hb : digB t[k] = false := by simp [digB]; omega
                have hf : numForm s.data.toList = false := by
                  unfold numForm
                  rw [← HT.out]
                  have : t.data.toList.all digB = false := by
                    rw [List.all_eq_false]
                    refine ⟨t[k], ?_, by rw [hb]; simp⟩
                    have := drop_byte t k hlt
                    exact List.mem_of_mem_drop (by rw [this]; simp : t[k] ∈ t.data.toList.drop k)
                  rw [this]; simp
                rw [rnumG, if_neg (by rw [hf]; simp)]
              clear HX HLE HS
              by_cases h1 : t[k].toNat < 48
              · clear hdg
                go_wp2_with fail
                go_ret3
                refine ⟨?_, rfl⟩
                rw [RNum, HF.out]; rfl
              · have h2 : 57 < t[k].toNat := by omega
                clear hdg
                go_wp2_with fail
                go_ret3
                refine ⟨?_, rfl⟩
                rw [RNum, HF.out]; rfl
          · have hkt : k = t.size := by omega
            subst hkt
            have HXF : Hid ((u, f) = refNum t.data.toList) := by
              show _ = _
              rw [HX.out, List.take_of_length_le (by rw [← Lib.size_eq]; exact Nat.le_refl _)]
            have HALL : Hid (numForm s.data.toList = true) := by
              show _ = _
              have := HD.out
              rw [List.take_of_length_le (by rw [← Lib.size_eq]; exact Nat.le_refl _)] at this
              unfold numForm
              rw [← HT.out, this, HNE.out]; rfl
            obtain ⟨m, hm⟩ : ∃ m, m = hasMinus s.data.toList := ⟨_, rfl⟩
            have HMV : Hid (m = true) := by show _ = _; rw [hm, HM.out]
            have HMM := Lib.hid hm
            clear hm
            have hhd : t.data.toList.head? = some t[0] := by rw [← List.drop_zero (l := t.data.toList), drop_byte t 0 HT0.out]; rfl
            have HBD : Hid (badNum m t = true ↔ (1 < t.size ∧ t[0].toNat = 48) ∨ (m = true ∧ t.toList = [48]) ∨ f = false ∨ 9223372036854775808 < u ∨ (u = 9223372036854775808 ∧ m = false)) := by
              show _ ↔ _
              unfold badNum
              rw [← HXF.out, hhd, tl_data]
              have h48 : (some t[0] == some (48 : UInt8)) = decide (t[0].toNat = 48) := by
                by_cases h : t[0] = 48
                · rw [h]; rfl
                · have : ¬ t[0].toNat = 48 := fun e => h (UInt8.toNat_inj.1 (by rw [e]; rfl))
                  simp [h, this]
              rw [h48]
              simp only [Bool.or_eq_true, Bool.and_eq_true, decide_eq_true_eq, beq_iff_eq, Bool.not_eq_true', or_assoc]
            have HBN : Hid (badNum m t = true → rnumG s.data.toList = (0, false, true)) := fun h => badNum_none HT.out HALL.out (by rw [← HMM.out]; exact h)
            have HBS : Hid (badNum m t = false → rnumG s.data.toList = ((if m then -(u : Int) else u), true, true) ∧ u ≤ 9223372036854775808 ∧ (u = 9223372036854775808 → m = true)) := fun h => by
              have h1 := badNum_some HT.out HALL.out (by rw [← HMM.out]; exact h)
              rw [← HXF.out, ← HMM.out] at h1
              exact h1
            have ht0 : 0 < t.size := HT0.out
            clear HX HLE HD hhd HXF
            go_wp2_with fail
            all_goals go_ret3
            all_goals refine ⟨?_, rfl⟩
            all_goals unfold RNum
            all_goals
              first
                | (have hb : badNum m t = true := by
                     refine HBD.out.2 ?_
                     first
                       | (refine .inl ⟨?_, ?_⟩ <;> omega)
                       | (refine .inr (.inl ⟨HMV.out, ?_⟩); assumption)
                       | (refine .inr (.inr (.inl ?_)); assumption)
                       | (refine .inr (.inr (.inl ?_)); (simp_all; done))
                       | (refine .inr (.inr (.inr (.inl ?_))); omega)
                       | (refine .inr (.inr (.inr (.inr ⟨?_, HMV.out⟩))); omega)
                   rw [HBN.out hb]; rfl)
                | (exfalso
                   simp_all
                   done)
                | (exfalso
                   simp_all
                   omega)
                | (have hb : badNum m t = false := by
                     refine Bool.eq_false_iff.2 (fun h => ?_)
                     have hmv := HMV.out
                     rcases HBD.out.1 h with ⟨a, b⟩ | ⟨a, b⟩ | a | a | ⟨a, b⟩ <;> first | omega | contradiction | (simp_all; done)
                   obtain ⟨h1, h2, h3⟩ := HBS.out hb
                   have hmv := HMV.out
                   rw [h1, hmv]
                   first
                     | exact ret3 (neg_back u h2)
                     | exact ret3 (neg_top u (by omega))
                     | exact ret3 (pos_back u (by rcases Nat.lt_or_ge u 9223372036854775808 with h4 | h4; exact h4; exact absurd ((h3 (by omega)).symm.trans hmv) (by decide)))
                     | exact ret3 rfl)
      · have HF : Hid (rnumG s.data.toList = (0, false, false)) := by
          show _ = _
          have hf : numForm s.data.toList = false := by
            unfold numForm
            rw [← HDG.out, hE]; rfl
          rw [rnumG, if_neg (by rw [hf]; simp)]
        have hE' : (s.extract 1 s.size).toList.isEmpty = true := by rw [tl_data]; exact hE
        clear hE
        go_enter Tryd.func33, Tryd.ntmps33
        go_wp2_with fail
        go_ret3
        refine ⟨?_, rfl⟩
        rw [RNum, HF.out]; rfl
    · have hmb : ((s[0].toNat : Int) == 45) = false := by rw [beq_eq_false_iff_ne]; omega
      have HM : Hid (hasMinus s.data.toList = false) := by
        show _ = _
        rw [hh, beq_eq_false_iff_ne]
        exact fun e => hmin (by rw [e]; rfl)
      have ht : s.data.toList = digitsOf s.data.toList := by
        unfold digitsOf
        rw [HM.out]; rfl
      have HTS : Hid (s.size ≤ 9223372036854775807) := Lib.hid hs2
      have HT0 : Hid (0 < s.size) := Lib.hid h0'
      have hE : s.data.toList.isEmpty = false := by
        cases hl : s.data.toList with
        | nil => have h9 := Lib.size_eq s; rw [hl] at h9; exact absurd h9 (by show ¬ s.size = 0; omega)
        | cons _ _ => rfl
      have HNE : Hid (s.data.toList.isEmpty = false) := Lib.hid hE
      have hE' : s.toList.isEmpty = false := by rw [tl_data]; exact hE
      clear hh hs h0 hE hs2 hmin
      have HHT := Lib.hid ht
      clear ht
      go_enter Tryd.func33, Tryd.ntmps33
      go_wp2_with fail
      have ht := HHT.out
      clear HHT
      have HT := Lib.hid ht
      have hts : s.size ≤ 9223372036854775807 := HTS.out
      clear ht
      go_loopw [7, 8, 9] (fun u f i wr => wr = w ∧ ∃ k : Nat, k ≤ s.size ∧ i = .int .i64 (k : Int) ∧ u = .int .u64 ((refNum (s.data.toList.take k)).1 : Int) ∧ f = .bool (refNum (s.data.toList.take k)).2 ∧ Hid ((s.data.toList.take k).all digB = true)) (fun _ _ i _ => s.size - (intOf i).toNat)
      case atStart => exact ⟨rfl, 0, Nat.zero_le _, rfl, rfl, rfl, Lib.hid rfl⟩
      case round =>
        obtain ⟨rfl, k, hk, rfl, rfl, rfl, HD⟩ := hrel
        obtain ⟨x, hx⟩ : ∃ x, x = refNum (s.data.toList.take k) := ⟨_, rfl⟩
        have HX := Lib.hid hx
        have HLE := Lib.hid (refNum_le _ HD.out)
        rw [← hx] at HLE ⊢
        clear hx
        obtain ⟨u, f⟩ := x
        dsimp only at HLE ⊢
        by_cases hlt : k < s.size
        · have HS := Lib.hid (refNum_take s k hlt)
          rw [← HX.out] at HS
          by_cases hdg : 48 ≤ s[k].toNat ∧ s[k].toNat ≤ 57
          · obtain ⟨h1, h2⟩ := hdg
            have HD' : Hid ((s.data.toList.take (k + 1)).all digB = true) := by
              show _ = _
              rw [take_byte s k hlt, List.all_append, HD.out]; simp [digB, h1, h2]
            by_cases hbig : 922337203685477580 < u
            · have HS' : Hid (refNum (s.data.toList.take (k + 1)) = (u, false)) := by show _ = _; rw [HS.out, refStep, if_pos hbig]
              have hbig' : (922337203685477580 : Int) < (u : Int) := by omega
              clear hbig
              go_wp2_with fail
              go_roundw
              case rel => exact ⟨trivial, k + 1, by omega, by go_num, by rw [HS'.out], by rw [HS'.out], HD'⟩
              case measure => simp [intOf]; omega
            · have HS' : Hid (refNum (s.data.toList.take (k + 1)) = (u * 10 + (s[k].toNat - 48), f)) := by show _ = _; rw [HS.out, refStep, if_neg hbig]
              have hbig' : (u : Int) ≤ 922337203685477580 := by omega
              have hbig2 : ¬ (922337203685477580 : Int) < (u : Int) := by omega
              clear hbig
              go_wp2_with fail
              go_roundw
              case rel => exact ⟨trivial, k + 1, by omega, by go_num, by rw [HS'.out]; go_num, by rw [HS'.out], HD'⟩
              case measure => simp [intOf]; omega
          · have HF : Hid (rnumG s.data.toList = (0, false, false)) := by
              show _ = _
              have hb : digB s[k] = false := by simp [digB]; omega
              have hf : numForm s.data.toList = false := by
                unfold numForm
                rw [← HT.out]
                have : s.data.toList.all digB = false := by
                  rw [List.all_eq_false]
                  refine ⟨s[k], ?_, by rw [hb]; simp⟩
                  have := drop_byte s k hlt
                  exact List.mem_of_mem_drop (by rw [this]; simp : s[k] ∈ s.data.toList.drop k)
                rw [this]; simp
              rw [rnumG, if_neg (by rw [hf]; simp)]
            clear HX HLE HS
            by_cases h1 : s[k].toNat < 48
            · clear hdg
              go_wp2_with fail
              go_ret3
              refine ⟨?_, rfl⟩
              rw [RNum, HF.out]; rfl
            · have h2 : 57 < s[k].toNat := by omega
              clear hdg
              go_wp2_with fail
              go_ret3
              refine ⟨?_, rfl⟩
              rw [RNum, HF.out]; rfl
        · have hkt : k = s.size := by omega
          subst hkt
          have HXF : Hid ((u, f) = refNum s.data.toList) := by
            show _ = _
            rw [HX.out, List.take_of_length_le (by rw [← Lib.size_eq]; exact Nat.le_refl _)]
          have HALL : Hid (numForm s.data.toList = true) := by
            show _ = _
            have := HD.out
            rw [List.take_of_length_le (by rw [← Lib.size_eq]; exact Nat.le_refl _)] at this
            unfold numForm
            rw [← HT.out, this, HNE.out]; rfl
          obtain ⟨m, hm⟩ : ∃ m, m = hasMinus s.data.toList := ⟨_, rfl⟩
          have HMV : Hid (m = false) := by show _ = _; rw [hm, HM.out]
          have HMM := Lib.hid hm
          clear hm
          have hhd : s.data.toList.head? = some s[0] := by rw [← List.drop_zero (l := s.data.toList), drop_byte s 0 HT0.out]; rfl
          have HBD : Hid (badNum m s = true ↔ (1 < s.size ∧ s[0].toNat = 48) ∨ (m = true ∧ s.toList = [48]) ∨ f = false ∨ 9223372036854775808 < u ∨ (u = 9223372036854775808 ∧ m = false)) := by
            show _ ↔ _
            unfold badNum
            rw [← HXF.out, hhd, tl_data]
            have h48 : (some s[0] == some (48 : UInt8)) = decide (s[0].toNat = 48) := by
              by_cases h : s[0] = 48
              · rw [h]; rfl
              · have : ¬ s[0].toNat = 48 := fun e => h (UInt8.toNat_inj.1 (by rw [e]; rfl))
                simp [h, this]
            rw [h48]
            simp only [Bool.or_eq_true, Bool.and_eq_true, decide_eq_true_eq, beq_iff_eq, Bool.not_eq_true', or_assoc]
          have HBN : Hid (badNum m s = true → rnumG s.data.toList = (0, false, true)) := fun h => badNum_none HT.out HALL.out (by rw [← HMM.out]; exact h)
          have HBS : Hid (badNum m s = false → rnumG s.data.toList = ((if m then -(u : Int) else u), true, true) ∧ u ≤ 9223372036854775808 ∧ (u = 9223372036854775808 → m = true)) := fun h => by
            have h1 := badNum_some HT.out HALL.out (by rw [← HMM.out]; exact h)
            rw [← HXF.out, ← HMM.out] at h1
            exact h1
          have ht0 : 0 < s.size := HT0.out
          clear HX HLE HD hhd HXF
          go_wp2_with fail
          all_goals go_ret3
          all_goals refine ⟨?_, rfl⟩
          all_goals unfold RNum
          all_goals
            first
              | (have hb : badNum m s = true := by
                   refine HBD.out.2 ?_
                   first
                     | (refine .inl ⟨?_, ?_⟩ <;> omega)
                     | (refine .inr (.inl ⟨HMV.out, ?_⟩); assumption)
                     | (refine .inr (.inr (.inl ?_)); assumption)
                     | (refine .inr (.inr (.inl ?_)); (simp_all; done))
                     | (refine .inr (.inr (.inr (.inl ?_))); omega)
                     | (refine .inr (.inr (.inr (.inr ⟨?_, HMV.out⟩))); omega)
                 rw [HBN.out hb]; rfl)
              | (exfalso
                 simp_all
                 done)
              | (exfalso
                 simp_all
                 omega)
              | (have hb : badNum m s = false := by
                   refine Bool.eq_false_iff.2 (fun h => ?_)
                   have hmv := HMV.out
                   rcases HBD.out.1 h with ⟨a, b⟩ | ⟨a, b⟩ | a | a | ⟨a, b⟩ <;> first | omega | contradiction | (simp_all; done)
                 obtain ⟨h1, h2, h3⟩ := HBS.out hb
                 have hmv := HMV.out
                 rw [h1, hmv]
                 first
                   | exact ret3 (neg_back u h2)
                   | exact ret3 (neg_top u (by omega))
                   | exact ret3 (pos_back u (by rcases Nat.lt_or_ge u 9223372036854775808 with h4 | h4; exact h4; exact absurd ((h3 (by omega)).symm.trans hmv) (by decide)))
                   | exact ret3 rfl)
end Go.Proofs.YthjgnpicnpfmjaaDoor
