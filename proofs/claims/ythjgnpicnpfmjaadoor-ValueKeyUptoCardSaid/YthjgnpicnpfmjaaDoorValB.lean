/- The program's tests on a text: numerals, quoted texts. No condition beside moderate length. -/
import Derived.Test.YthjgnpicnpfmjaaDoorValA
import Derived.Test.YthjgnpicnpfmjaaDoorShStr
import Derived.Test.YthjgnpicnpfmjaaDoorShRep
namespace Go.Proofs.YthjgnpicnpfmjaaDoor
open Go.RowKit

theorem trim_digits (l : List UInt8) : Lib.trimPrefix l [45] = digitsOf l := by
  unfold Lib.trimPrefix Lib.hasPrefix digitsOf hasMinus
  cases l with
  | nil => rfl
  | cons c r =>
    by_cases h : c = 45
    · subst h; simp
    · have h' : ¬ (45 : UInt8) = c := fun e => h e.symm
      simp [h, h']
theorem drop_byte (s : ByteArray) (k : Nat) (h : k < s.size) : s.data.toList.drop k = s[k] :: s.data.toList.drop (k + 1) := by
  rw [List.drop_eq_getElem_cons (by simpa using h)]; rfl
set_option maxHeartbeats 1000000 in
theorem numeral_any (s : ByteArray) (hs : s.size ≤ maxLen) (w : World) :
    Calls Tryd.prog 30 #[.string s] w fun e w' => e = .returned (.bool (numForm s.data.toList)) ∧ w = w' := by
  obtain ⟨t, ht⟩ : ∃ t : ByteArray, t = ⟨(Lib.trimPrefix s.data.toList (ByteArray.mk #[45]).data.toList).toArray⟩ := ⟨_, rfl⟩
  have hd : t.data.toList = digitsOf s.data.toList := by rw [ht, ← trim_digits]
  have hts : t.size ≤ s.size := by
    rw [Lib.size_eq, Lib.size_eq, hd, digitsOf]
    split <;> simp
  have HF : Hid (numForm s.data.toList = (!t.data.toList.isEmpty && t.data.toList.all digB)) := by rw [numForm, hd]; exact Lib.hid rfl
  have HT : ∀ W : World, Hid (Calls Tryd.prog 43 #[.string s, .string ⟨#[45]⟩] W fun e w' => e = .returned (.string t) ∧ W = w') := fun W => by
    rw [ht]; exact (sh_strings_TrimPrefix s ⟨#[45]⟩ W).mono fun e w' ⟨h1, h2⟩ => ⟨h1, h2.symm⟩
  clear ht hd
  unfold maxLen at hs
  go_enter Tryd.func30, Tryd.ntmps30
  go_wp2_with (go_at_call 43; refine (HT _).out.mono ?_; rintro e w' ⟨rfl, rfl⟩)
  go_loop [8] (fun i => ∃ k : Nat, k ≤ t.size ∧ i = .int .i64 k ∧ Hid ((t.data.toList.drop k).all digB = t.data.toList.all digB)) (fun i => t.size - (intOf i).toNat)
  case atStart => exact ⟨0, Nat.zero_le _, rfl, Lib.hid rfl⟩
  case round =>
    obtain ⟨k, hk, rfl, HR⟩ := hrel
    by_cases hlt : k < t.size
    · have HS : Hid ((t.data.toList.drop k).all digB = (digB t[k] && (t.data.toList.drop (k + 1)).all digB)) := by rw [drop_byte t k hlt]; exact Lib.hid rfl
      have hlo := Nat.zero_le t[k].toNat
      by_cases hdg : 48 ≤ t[k].toNat ∧ t[k].toNat ≤ 57
      · obtain ⟨h1, h2⟩ := hdg
        have HD : Hid (digB t[k] = true) := by show _ = _; simp [digB, h1, h2]
        go_wp2_with fail
        go_round
        case rel => exact ⟨k + 1, by omega, by go_num, by show _ = _; rw [← HR.out, HS.out, HD.out]; simp⟩
        case measure => simp [intOf]; omega
      · have HD : Hid (numForm s.data.toList = false) := by
          show _ = _
          have : digB t[k] = false := by simp [digB]; omega
          rw [HF.out, ← HR.out, HS.out, this]; simp
        by_cases h1 : t[k].toNat < 48
        · go_wp2_with fail
          go_ret
          exact ⟨ret_bool HD.out.symm, rfl⟩
        · have h2 : 57 < t[k].toNat := by omega
          go_wp2_with fail
          go_ret
          exact ⟨ret_bool HD.out.symm, rfl⟩
    · have HE : Hid (numForm s.data.toList = !t.data.toList.isEmpty) := by
        show _ = _
        rw [HF.out, ← HR.out, List.drop_of_length_le (by rw [← Lib.size_eq]; omega)]; simp
      go_wp2_with fail
      go_ret
      refine ⟨ret_bool ?_, rfl⟩
      rw [HE.out, tl_data]
theorem MaxAt.below {w w' : World} (h : ∃ m, w.cell? ⟨0, 0, none⟩ = some (.int .i64 m)) (hb : Below w.heap.size w w') : ∃ m, w'.cell? ⟨0, 0, none⟩ = some (.int .i64 m) := by
  obtain ⟨m, h⟩ := h
  exact ⟨m, cell_keep hb h⟩
theorem pairs_any (t : ByteArray) (ht : t.size ≤ 1000000) (c : List UInt8) (hc : c.length ≤ 1) (w : World) (hT : Tabs w) :
    Calls Tryd.prog 28 #[.string t, .string ⟨#[39, 39]⟩, .string ⟨c.toArray⟩] w fun e w' => e = .returned (.string ⟨(pairs c t.data.toList).toArray⟩) ∧ Below w.heap.size w w' := by
  obtain ⟨m, hm⟩ := hT.mx
  have hcs : (ByteArray.mk c.toArray).size = c.length := by simp [ByteArray.size]
  have h3 : Lib.countB t ⟨#[39, 39]⟩ ≤ t.size := Lib.countB_le ⟨#[39, 39]⟩ (by decide) _ t (Nat.le_refl _)
  refine (sh_strings_ReplaceAll t ⟨#[39, 39]⟩ ⟨c.toArray⟩ m w (by omega) hm (by decide) ?_).mono fun e w' ⟨h1, h2⟩ => ⟨?_, h2⟩
  · rw [hcs]
    have : Lib.countB t ⟨#[39, 39]⟩ * c.length ≤ t.size * 1 := Nat.mul_le_mul h3 hc
    omega
  · rw [h1, show (ByteArray.mk #[39, 39]).data.toList = [39, 39] from rfl, show (ByteArray.mk c.toArray).data.toList = c by simp, replaceAll_pairs c _ (fun e => by rw [e] at hc; simp at hc)]
theorem has_quote (l : List UInt8) (w : World) : Calls Tryd.prog 46 #[.string ⟨l.toArray⟩, .string ⟨#[39]⟩] w fun e w' => e = .returned (.bool (l.contains 39)) ∧ w = w' := by
  refine (sh_strings_Contains_one ⟨l.toArray⟩ 39 w).mono fun e w' ⟨h1, h2⟩ => ⟨?_, h2.symm⟩
  rw [h1, show (ByteArray.mk l.toArray).data.toList = l by simp, ← contains_one, Lib.contains, Lib.index_one]
/-- What unquote answers. -/
def UnqRes (r : Option (List UInt8)) (e : Ending) : Prop := match r with
  | none => e = .returned (.tuple #[.string ⟨#[]⟩, .bool false])
  | some m => e = .returned (.tuple #[.string ⟨m.toArray⟩, .bool true])
theorem unquo_two (s : ByteArray) (n : Nat) (hn : s.size = n + 2) :
    unquo s.data.toList = if (s[0]'(by omega)).toNat = 39 ∧ (s[n + 1]'(by omega)).toNat = 39 then undbl (s.extract 1 (n + 1)).data.toList else none := by
  have hl : s.data.toList.length = n + 2 := by rw [← Lib.size_eq]; exact hn
  have hh : s.data.toList.head? = some (s[0]'(by omega)) := by rw [← List.drop_zero (l := s.data.toList), drop_byte s 0 (by omega)]; rfl
  have hg : s.data.toList.getLast? = some (s[n + 1]'(by omega)) := by
    rw [List.getLast?_eq_getElem?, hl]
    have := drop_byte s (n + 1) (by omega)
    have h2 : (s.data.toList.drop (n + 1))[0]? = some (s[n + 1]'(by omega)) := by rw [this]; rfl
    simpa using h2
  have he : (s.extract 1 (n + 1)).data.toList = (s.data.toList.drop 1).take (s.data.toList.length - 2) := by
    rw [hl]
    simp [ByteArray.data_extract, List.drop_take]
  have b39 : ∀ c : UInt8, some c = some (39 : UInt8) ↔ c.toNat = 39 := fun c => ⟨(fun h => by cases h; rfl), (fun h => by rw [show c = 39 from UInt8.toNat_inj.1 (by rw [h]; rfl)])⟩
  unfold unquo
  rw [hh, hg, ← he, hl]
  by_cases h : (s[0]'(by omega)).toNat = 39 ∧ (s[n + 1]'(by omega)).toNat = 39
  · rw [if_pos h, if_neg]
    rintro (h1 | h1 | h1)
    · omega
    · exact h1 ((b39 _).2 h.1)
    · exact h1 ((b39 _).2 h.2)
  · rw [if_neg h, if_pos]
    by_cases h0 : (s[0]'(by omega)).toNat = 39
    · exact .inr (.inr fun e => h ⟨h0, (b39 _).1 e⟩)
    · exact .inr (.inl fun e => h0 ((b39 _).1 e))
set_option maxHeartbeats 1000000 in
theorem unquote_any (s : ByteArray) (hs : s.size ≤ 1000000) (w : World) (hT : Tabs w) :
    Calls Tryd.prog 32 #[.string s] w fun e w' => UnqRes (unquo s.data.toList) e ∧ Below w.heap.size w w' := by
  have HT := Lib.hid hT
  clear hT
  by_cases h2 : s.size < 2
  · have HU : Hid (unquo s.data.toList = none) := by
      show _ = _
      unfold unquo
      rw [if_pos (.inl (by rw [← Lib.size_eq]; exact h2))]
    go_enter Tryd.func32, Tryd.ntmps32
    go_wp2_with fail
    go_ret2
    rw [HU.out]
    exact ⟨rfl, Below.refl _ _⟩
  · obtain ⟨n, hn⟩ : ∃ n : Nat, s.size = n + 2 := ⟨s.size - 2, by omega⟩
    have h0 : 0 < s.size := by omega
    have hl : n + 1 < s.size := by omega
    have HU : Hid (unquo s.data.toList = if s[0].toNat = 39 ∧ s[n + 1].toNat = 39 then undbl (s.extract 1 (n + 1)).data.toList else none) := Lib.hid (unquo_two s n hn)
    have hc1 : ¬ (n : Int) + 2 < 2 := by omega
    by_cases ha : s[0].toNat = 39
    · by_cases hb : s[n + 1].toNat = 39
      · have HV : Hid (unquo s.data.toList = undbl (s.extract 1 (n + 1)).data.toList) := by show _ = _; rw [HU.out, if_pos ⟨ha, hb⟩]
        obtain ⟨t, ht⟩ : ∃ t : ByteArray, t = s.extract 1 (n + 1) := ⟨_, rfl⟩
        have hts : t.size ≤ 1000000 := by rw [ht, ByteArray.size_extract]; omega
        have H1 := Lib.hid (pairs_any t hts [] (by simp) w HT.out)
        rw [ht] at H1
        rw [← ht] at HV
        have HTE := Lib.hid ht
        clear ht HU
        go_enter Tryd.func32, Tryd.ntmps32
        go_wp2_with fail
        refine H1.out.mono ?_
        rintro e w1 ⟨rfl, hb1⟩
        rw [← HTE.out]
        have HT1 := Lib.hid (HT.out.below hb1)
        have HB1 := Lib.hid hb1
        clear hb1 H1
        go_wp2_with fail
        refine (has_quote _ _).mono ?_
        rintro e w2 ⟨rfl, rfl⟩
        cases hu : undbl t.data.toList with
        | none =>
          have hm : (pairs [] t.data.toList).contains 39 = true := by simpa using undbl_none hu
          rw [hm]
          have HU := Lib.hid hu
          clear hu hm
          go_wp2_with fail
          go_ret2
          rw [HV.out, HU.out]
          exact ⟨rfl, HB1.out⟩
        | some m =>
          obtain ⟨u1, u2, _, _⟩ := undbl_some hu
          have hm : (pairs [] t.data.toList).contains 39 = false := by simpa using u1
          rw [hm]
          have HU := Lib.hid hu
          have HP := Lib.hid u2
          clear hu hm u1 u2
          have H2 := Lib.hid (pairs_any t hts [39] (by simp) w1 HT1.out)
          rw [HTE.out] at H2
          go_wp2_with fail
          refine H2.out.mono ?_
          rintro e w3 ⟨rfl, hb3⟩
          rw [← HTE.out]
          have HB3 := Lib.hid (below_keep HB1.out hb3)
          clear hb3
          go_wp2_with fail
          go_ret2
          rw [HV.out, HU.out]
          exact ⟨by rw [HP.out]; rfl, HB3.out⟩
      · have HV : Hid (unquo s.data.toList = none) := by show _ = _; rw [HU.out, if_neg (fun h => hb h.2)]
        clear HU
        go_enter Tryd.func32, Tryd.ntmps32
        go_wp2_with fail
        go_ret2
        rw [HV.out]
        exact ⟨rfl, Below.refl _ _⟩
    · have HV : Hid (unquo s.data.toList = none) := by show _ = _; rw [HU.out, if_neg (fun h => ha h.1)]
      clear HU
      go_enter Tryd.func32, Tryd.ntmps32
      go_wp2_with fail
      go_ret2
      rw [HV.out]
      exact ⟨rfl, Below.refl _ _⟩
end Go.Proofs.YthjgnpicnpfmjaaDoor
