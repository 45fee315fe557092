/- The program's comparison of values. No condition. -/
import Derived.Test.YthjgnpicnpfmjaaDoorSplD
import Derived.Test.YthjgnpicnpfmjaaDoorShCm
import Derived.Test.YthjgnpicnpfmjaaDoorKeep
namespace Go.Proofs.YthjgnpicnpfmjaaDoor
open Go.RowKit

def cmpI (a b : Int) : Int := if a < b then -1 else if b < a then 1 else 0
set_option maxHeartbeats 1000000 in
theorem cmpInt_any (a b : Int) (w : World) : Calls Tryd.prog 24 #[.int .i64 a, .int .i64 b] w fun e w' => e = .returned (.int .i64 (cmpI a b)) ∧ w = w' := by
  go_enter Tryd.func24, Tryd.ntmps24
  go_wp2_with (go_at_call 38; refine (sh_cmp_isNaN_int2 _ _).mono ?_; rintro e w' ⟨rfl, rfl⟩)
  all_goals go_ret
  all_goals exact ⟨ret_int (by unfold cmpI; first | rw [if_pos (by assumption)] | rw [if_neg (by omega), if_pos (by assumption)] | rw [if_neg (by omega), if_neg (by omega)]), rfl⟩
set_option maxHeartbeats 1000000 in
theorem cmpI64_any (a b : Int) (w : World) : Calls Tryd.prog 25 #[.int .i64 a, .int .i64 b] w fun e w' => e = .returned (.int .i64 (cmpI a b)) ∧ w = w' := by
  go_enter Tryd.func25, Tryd.ntmps25
  go_wp2_with (go_at_call 39; refine (sh_cmp_isNaN_int2_f180 _ _).mono ?_; rintro e w' ⟨rfl, rfl⟩)
  all_goals go_ret
  all_goals exact ⟨ret_int (by unfold cmpI; first | rw [if_pos (by assumption)] | rw [if_neg (by omega), if_pos (by assumption)] | rw [if_neg (by omega), if_neg (by omega)]), rfl⟩
theorem cmpStr_any (a b : ByteArray) (w : World) : Calls Tryd.prog 26 #[.string a, .string b] w fun e w' => e = .returned (.int .i64 (Lib.compareBytes a.data.toList b.data.toList)) ∧ w = w' :=
  (sh_strings_Compare a b w).mono fun _ _ ⟨h1, h2⟩ => ⟨h1, h2.symm⟩
/-- The first that is not 0. -/
def orL : List Int → Int
  | [] => 0
  | x :: l => if x = 0 then orL l else x
theorem ints_at' {w : World} {G : Nat → Prop} {a : Option Addr} {n c k : Nat} {l : List Int} {x : Int} (h : Sl intE w G (.slice a n c) l) (hk : l[k]? = some x) : ∃ b o, a = some ⟨b, o, none⟩ ∧ w.cell? ⟨b, o + k, none⟩ = some (.int .i64 x) := by
  obtain ⟨b, o, cs, ha, rfl, hc⟩ := Sl.at h hk
  have h0 : w.cell? ⟨b, o + k * 1 + 0, none⟩ = some (.int .i64 x) := hc 0 _ rfl
  rw [Nat.mul_one, Nat.add_zero] at h0
  exact ⟨b, o, ha, h0⟩
set_option maxHeartbeats 1000000 in
theorem cmpOr_any (v : Value) (l : List Int) (w : World) (hv : Sl intE w free v l) : Calls Tryd.prog 23 #[v] w fun e w' => e = .returned (.int .i64 (orL l)) ∧ w = w' := by
  obtain ⟨a, c, rfl⟩ := hv.shape
  have h63 := hv.1
  have HV := Lib.hid hv
  obtain ⟨n, hn⟩ : ∃ n, n = l.length := ⟨_, rfl⟩
  have HN := Lib.hid hn
  rw [← hn] at HV h63 ⊢
  clear hv hn
  go_enter Tryd.func23, Tryd.ntmps23
  go_wp2_with fail
  go_loop [8] (fun i => ∃ k : Nat, k ≤ n ∧ i = .int .i64 k ∧ Hid (orL (l.drop k) = orL l)) (fun i => n - (intOf i).toNat)
  case atStart => exact ⟨0, Nat.zero_le _, rfl, Lib.hid rfl⟩
  case round =>
    obtain ⟨k, hk, rfl, HR⟩ := hrel
    by_cases hlt : k < n
    · obtain ⟨x, hx⟩ := lget_some l k (by rw [← HN.out]; exact hlt)
      obtain ⟨b, o, rfl, hat⟩ := ints_at' HV.out hx
      have HS : Hid (orL (l.drop k) = if x = 0 then orL (l.drop (k + 1)) else x) := by rw [drop_get hx]; exact Lib.hid rfl
      clear hx
      by_cases h0 : x = 0
      · have HS' : Hid (orL (l.drop (k + 1)) = orL l) := by show _ = _; rw [← HR.out, HS.out, if_pos h0]
        subst h0
        go_wp2_with fail
        go_round
        case rel => exact ⟨k + 1, by omega, by go_num, HS'⟩
        case measure => simp [intOf]; omega
      · have hne : (x != 0) = true := by simpa using h0
        have HS' : Hid (x = orL l) := by show _ = _; rw [← HR.out, HS.out, if_neg h0]
        clear h0
        go_wp2_with fail
        go_ret
        exact ⟨ret_int HS'.out, rfl⟩
    · have HS' : Hid (0 = orL l) := by show _ = _; rw [← HR.out, List.drop_of_length_le (by rw [← HN.out]; omega)]; rfl
      go_wp2_with fail
      go_ret
      exact ⟨ret_int HS'.out, rfl⟩
theorem bytesLess_cmp (a b : List UInt8) : (Op.bytesLess a b = true ↔ Lib.compareBytes a b = -1) ∧ (a = b ↔ Lib.compareBytes a b = 0) ∧ (Lib.compareBytes a b = -1 ∨ Lib.compareBytes a b = 0 ∨ Lib.compareBytes a b = 1) := by
  induction a generalizing b with
  | nil => cases b <;> simp [Lib.compareBytes, Op.bytesLess]
  | cons x a ih =>
    cases b with
    | nil => simp [Lib.compareBytes, Op.bytesLess]
    | cons y b =>
      obtain ⟨h1, h2, h3⟩ := ih b
      rw [Lib.compareBytes]
      by_cases hxy : x < y
      · have : x ≠ y := fun e => by subst e; exact absurd hxy (UInt8.lt_irrefl _)
        simp [Op.bytesLess, hxy, this]
      · by_cases hyx : y < x
        · have : x ≠ y := fun e => by subst e; exact absurd hyx (UInt8.lt_irrefl _)
          simp [Op.bytesLess, hxy, hyx, this]
        · have : x = y := UInt8.le_antisymm (UInt8.not_lt.1 hyx) (UInt8.not_lt.1 hxy)
          subst this
          simp [Op.bytesLess, hxy, h1, h2, h3]
theorem cmpG_or (a b : GVal) : orL [cmpI a.kind b.kind, cmpI a.n b.n, Lib.compareBytes a.s.data.toList b.s.data.toList] = cmpG a b := by
  obtain ⟨h1, h2, h3⟩ := bytesLess_cmp a.s.data.toList b.s.data.toList
  simp only [orL, cmpG, lessG, sameG, cmpI, Lib.toList_data]
  generalize a.s.data.toList = p at *
  generalize b.s.data.toList = q at *
  rcases Int.lt_trichotomy a.kind b.kind with hk | hk | hk
  · simp [hk]
  · rcases Int.lt_trichotomy a.n b.n with hn | hn | hn
    · simp [hk, hn]
    · rcases h3 with h | h | h
      · simp [hk, hn, h, h1.2 h]
      · have e := h2.2 h
        subst e
        simp [hk, hn, h, bytesLess_irrefl]
      · have e1 : Op.bytesLess p q = false := by
          cases hb : Op.bytesLess p q
          · rfl
          · rw [h1.1 hb] at h; cases h
        have e2 : ¬ p = q := fun e => by rw [h2.1 e] at h; cases h
        simp [hk, hn, h, e1, e2]
    · have e1 : ¬ a.n < b.n := by omega
      have e2 : ¬ a.n = b.n := by omega
      simp [hk, hn, e1, e2]
  · have e1 : ¬ a.kind < b.kind := by omega
    have e2 : ¬ a.kind = b.kind := by omega
    simp [hk, e1, e2]
set_option maxHeartbeats 4000000 in
set_option maxRecDepth 100000 in
theorem valCmp_any (a b : GVal) (w : World) : Calls Tryd.prog 14 #[aggG a, aggG b] w fun e w' => e = .returned (.int .i64 (cmpG a b)) ∧ Below w.heap.size w w' := by
  have HC := Lib.hid (cmpG_or a b)
  obtain ⟨k1, n1, s1⟩ := a
  obtain ⟨k2, n2, s2⟩ := b
  obtain ⟨r1, hr1⟩ : ∃ r, r = cmpI k1 k2 := ⟨_, rfl⟩
  obtain ⟨r2, hr2⟩ : ∃ r, r = cmpI n1 n2 := ⟨_, rfl⟩
  obtain ⟨r3, hr3⟩ : ∃ r, r = Lib.compareBytes s1.data.toList s2.data.toList := ⟨_, rfl⟩
  have H1 := fun W => Lib.hid (cmpInt_any k1 k2 W)
  have H2 := fun W => Lib.hid (cmpI64_any n1 n2 W)
  have H3 := fun W => Lib.hid (cmpStr_any s1 s2 W)
  dsimp only at HC
  rw [← hr1, ← hr2, ← hr3] at HC
  rw [← hr1] at H1
  rw [← hr2] at H2
  rw [← hr3] at H3
  clear hr1 hr2 hr3
  unfold aggG
  dsimp only
  go_enter Tryd.func14, Tryd.ntmps14
  go_wp2_with fail
  have hB0 := below_alloc_two w (.cells #[.int .i64 k1, .int .i64 n1, .string s1] 23) (.cells #[.int .i64 k2, .int .i64 n2, .string s2] 23)
  obtain ⟨c0, c1, c2⟩ := block_cells3 (heap_alloc_old' w (.cells #[.int .i64 k1, .int .i64 n1, .string s1] 23) (.cells #[.int .i64 k2, .int .i64 n2, .string s2] 23))
  obtain ⟨d0, d1, d2⟩ := block_cells3 (heap_alloc_new' w (.cells #[.int .i64 k1, .int .i64 n1, .string s1] 23) (.cells #[.int .i64 k2, .int .i64 n2, .string s2] 23))
  have hN : (((w.alloc (.cells #[.int .i64 k1, .int .i64 n1, .string s1] 23)).alloc (.cells #[.int .i64 k2, .int .i64 n2, .string s2] 23)).alloc (.cells #[.int .i64 r1, .int .i64 r2, .int .i64 r3] 3)).drew.heap[w.heap.size + 1 + 1]? = some (.cells #[.int .i64 r1, .int .i64 r2, .int .i64 r3] 3) := by
    have := heap_alloc_new ((w.alloc (.cells #[.int .i64 k1, .int .i64 n1, .string s1] 23)).alloc (.cells #[.int .i64 k2, .int .i64 n2, .string s2] 23)) (.cells #[.int .i64 r1, .int .i64 r2, .int .i64 r3] 3)
    simp only [World.size_alloc] at this
    exact this
  have HOR := Lib.hid (cmpOr_any _ [r1, r2, r3] _ (Sl.of_block (n := 3) (m := 3) hN (Els.cons (cs := [.int .i64 r1]) rfl (Els.cons (cs := [.int .i64 r2]) rfl (Els.one (cs := [.int .i64 r3]) rfl))) id rfl (by simp) (by simp)))
  rw [HC.out] at HOR
  clear hN
  go_region_held3 (fun W => Below w.heap.size w W ∧ W.cell? ⟨w.heap.size, 0, none⟩ = some (.int .i64 k1) ∧ W.cell? ⟨w.heap.size, 1, none⟩ = some (.int .i64 n1) ∧ W.cell? ⟨w.heap.size, 2, none⟩ = some (.string s1)
      ∧ W.cell? ⟨w.heap.size + 1, 0, none⟩ = some (.int .i64 k2) ∧ W.cell? ⟨w.heap.size + 1, 1, none⟩ = some (.int .i64 n2) ∧ W.cell? ⟨w.heap.size + 1, 2, none⟩ = some (.string s2))
    ((go_split_ands; refine ⟨?_, ?_, ?_, ?_, ?_, ?_, ?_⟩ <;> first | (with_reducible assumption) | with_reducible exact Below.drew (by assumption) | with_reducible exact cell_drew (by assumption) | with_reducible exact below_alloc_keep (by assumption) | with_reducible exact cell_alloc (by assumption) | with_reducible exact below_alloc_drew (by assumption) | with_reducible exact cell_alloc_drew (by assumption)))
    (first
      | (go_at_call 24; refine (H1 _).out.mono ?_; rintro e w' ⟨rfl, rfl⟩)
      | (go_at_call 25; refine (H2 _).out.mono ?_; rintro e w' ⟨rfl, rfl⟩)
      | (go_at_call 26; refine (H3 _).out.mono ?_; rintro e w' ⟨rfl, rfl⟩)
      | (go_at_call 23; refine HOR.out.mono ?_; rintro e w' ⟨rfl, rfl⟩))
  all_goals go_split_ands
  all_goals go_wp2_with fail
  all_goals go_ret
  all_goals exact ⟨rfl, by assumption⟩
end Go.Proofs.YthjgnpicnpfmjaaDoor
