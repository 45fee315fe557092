/- The law ValueKeySplit, walked. Condition: the library's table and variables read as laid. -/
import Derived.Test.YthjgnpicnpfmjaaDoorValU
namespace Go.Proofs.YthjgnpicnpfmjaaDoor
open Go.RowKit

theorem in_two : In64 2 := by decide
theorem in_zero : In64 0 := by decide
theorem val_is (w : World) (G : Nat → Prop) (k n : Int) (s : ByteArray) : valE.is w G ⟨k, n, s⟩ [.int .i64 k, .int .i64 n, .string s] := rfl
theorem keyL_two_len (x y : ByteArray) (hx : x.size ≤ 100) (hy : y.size ≤ 100) : (keyL [⟨2, 0, x⟩, ⟨2, 0, y⟩]).length ≤ 400 := by
  have h1 := keyOf_length ⟨2, 0, x⟩ in_two in_zero (by dsimp only; omega)
  have h2 := keyOf_length ⟨2, 0, y⟩ in_two in_zero (by dsimp only; omega)
  dsimp only at h1 h2
  simp only [keyL, List.flatMap_cons, List.flatMap_nil, List.append_nil, List.length_append]
  omega
def keySplitL (s : ByteArray) (c : Nat) : List UInt8 := keyL [⟨2, 0, s.extract 0 c⟩, ⟨2, 0, s.extract c s.size⟩]
theorem keySplit_inj (s : ByteArray) (a b : Nat) (ha : a ≤ s.size) (hb : b ≤ s.size) (h : keySplitL s a = keySplitL s b) : a = b := by
  have h1 := (key_inj _ _).1 h
  simp only [List.cons.injEq, GVal.mk.injEq, true_and, and_true] at h1
  have h2 := congrArg ByteArray.size h1.1
  rw [ByteArray.size_extract, ByteArray.size_extract] at h2
  omega
theorem key_two (s : ByteArray) (c : Nat) (hc : c ≤ s.size) (W : World) (hT : Tabs (W.alloc (.cells #[.int .i64 2, .int .i64 0, .string (s.extract 0 c), .int .i64 2, .int .i64 0, .string (s.extract c s.size)] 23)).drew) (hs : s.size ≤ 100) :
    Hid (Calls Tryd.prog 20 #[.slice (some ⟨W.heap.size, 0, none⟩) 2 2] (W.alloc (.cells #[.int .i64 2, .int .i64 0, .string (s.extract 0 c), .int .i64 2, .int .i64 0, .string (s.extract c s.size)] 23)).drew fun e w' =>
        e = .returned (.string ⟨(keySplitL s c).toArray⟩) ∧ Below (W.alloc (.cells #[.int .i64 2, .int .i64 0, .string (s.extract 0 c), .int .i64 2, .int .i64 0, .string (s.extract c s.size)] 23)).drew.heap.size (W.alloc (.cells #[.int .i64 2, .int .i64 0, .string (s.extract 0 c), .int .i64 2, .int .i64 0, .string (s.extract c s.size)] 23)).drew w') := by
  have h1 : (s.extract 0 c).size ≤ 100 := by rw [ByteArray.size_extract]; omega
  have h2 : (s.extract c s.size).size ≤ 100 := by rw [ByteArray.size_extract]; omega
  refine Lib.hid (key_any _ [⟨2, 0, s.extract 0 c⟩, ⟨2, 0, s.extract c s.size⟩] _ ?_ ?_ ?_ hT)
  · refine Sl.of_block (n := 2) (m := 2) (c := #[.int .i64 2, .int .i64 0, .string (s.extract 0 c), .int .i64 2, .int .i64 0, .string (s.extract c s.size)]) (e := 23) (fr := (0, 0)) (heap_alloc_new W _) ?_ id rfl (by simp) (by simp)
    exact Els.cons (E := valE) (y := (⟨2, 0, s.extract 0 c⟩ : GVal)) (cs := [.int .i64 2, .int .i64 0, .string (s.extract 0 c)]) (val_is _ _ _ _ _) (Els.one (E := valE) (y := (⟨2, 0, s.extract c s.size⟩ : GVal)) (cs := [.int .i64 2, .int .i64 0, .string (s.extract c s.size)]) (val_is _ _ _ _ _))
  · intro x hx
    simp at hx
    rcases hx with rfl | rfl
    · exact ⟨in_two, in_zero, by unfold maxLen; dsimp only; omega⟩
    · exact ⟨in_two, in_zero, by unfold maxLen; dsimp only; omega⟩
  · have := keyL_two_len _ _ h1 h2
    omega
set_option maxHeartbeats 8000000 in
set_option maxRecDepth 100000 in
theorem vsplit_walk (s : ByteArray) (i k : Nat) (hi : i < 256) (hk : k < 256) (w : World) (hs : s.size ≤ maxLen) (hT : Tabs w) :
    Calls Tryd.prog 9 #[.string s, .int .u8 (i : Int), .int .u8 (k : Int)] w fun e w' => e = .returned (.bool true) ∧ Below w.heap.size w w' := by
  unfold maxLen at hs
  have HT := Lib.hid hT
  by_cases hl : 100 < s.size
  · have HA := Lib.hid (awake_any w hT)
    clear hT
    go_enter Tryd.func9, Tryd.ntmps9
    go_wp2_with fail
    refine HA.out.mono ?_
    rintro e w1 ⟨rfl, hb1⟩
    have HB1 := Lib.hid hb1
    clear hb1
    go_wp2_with fail
    go_ret
    exact ⟨rfl, HB1.out⟩
  · have hsz : s.size ≤ 100 := by omega
    have hn0 : (0 : Int) < (s.size : Int) + 1 := by omega
    have hne : ¬ (s.size : Int) + 1 = 0 := by omega
    have hi0 : (0 : Int) ≤ (i : Int) := by omega
    have hk0 : (0 : Int) ≤ (k : Int) := by omega
    clear hT hl hs
    go_enter Tryd.func9, Tryd.ntmps9
    go_wp2_with fail
    go_quiet (fail)
    obtain ⟨a, ha⟩ : ∃ a : Nat, a = i % (s.size + 1) := ⟨_, rfl⟩
    obtain ⟨b, hb⟩ : ∃ b : Nat, b = k % (s.size + 1) := ⟨_, rfl⟩
    have hal : a ≤ s.size := by have := Nat.mod_lt i (show 0 < s.size + 1 by omega); omega
    have hbl : b ≤ s.size := by have := Nat.mod_lt k (show 0 < s.size + 1 by omega); omega
    have HA : Hid ((i : Int) % ((s.size : Int) + 1) = (a : Int)) := by show _ = _; rw [ha]; push_cast; rfl
    have HB : Hid ((k : Int) % ((s.size : Int) + 1) = (b : Int)) := by show _ = _; rw [hb]; push_cast; rfl
    rw [HA.out, HB.out]
    have hw0 : Below w.heap.size w (w.drewN nq) := below_drewN (Below.refl _ _) nq
    generalize w.drewN nq = w1 at hw0 ⊢
    have HKK : ∀ (c : Nat) (hc : c ≤ s.size) (W : World), Below w.heap.size w W → Hid (Calls Tryd.prog 20 #[.slice (some ⟨W.heap.size, 0, none⟩) 2 2] (W.alloc (.cells #[.int .i64 2, .int .i64 0, .string (s.extract 0 c), .int .i64 2, .int .i64 0, .string (s.extract c s.size)] 23)).drew fun e w' =>
        e = .returned (.string ⟨(keySplitL s c).toArray⟩) ∧ Below (W.alloc (.cells #[.int .i64 2, .int .i64 0, .string (s.extract 0 c), .int .i64 2, .int .i64 0, .string (s.extract c s.size)] 23)).drew.heap.size (W.alloc (.cells #[.int .i64 2, .int .i64 0, .string (s.extract 0 c), .int .i64 2, .int .i64 0, .string (s.extract c s.size)] 23)).drew w') := fun c hc W hW =>
      key_two s c hc W (HT.out.below (below_alloc_keep hW).drew) hsz
    have HK1 := HKK a hal
    have HK2 := HKK b hbl
    have KEY1 := HK1 w1 hw0
    clear HA HB ha hb hn0 hne hi0 hk0 hi hk HKK HK1
    go_wp2_with fail
    go_region_held3 (fun W => Below w.heap.size w W)
      ((first | (with_reducible assumption) | with_reducible exact Below.drew (by assumption) | with_reducible exact below_keep (by assumption) (by assumption) | with_reducible exact below_alloc_keep (by assumption) | with_reducible exact below_alloc_drew (by assumption)))
      (first
        | (go_at_call 20; refine (KEY1.out).mono ?_; rintro e w2 ⟨rfl, hb2⟩))
    rename_i hH
    have HB2 := Lib.hid hH
    clear hH hb2 hw0 KEY1
    go_wp2_with fail
    have hb2w := HB2.out
    go_region_held3 (fun W => Below w.heap.size w W)
      ((first | (with_reducible assumption) | with_reducible exact Below.drew (by assumption) | with_reducible exact below_keep (by assumption) (by assumption) | with_reducible exact below_alloc_keep (by assumption) | with_reducible exact below_alloc_drew (by assumption)))
      (first
        | (go_at_call 20; refine ((HK2 _ HB2.out).out).mono ?_; rintro e w3 ⟨rfl, hb3⟩))
    rename_i hH
    have HB3 := Lib.hid hH
    have HA := Lib.hid (awake_any _ (HT.out.below HB3.out))
    have HIN := Lib.hid (keySplit_inj s a b hal hbl)
    clear hH hb3 hb2w HK2
    by_cases hab : a = b
    · subst hab
      go_wp2_with fail
      refine HA.out.mono ?_
      rintro e w4 ⟨rfl, hb4⟩
      have HB4 := Lib.hid (below_keep HB3.out hb4)
      clear hb4 HA
      go_wp2_with fail
      go_ret
      exact ⟨rfl, HB4.out⟩
    · have hk1 : (keySplitL s a == keySplitL s b) = false := seq_false (fun e => hab (HIN.out e))
      have hk2 : ((a : Int) == (b : Int)) = false := by rw [beq_eq_false_iff_ne]; omega
      have hk3 : (a == b) = false := by rw [beq_eq_false_iff_ne]; exact hab
      clear hab
      go_wp2_with fail
      refine HA.out.mono ?_
      rintro e w4 ⟨rfl, hb4⟩
      have HB4 := Lib.hid (below_keep HB3.out hb4)
      clear hb4 HA
      go_wp2_with fail
      go_ret
      exact ⟨rfl, HB4.out⟩
end Go.Proofs.YthjgnpicnpfmjaaDoor
