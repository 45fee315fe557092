/- The laws ValueRows, ValueKey, ValueKeySplit, walked. Conditions: the library's table and variables read as laid; for ValueKey: strings of at most 2^20 bytes. -/
import Derived.Test.YthjgnpicnpfmjaaDoorValV
namespace Go.Proofs.YthjgnpicnpfmjaaDoor
open Go.RowKit

theorem sgn_rows (l m : List GVal) : cmpRows l m = -1 ∨ cmpRows l m = 0 ∨ cmpRows l m = 1 := by
  induction l generalizing m with
  | nil => cases m <;> simp [cmpRows]
  | cons a l ih =>
    cases m with
    | nil => simp [cmpRows]
    | cons b m =>
      rw [cmpRows]
      split
      · exact ih m
      · exact (sgn_val a b b).1
theorem cmpRows_sl (v u : Value) (l m : List GVal) (w : World) (hv : Sl valE w free v l) (hu : Sl valE w free u m) :
    Calls Tryd.prog 21 #[v, u] w fun e w' => e = .returned (.int .i64 (cmpRows l m)) ∧ Below w.heap.size w w' := cmpRows_any v u l m w hv.vals hu.vals
set_option maxHeartbeats 8000000 in
set_option maxRecDepth 100000 in
theorem vrows_walk (v u : Value) (l m : List GVal) (w : World) (hv : Sl valE w free v l) (hu : Sl valE w free u m) (hT : Tabs w) : Calls Tryd.prog 10 #[v, u] w fun e w' => e = .returned (.bool true) ∧ Below w.heap.size w w' := by
  have HT := Lib.hid hT
  obtain ⟨a1, c1, rfl⟩ := hv.shape
  obtain ⟨a2, c2, rfl⟩ := hu.shape
  have h63 := hv.1
  have g63 := hu.1
  have HC := Lib.hid (valRows_any _ _ l m w hv hu)
  have HR := Lib.hid (fun W (h : Below w.heap.size w W) => cmpRows_sl _ _ l m W (hv.below h) (hu.below h))
  have HS := Lib.hid (fun W (h : Below w.heap.size w W) => valRows_any _ _ m l W (hu.below h) (hv.below h))
  have HA0 := Lib.hid (awake_any w hT)
  rw [cmpRows_swap l m] at HS
  have hx := sgn_rows l m
  obtain ⟨x, hxx⟩ : ∃ x, x = cmpRows l m := ⟨_, rfl⟩
  rw [← hxx] at HC HR HS hx
  obtain ⟨n, hn⟩ : ∃ n, n = l.length := ⟨_, rfl⟩
  obtain ⟨n2, hn2⟩ : ∃ n, n = m.length := ⟨_, rfl⟩
  rw [← hn] at h63 HC HR HS ⊢
  rw [← hn2] at g63 HC HR HS ⊢
  clear hv hu hT hxx hn hn2
  by_cases hg : 60 < n ∨ 60 < n2
  · clear HC HR HS
    by_cases h1 : 60 < n
    all_goals
      first | skip | (have h2 : 60 < n2 := by omega)
      go_enter Tryd.func10, Tryd.ntmps10
      go_wp2_with (go_at_call 11; refine HA0.out.mono ?_; rintro e w1 ⟨rfl, hb1⟩)
      all_goals first
        | (exfalso; omega)
        | (go_ret; exact ⟨rfl, hb1⟩)
  · have h1 : ¬ 60 < n := by omega
    have h2 : ¬ 60 < n2 := by omega
    clear HA0
    rcases hx with rfl | rfl | rfl
    all_goals
      go_enter Tryd.func10, Tryd.ntmps10
      go_wp2_with fail
      refine HC.out.mono ?_
      rintro e w1 ⟨rfl, hb1⟩
      have HB1 := Lib.hid hb1
      have HA := Lib.hid (awake_any _ (HT.out.below HB1.out))
      clear hb1
      go_wp2_with fail
      refine HA.out.mono ?_
      rintro e w2 ⟨rfl, hb2⟩
      have HB2 := Lib.hid (below_keep HB1.out hb2)
      clear hb2
      go_wp2_with fail
      refine (HR.out _ HB2.out).mono ?_
      rintro e w3 ⟨rfl, hb3⟩
      have HB3 := Lib.hid (below_keep HB2.out hb3)
      clear hb3
      go_wp2_with fail
      refine (HS.out _ HB3.out).mono ?_
      rintro e w4 ⟨rfl, hb4⟩
      have HB4 := Lib.hid (below_keep HB3.out hb4)
      clear hb4
      go_wp2_with fail
      go_ret
      exact ⟨rfl, HB4.out⟩
theorem key_total (l : List GVal) (hl : l.length ≤ 30) (hk : ∀ x ∈ l, In64 x.kind ∧ In64 x.n ∧ x.s.size ≤ 1048576) : (keyL l).length ≤ l.length * 1048700 := by
  induction l with
  | nil => simp [keyL]
  | cons x l ih =>
    have h1 := ih (by simp at hl; omega) (fun y hy => hk y (List.mem_cons_of_mem _ hy))
    have h2 := hk x (List.mem_cons_self ..)
    have h3 := keyOf_length x h2.1 h2.2.1 (by omega)
    have e : keyL (x :: l) = keyOf x ++ keyL l := by simp [keyL]
    rw [e, List.length_append, List.length_cons, Nat.add_mul]
    omega
set_option maxHeartbeats 8000000 in
set_option maxRecDepth 100000 in
theorem vkey_walk (v u : Value) (l m : List GVal) (w : World) (hv : Sl valE w free v l) (hu : Sl valE w free u m) (hl : ∀ x ∈ l, In64 x.kind ∧ In64 x.n ∧ x.s.size ≤ 1048576) (hm : ∀ x ∈ m, In64 x.kind ∧ In64 x.n ∧ x.s.size ≤ 1048576) (hT : Tabs w) :
    Calls Tryd.prog 8 #[v, u] w fun e w' => e = .returned (.bool true) ∧ Below w.heap.size w w' := by
  have HT := Lib.hid hT
  have HA0 := Lib.hid (awake_any w hT)
  by_cases hg : 30 < l.length ∨ 30 < m.length
  · obtain ⟨a1, c1, rfl⟩ := hv.shape
    obtain ⟨a2, c2, rfl⟩ := hu.shape
    have h63 := hv.1
    have g63 := hu.1
    obtain ⟨n, hn⟩ : ∃ n, n = l.length := ⟨_, rfl⟩
    obtain ⟨n2, hn2⟩ : ∃ n, n = m.length := ⟨_, rfl⟩
    rw [← hn] at h63 hg ⊢
    rw [← hn2] at g63 hg ⊢
    clear hv hu hl hm hn hn2 hT
    by_cases h1 : 30 < n
    all_goals
      first | skip | (have h2 : 30 < n2 := by omega)
      go_enter Tryd.func8, Tryd.ntmps8
      go_wp2_with (go_at_call 11; refine HA0.out.mono ?_; rintro e w1 ⟨rfl, hb1⟩)
      all_goals first
        | (exfalso; omega)
        | (go_ret; exact ⟨rfl, hb1⟩)
  · have hll : l.length ≤ 30 := by omega
    have hml : m.length ≤ 30 := by omega
    have hb : ∀ x : GVal, (In64 x.kind ∧ In64 x.n ∧ x.s.size ≤ 1048576) → In64 x.kind ∧ In64 x.n ∧ x.s.size ≤ maxLen := fun x h => ⟨h.1, h.2.1, by unfold maxLen; omega⟩
    have t1 := key_total l hll hl
    have t2 := key_total m hml hm
    have HK1 := Lib.hid (fun W (h : Below w.heap.size w W) => key_any v l W (hv.below h) (fun x hx => hb x (hl x hx)) (by omega) (HT.out.below h))
    have HK2 := Lib.hid (fun W (h : Below w.heap.size w W) => key_any u m W (hu.below h) (fun x hx => hb x (hm x hx)) (by omega) (HT.out.below h))
    have HR := Lib.hid (fun W (h : Below w.heap.size w W) => cmpRows_sl v u l m W (hv.below h) (hu.below h))
    have hki := key_inj l m
    have hcz := cmpRows_zero l m
    obtain ⟨kl, hkl⟩ : ∃ k, k = keyL l := ⟨_, rfl⟩
    obtain ⟨km, hkm⟩ : ∃ k, k = keyL m := ⟨_, rfl⟩
    obtain ⟨x, hxx⟩ : ∃ x, x = cmpRows l m := ⟨_, rfl⟩
    obtain ⟨a1, c1, rfl⟩ := hv.shape
    obtain ⟨a2, c2, rfl⟩ := hu.shape
    rw [← hkl] at HK1 hki
    rw [← hkm] at HK2 hki
    rw [← hxx] at HR hcz
    have hiff : kl = km ↔ x = 0 := hki.trans hcz.symm
    obtain ⟨n, hn⟩ : ∃ n, n = l.length := ⟨_, rfl⟩
    obtain ⟨n2, hn2⟩ : ∃ n, n = m.length := ⟨_, rfl⟩
    rw [← hn] at hll HK1 HR ⊢
    rw [← hn2] at hml HK2 HR ⊢
    have h1 : ¬ 30 < n := by omega
    have h2 : ¬ 30 < n2 := by omega
    clear hv hu hl hm hg hb t1 t2 hki hcz hkl hkm hxx hn hn2 hT
    by_cases hx0 : x = 0
    · have hkk := hiff.2 hx0
      subst hx0
      subst hkk
      clear hiff
      go_enter Tryd.func8, Tryd.ntmps8
      go_wp2_with fail
      refine HA0.out.mono ?_
      rintro e w1 ⟨rfl, hb1⟩
      have HB1 := Lib.hid hb1
      clear hb1
      go_wp2_with fail
      refine (HK1.out _ HB1.out).mono ?_
      rintro e w2 ⟨rfl, hb2⟩
      have HB2 := Lib.hid (below_keep HB1.out hb2)
      clear hb2
      go_wp2_with fail
      refine (HK2.out _ HB2.out).mono ?_
      rintro e w3 ⟨rfl, hb3⟩
      have HB3 := Lib.hid (below_keep HB2.out hb3)
      clear hb3
      go_wp2_with fail
      refine (HR.out _ HB3.out).mono ?_
      rintro e w4 ⟨rfl, hb4⟩
      have HB4 := Lib.hid (below_keep HB3.out hb4)
      clear hb4
      go_wp2_with fail
      go_ret
      exact ⟨rfl, HB4.out⟩
    · have hkk : (kl == km) = false := seq_false (fun e => hx0 (hiff.1 e))
      have hx1 : (x == 0) = false := by rw [beq_eq_false_iff_ne]; exact hx0
      clear hiff hx0
      go_enter Tryd.func8, Tryd.ntmps8
      go_wp2_with fail
      refine HA0.out.mono ?_
      rintro e w1 ⟨rfl, hb1⟩
      have HB1 := Lib.hid hb1
      clear hb1
      go_wp2_with fail
      refine (HK1.out _ HB1.out).mono ?_
      rintro e w2 ⟨rfl, hb2⟩
      have HB2 := Lib.hid (below_keep HB1.out hb2)
      clear hb2
      go_wp2_with fail
      refine (HK2.out _ HB2.out).mono ?_
      rintro e w3 ⟨rfl, hb3⟩
      have HB3 := Lib.hid (below_keep HB2.out hb3)
      clear hb3
      go_wp2_with fail
      refine (HR.out _ HB3.out).mono ?_
      rintro e w4 ⟨rfl, hb4⟩
      have HB4 := Lib.hid (below_keep HB3.out hb4)
      clear hb4
      go_wp2_with fail
      go_ret
      exact ⟨rfl, HB4.out⟩
end Go.Proofs.YthjgnpicnpfmjaaDoor
