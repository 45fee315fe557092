/- The definition's equality of slices of tuples. No condition. -/
import Derived.Test.YtminnkihcohflaaSplH
namespace Go.Proofs.Ytminnkihcohflaa
open Go.RowKit Go.Lib Go.Shelf

set_option maxHeartbeats 4000000 in
set_option maxRecDepth 100000 in
theorem sameTups_len (n : Nat) (a a2 : Option Addr) (c c2 : Nat) (l m : List Tup) (w : World) (hl : l.length = n) (hm : m.length = n)
    (hp : Tups w (.slice a n c) l) (hp2 : Tups w (.slice a2 n c2) m) :
    Calls Try.prog 15 #[.slice a n c, .slice a2 n c2] w fun e w' => e = .returned (.bool (sameTups l m)) ∧ Below w.heap.size w w' := by
  have h63 : n ≤ 9223372036854775807 := hl ▸ hp.1
  have HP := Lib.hid hp
  have HP2 := Lib.hid hp2
  have HL := Lib.hid hl
  have HM := Lib.hid hm
  clear hp hp2 hl hm
  go_enter Try.func15, Try.ntmps15
  go_wp2_with fail
  go_loopw [5] (fun i wr => ∃ k : Nat, k ≤ n ∧ i = .int .i64 k ∧ Hid (sameTups (l.drop k) (m.drop k) = sameTups l m) ∧ Below w.heap.size w wr) (fun i _ => n - (intOf i).toNat)
  case atStart => exact ⟨0, Nat.zero_le _, rfl, Lib.hid rfl, Below.refl _ _⟩
  case round =>
    obtain ⟨k, hk, rfl, HR, hB⟩ := hrel
    by_cases hlt : k < n
    · obtain ⟨x, hx⟩ := lget_some l k (by rw [HL.out]; exact hlt)
      obtain ⟨y, hy⟩ := lget_some m k (by rw [HM.out]; exact hlt)
      obtain ⟨b, o, a1, n1, e1, m1, rfl, hv1, hu1, p0, p1, p2, p3⟩ := tups_at HP.out hx
      obtain ⟨b2, o2, a2, n2, e2, m2, rfl, hv2, hu2, q0, q1, q2, q3⟩ := tups_at HP2.out hy
      replace p0 := cell_keep hB p0
      replace p1 := cell_keep hB p1
      replace p2 := cell_keep hB p2
      replace p3 := cell_keep hB p3
      replace q0 := cell_keep hB q0
      replace q1 := cell_keep hB q1
      replace q2 := cell_keep hB q2
      replace q3 := cell_keep hB q3
      have HS : Hid (sameTups (l.drop k) (m.drop k) = (sameTup x y && sameTups (l.drop (k + 1)) (m.drop (k + 1)))) := by rw [drop_get hx, drop_get hy]; exact Lib.hid rfl
      have HV1 := Lib.hid hv1
      have HV2 := Lib.hid hv2
      have HU1 := Lib.hid hu1
      have HU2 := Lib.hid hu2
      have hgd := per_guard
      have heq : ∀ W : World, (binOp .neq 31 (.agg #[.int .i64 x.lo, .int .i64 x.hi]) (.agg #[.int .i64 y.lo, .int .i64 y.hi])).run Try.prog W = .ok (.bool !(x.lo == y.lo && x.hi == y.hi)) W := per_neq _ _ _ _
      clear hx hy hv1 hv2 hu1 hu2
      cases hper : (x.lo == y.lo && x.hi == y.hi)
      · have HPER := Lib.hid hper
        rw [hper, Bool.not_false] at heq
        clear hper
        have HF : Hid (sameTups l m = false) := by show _ = _; rw [← HR.out, HS.out, sameTup, HPER.out]; rfl
        go_wp2_with fail
        go_quiet (fail)
        go_wp2_with fail
        go_ret
        exact ⟨ret_bool (by rw [HF.out]), below_drewN hB _⟩
      · have HPER := Lib.hid hper
        rw [hper, Bool.not_true] at heq
        clear hper
        have HT : Hid (sameTups l m = (sameRowL x.vals y.vals x.lin y.lin && sameTups (l.drop (k + 1)) (m.drop (k + 1)))) := by show _ = _; rw [← HR.out, HS.out, sameTup, HPER.out]; rfl
        obtain ⟨r, hr⟩ : ∃ r, r = sameRowL x.vals y.vals x.lin y.lin := ⟨_, rfl⟩
        have HRR := Lib.hid hr
        rw [← hr] at HT
        clear hr
        go_wp2_with fail
        go_region_held3 (fun W => Below w.heap.size w W ∧ W.cell? ⟨b, o + k * 4, none⟩ = some (.slice a1 x.vals.length n1) ∧ W.cell? ⟨b, o + k * 4 + 1, none⟩ = some (.int .i64 x.lo) ∧ W.cell? ⟨b, o + k * 4 + 2, none⟩ = some (.int .i64 x.hi) ∧ W.cell? ⟨b, o + k * 4 + 3, none⟩ = some (.slice e1 x.lin.length m1)
            ∧ W.cell? ⟨b2, o2 + k * 4, none⟩ = some (.slice a2 y.vals.length n2) ∧ W.cell? ⟨b2, o2 + k * 4 + 1, none⟩ = some (.int .i64 y.lo) ∧ W.cell? ⟨b2, o2 + k * 4 + 2, none⟩ = some (.int .i64 y.hi) ∧ W.cell? ⟨b2, o2 + k * 4 + 3, none⟩ = some (.slice e2 y.lin.length m2))
          ((go_split_ands; refine ⟨?_, ?_, ?_, ?_, ?_, ?_, ?_, ?_, ?_⟩ <;> (first | assumption | exact Below.drew (by assumption) | exact cell_drew (by assumption) | exact below_keep (by assumption) (by assumption) | exact cell_keep (by assumption) (by assumption))))
          (first
            | (go_at_call 50; (with_reducible refine (refRow_any _ _ _ _ _ _ _ _ _ _ _ rfl rfl).mono ?_); rintro e w3 ⟨rfl, hb3⟩)
            | (go_at_call 49; go_split_ands; refine (sameRow_any _ _ _ _ x.vals y.vals x.lin y.lin _ (HV1.out.below (by assumption)).vals (HU1.out.below (by assumption)).ints (HV2.out.below (by assumption)).vals (HU2.out.below (by assumption)).ints).mono ?_; rw [← HRR.out]; rintro e w3 ⟨rfl, hb3⟩))
        go_split_ands
        cases hrb : r
        · have HF : Hid (sameTups l m = false) := by show _ = _; rw [HT.out, hrb]; rfl
          go_wp2_with fail
          go_ret
          exact ⟨ret_bool (by rw [HF.out]), by assumption⟩
        · have HF : Hid (sameTups (l.drop (k + 1)) (m.drop (k + 1)) = sameTups l m) := by show _ = _; rw [HT.out, hrb]; rfl
          go_wp2_with fail
          go_roundw
          case rel => exact ⟨k + 1, by omega, by go_num, HF, by assumption⟩
          case measure => simp [intOf]; omega
    · go_wp2_with fail
      go_ret
      exact ⟨ret_bool (by rw [← HR.out, List.drop_of_length_le (by rw [HL.out]; omega), List.drop_of_length_le (l := m) (by rw [HM.out]; omega)]; rfl), hB⟩
theorem sameTups_ne (l m : List Tup) (h : l.length ≠ m.length) : sameTups l m = false := by
  induction l generalizing m with
  | nil => cases m with
    | nil => simp at h
    | cons => rfl
  | cons x l ih => cases m with
    | nil => rfl
    | cons y m => rw [sameTups, ih m (by simpa using h), Bool.and_false]
set_option maxHeartbeats 1000000 in
theorem sameTups_any (v u : Value) (l m : List Tup) (w : World) (hp : Tups w v l) (hp2 : Tups w u m) :
    Calls Try.prog 15 #[v, u] w fun e w' => e = .returned (.bool (sameTups l m)) ∧ Below w.heap.size w w' := by
  obtain ⟨a, c, rfl⟩ := hp.shape
  obtain ⟨a2, c2, rfl⟩ := hp2.shape
  by_cases hlen : l.length = m.length
  · rw [← hlen] at hp2 ⊢
    exact sameTups_len l.length a a2 c c2 l m w rfl hlen.symm hp hp2
  · have hne : ((l.length : Int) != (m.length : Int)) = true := by simpa using fun h => hlen (by omega)
    have HF : Hid (sameTups l m = false) := sameTups_ne l m hlen
    clear hp hp2 hlen
    go_enter Try.func15, Try.ntmps15
    go_wp2_with fail
    go_ret
    exact ⟨ret_bool (by rw [HF.out]), Below.refl _ _⟩
end Go.Proofs.Ytminnkihcohflaa
