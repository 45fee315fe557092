/- The definition's comparison of lists of numbers. No condition. -/
import Derived.Test.YtminnkihcohflaaSplE
namespace Go.Proofs.Ytminnkihcohflaa
open Go.RowKit Go.Lib Go.Shelf

def cmpInts : List Int → List Int → Int
  | [], [] => 0
  | [], _ :: _ => -1
  | _ :: _, [] => 1
  | a :: l, b :: m => if a < b then -1 else if b < a then 1 else cmpInts l m

set_option maxHeartbeats 2000000 in
set_option maxRecDepth 100000 in
theorem cmpInts_any (v u : Value) (l m : List Int) (w : World) (hv : Reads w 1 v l.length (numCells l)) (hu : Reads w 1 u m.length (numCells m)) :
    Calls Try.prog 82 #[v, u] w fun e w' => e = .returned (.int .i64 (cmpInts l m)) ∧ Below w.heap.size w w' := by
  obtain ⟨_, h63, a, c, rfl, hc, hp⟩ := hv
  obtain ⟨_, g63, a2, c2, rfl, hc2, hp2⟩ := hu
  have HP := Lib.hid hp
  have HP2 := Lib.hid hp2
  clear hp hp2
  obtain ⟨n, hn⟩ : ∃ n, n = l.length := ⟨_, rfl⟩
  obtain ⟨n2, hn2⟩ : ∃ n, n = m.length := ⟨_, rfl⟩
  have HN := Lib.hid hn
  have HN2 := Lib.hid hn2
  rw [← hn] at h63 hc HP ⊢
  rw [← hn2] at g63 hc2 HP2 ⊢
  clear hn hn2
  go_enter Try.func82, Try.ntmps82
  go_wp2_with fail
  go_loopw [5] (fun i wr => ∃ k : Nat, k ≤ n ∧ k ≤ n2 ∧ i = .int .i64 k ∧ Hid (cmpInts (l.drop k) (m.drop k) = cmpInts l m) ∧ ∃ q, wr = w.drewN q) (fun i _ => n - (intOf i).toNat)
  case atStart => exact ⟨0, Nat.zero_le _, Nat.zero_le _, rfl, Lib.hid rfl, 0, rfl⟩
  case round =>
    obtain ⟨k, hk, hk2, rfl, HR, q, rfl⟩ := hrel
    have HB : Hid (Below w.heap.size w (w.drewN q)) := below_drewN (Below.refl _ _) _
    by_cases hlt : k < n ∧ k < n2
    · obtain ⟨hlt1, hlt2⟩ := hlt
      obtain ⟨x, hx⟩ := lget_some l k (by rw [← HN.out]; exact hlt1)
      obtain ⟨y, hy⟩ := lget_some m k (by rw [← HN2.out]; exact hlt2)
      obtain ⟨b, o, ha, hcl⟩ := HP.out (by omega)
      obtain ⟨b2, o2, ha2, hcl2⟩ := HP2.out (by omega)
      subst ha ha2
      have a0 : w.cell? ⟨b, o + k, none⟩ = some (.int .i64 x) := hcl _ _ (numCells_at l k x hx)
      have b0 : w.cell? ⟨b2, o2 + k, none⟩ = some (.int .i64 y) := hcl2 _ _ (numCells_at m k y hy)
      have HS : Hid (cmpInts (l.drop k) (m.drop k) = if x < y then -1 else if y < x then 1 else cmpInts (l.drop (k + 1)) (m.drop (k + 1))) := by rw [drop_get hx, drop_get hy]; exact Lib.hid rfl
      clear hcl hcl2 hx hy
      by_cases h1 : x < y
      · go_wp2_with fail
        go_quiet (fail)
        go_wp2_with fail
        go_ret
        exact ⟨ret_int (by rw [← HR.out, HS.out, if_pos h1]), below_drewN HB.out _⟩
      · by_cases h2 : y < x
        · go_wp2_with fail
          go_quiet (fail)
          go_wp2_with fail
          go_quiet (fail)
          go_wp2_with fail
          go_ret
          exact ⟨ret_int (by rw [← HR.out, HS.out, if_neg (by omega), if_pos h2]), below_drewN (below_drewN HB.out _) _⟩
        · go_wp2_with fail
          go_quiet (fail)
          go_wp2_with fail
          go_quiet (fail)
          go_wp2_with fail
          go_roundw
          case rel => exact ⟨k + 1, by omega, by omega, by go_num, (by show _ = _; rw [← HR.out, HS.out, if_neg (by omega), if_neg (by omega)]), _, rfl⟩
          case measure => simp [intOf]; omega
    · by_cases h1 : k < n
      · have hkn : k = n2 := by omega
        subst hkn
        have HS : Hid (cmpInts l m = 1) := by
          show _ = _
          obtain ⟨x, hx⟩ := lget_some l k (by rw [← HN.out]; exact h1)
          rw [← HR.out, drop_get hx, List.drop_of_length_le (l := m) (by rw [← HN2.out]; omega)]; rfl
        go_wp2_with fail
        go_ret
        exact ⟨ret_int (by rw [HS.out]), HB.out⟩
      · have hkn : k = n := by omega
        subst hkn
        by_cases h2 : k < n2
        · have HS : Hid (cmpInts l m = -1) := by
            show _ = _
            obtain ⟨y, hy⟩ := lget_some m k (by rw [← HN2.out]; exact h2)
            rw [← HR.out, drop_get hy, List.drop_of_length_le (l := l) (by rw [← HN.out]; omega)]; rfl
          go_wp2_with fail
          go_ret
          exact ⟨ret_int (by rw [HS.out]), HB.out⟩
        · have hkn2 : n2 = k := by omega
          subst hkn2
          have HS : Hid (cmpInts l m = 0) := by
            show _ = _
            rw [← HR.out, List.drop_of_length_le (l := l) (by rw [← HN.out]; omega), List.drop_of_length_le (l := m) (by rw [← HN2.out]; omega)]; rfl
          go_wp2_with fail
          go_ret
          exact ⟨ret_int (by rw [HS.out]), HB.out⟩
end Go.Proofs.Ytminnkihcohflaa
