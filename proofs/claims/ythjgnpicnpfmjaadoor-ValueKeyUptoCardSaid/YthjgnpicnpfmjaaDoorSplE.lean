/- The definition's comparison of rows. No condition. -/
import Derived.Test.YthjgnpicnpfmjaaDoorSplD
namespace Go.Proofs.YthjgnpicnpfmjaaDoor
open Go.RowKit Go.Lib

def cmpRows : List GVal → List GVal → Int
  | [], [] => 0
  | [], _ :: _ => -1
  | _ :: _, [] => 1
  | a :: l, b :: m => if cmpG a b = 0 then cmpRows l m else cmpG a b

set_option maxHeartbeats 2000000 in
set_option maxRecDepth 100000 in
theorem cmpRows_any (v u : Value) (l m : List GVal) (w : World) (hv : Reads w 3 v l.length (valCells l)) (hu : Reads w 3 u m.length (valCells m)) :
    Calls Tryd.prog 21 #[v, u] w fun e w' => e = .returned (.int .i64 (cmpRows l m)) ∧ Below w.heap.size w w' := by
  obtain ⟨_, h63, a, c, rfl, hc, hp⟩ := hv
  obtain ⟨_, g63, a2, c2, rfl, hc2, hp2⟩ := hu
  have HP := Lib.hid hp
  have HP2 := Lib.hid hp2
  clear hp hp2
  obtain ⟨n, hn⟩ : ∃ n, n = l.length := ⟨_, rfl⟩
  obtain ⟨n2, hn2⟩ : ∃ n, n = m.length := ⟨_, rfl⟩
  have HN := Lib.hid hn
  have HN2 := Lib.hid hn2
  rw [← hn] at h63 hc HP ⊢
  rw [← hn2] at g63 hc2 HP2 ⊢
  clear hn hn2
  go_enter Tryd.func21, Tryd.ntmps21
  go_wp2_with fail
  go_loopw [5] (fun i wr => ∃ k : Nat, k ≤ n ∧ k ≤ n2 ∧ i = .int .i64 k ∧ Hid (cmpRows (l.drop k) (m.drop k) = cmpRows l m) ∧ Below w.heap.size w wr) (fun i _ => n - (intOf i).toNat)
  case atStart => exact ⟨0, Nat.zero_le _, Nat.zero_le _, rfl, Lib.hid rfl, Below.refl _ _⟩
  case round =>
    obtain ⟨k, hk, hk2, rfl, HR, hB⟩ := hrel
    have HB := Lib.hid hB
    clear hB
    by_cases hlt : k < n ∧ k < n2
    · obtain ⟨hlt1, hlt2⟩ := hlt
      obtain ⟨x, hx⟩ := lget_some l k (by rw [← HN.out]; exact hlt1)
      obtain ⟨y, hy⟩ := lget_some m k (by rw [← HN2.out]; exact hlt2)
      obtain ⟨b, o, ha, hcl⟩ := HP.out (by omega)
      obtain ⟨b2, o2, ha2, hcl2⟩ := HP2.out (by omega)
      subst ha ha2
      obtain ⟨x0, x1, x2⟩ := valCells_at l k x hx
      obtain ⟨y0, y1, y2⟩ := valCells_at m k y hy
      have W : ∀ {p : Addr} {u : Value}, w.cell? p = some u → wr.cell? p = some u := fun h => (HB.out.cell (World.block_lt_of_cell? w _ h)).trans h
      have a0 : wr.cell? ⟨b, o + k * 3, none⟩ = some (.int .i64 x.kind) := W (hcl _ _ x0)
      have a1 : wr.cell? ⟨b, o + k * 3 + 1, none⟩ = some (.int .i64 x.n) := W (hcl _ _ x1)
      have a2 : wr.cell? ⟨b, o + k * 3 + 2, none⟩ = some (.string x.s) := W (hcl _ _ x2)
      have b0 : wr.cell? ⟨b2, o2 + k * 3, none⟩ = some (.int .i64 y.kind) := W (hcl2 _ _ y0)
      have b1 : wr.cell? ⟨b2, o2 + k * 3 + 1, none⟩ = some (.int .i64 y.n) := W (hcl2 _ _ y1)
      have b2' : wr.cell? ⟨b2, o2 + k * 3 + 2, none⟩ = some (.string y.s) := W (hcl2 _ _ y2)
      have HS : Hid (cmpRows (l.drop k) (m.drop k) = if cmpG x y = 0 then cmpRows (l.drop (k + 1)) (m.drop (k + 1)) else cmpG x y) := by rw [drop_get hx, drop_get hy]; exact Lib.hid rfl
      obtain ⟨r, hr⟩ : ∃ r, r = cmpG x y := ⟨_, rfl⟩
      have HRR := Lib.hid hr
      clear x0 x1 x2 y0 y1 y2 W hcl hcl2 hx hy hr
      rw [← HRR.out] at HS
      go_wp2_with fail
      go_region_with (go_at_call 15; refine (cmpG_any x y _).mono ?_; rw [← HRR.out]; rintro e w3 ⟨rfl, hb3⟩; have HB3 : Hid (Below w.heap.size w w3) := (by first | exact HB.out.trans (hb3.mono HB.out.size) | exact (below_drewN HB.out _).trans (hb3.mono HB.out.size)); clear hb3)
      all_goals
        by_cases hr0 : r = 0
        · subst hr0
          go_wp2_with fail
          go_roundw
          case rel => exact ⟨k + 1, by omega, by omega, by go_num, (by show _ = _; rw [← HR.out, HS.out, if_pos rfl]), HB3.out⟩
          case measure => simp [intOf]; omega
        · have hne : (r != 0) = true := by simpa using hr0
          go_wp2_with fail
          go_ret
          exact ⟨ret_int (by rw [← HR.out, HS.out, if_neg hr0]), HB3.out⟩
    · by_cases h1 : k < n
      · have hkn : k = n2 := by omega
        subst hkn
        have HS : Hid (cmpRows l m = 1) := by
          show _ = _
          obtain ⟨x, hx⟩ := lget_some l k (by rw [← HN.out]; exact h1)
          rw [← HR.out, drop_get hx, List.drop_of_length_le (l := m) (by rw [← HN2.out]; omega)]; rfl
        go_wp2_with fail
        go_ret
        exact ⟨ret_int (by rw [HS.out]), HB.out⟩
      · have hkn : k = n := by omega
        subst hkn
        by_cases h2 : k < n2
        · have HS : Hid (cmpRows l m = -1) := by
            show _ = _
            obtain ⟨y, hy⟩ := lget_some m k (by rw [← HN2.out]; exact h2)
            rw [← HR.out, drop_get hy, List.drop_of_length_le (l := l) (by rw [← HN.out]; omega)]; rfl
          go_wp2_with fail
          go_ret
          exact ⟨ret_int (by rw [HS.out]), HB.out⟩
        · have hkn2 : n2 = k := by omega
          subst hkn2
          have HS : Hid (cmpRows l m = 0) := by
            show _ = _
            rw [← HR.out, List.drop_of_length_le (l := l) (by rw [← HN.out]; omega), List.drop_of_length_le (l := m) (by rw [← HN2.out]; omega)]; rfl
          go_wp2_with fail
          go_ret
          exact ⟨ret_int (by rw [HS.out]), HB.out⟩
end Go.Proofs.YthjgnpicnpfmjaaDoor
