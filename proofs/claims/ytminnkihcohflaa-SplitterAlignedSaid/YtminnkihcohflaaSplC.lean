/- Slices of tuples that are small. No condition. -/
import Derived.Test.YtminnkihcohflaaSplB
namespace Go.Proofs.Ytminnkihcohflaa
open Go.RowKit Go.Lib Go.Shelf

/-- A short row and a short lineage. -/
def small (t : Tup) : Bool := decide (t.vals.length ≤ 6) && decide (t.lin.length ≤ 6)
def few (l : List Tup) (m : Nat) : Bool := decide (l.length ≤ m) && l.all small

set_option maxHeartbeats 2000000 in
set_option maxRecDepth 100000 in
theorem few_any (v : Value) (l : List Tup) (m : Nat) (hm : m ≤ 1000) (w : World) (h : Tups w v l) :
    Calls Try.prog 12 #[v, .int .i64 m] w fun e w' => e = .returned (.bool (few l m)) ∧ w' = w := by
  obtain ⟨h63, a, c, rfl, hc, hp⟩ := h
  have HP := Lib.hid hp
  clear hp
  obtain ⟨n, hn⟩ : ∃ n, n = l.length := ⟨_, rfl⟩
  have HN := Lib.hid hn
  rw [← hn] at h63 hc HP ⊢
  clear hn
  go_enter Try.func12, Try.ntmps12
  go_wp2_with fail
  go_loopw [5] (fun i wr => ∃ k : Nat, k ≤ n ∧ k ≤ m + 1 ∧ i = .int .i64 k ∧ (∀ x ∈ l.take k, small x = true) ∧ wr = w) (fun i _ => n - (intOf i).toNat)
  case atStart => exact ⟨0, Nat.zero_le _, Nat.zero_le _, rfl, by simp, rfl⟩
  case round =>
    obtain ⟨k, hk, hkm, rfl, hall, rfl⟩ := hrel
    have HALL := Lib.hid hall
    clear hall
    by_cases hlt : k < n ∧ k ≤ m
    · obtain ⟨hlt1, hlt2⟩ := hlt
      obtain ⟨x, hx⟩ := lget_some l k (by rw [← HN.out]; exact hlt1)
      obtain ⟨b, o, ha, _, hcl⟩ := HP.out (by omega)
      obtain ⟨cs, ⟨v1, v2, hcs, hv1, hv2⟩, hcell⟩ := hcl k x hx
      subst ha
      have a0 : wr.cell? ⟨b, o + k * 4 + 0, none⟩ = some v1 := hcell 0 v1 (by rw [hcs]; rfl)
      have a3 : wr.cell? ⟨b, o + k * 4 + 3, none⟩ = some v2 := hcell 3 v2 (by rw [hcs]; rfl)
      rw [Nat.add_zero] at a0
      obtain ⟨b1, c1, rfl⟩ := hv1.shape
      obtain ⟨b2, c2, rfl⟩ := hv2.shape
      have g1 := hv1.1
      have g2 := hv2.1
      have HX := Lib.hid hx
      clear hx hcl hcs hv1 hv2 hcell
      by_cases hs1 : x.vals.length ≤ 6
      · by_cases hs2 : x.lin.length ≤ 6
        · go_wp2_with fail
          go_roundw
          case rel =>
            refine ⟨k + 1, by omega, by omega, by go_num, ?_, by first | rfl | trivial⟩
            rw [take_get HX.out]; intro y hy
            rcases List.mem_append.1 hy with h | h
            · exact HALL.out y h
            · simp at h; subst h; simp [small, hs1, hs2]
          case measure => simp [intOf]; omega
        · have hff : few l m = false := by
            have h1 : small x = false := by simp [small]; omega
            rw [few, Bool.and_eq_false_iff]; right
            exact List.all_eq_false.2 ⟨x, List.mem_of_getElem? HX.out, by rw [h1]; simp⟩
          have HFF := Lib.hid hff
          clear hff
          go_wp2_with fail
          go_ret
          exact ⟨by rw [HFF.out]; rfl, rfl⟩
      · have hff : few l m = false := by
          have h1 : small x = false := by simp [small]; omega
          rw [few, Bool.and_eq_false_iff]; right
          exact List.all_eq_false.2 ⟨x, List.mem_of_getElem? HX.out, by rw [h1]; simp⟩
        have HFF := Lib.hid hff
        clear hff
        go_wp2_with fail
        go_ret
        exact ⟨by rw [HFF.out]; rfl, rfl⟩
    · have hff : few l m = decide (n ≤ m) := by
        rw [few, ← HN.out]
        by_cases hnm : n ≤ m
        · have : k = n := by omega
          subst this
          have h2 : l.all small = true := by rw [List.all_eq_true]; intro y hy; exact HALL.out y (by rw [List.take_of_length_le (by rw [← HN.out]; omega)]; exact hy)
          rw [h2]; simp
        · simp [hnm]
      have HFF := Lib.hid hff
      clear hff
      by_cases hk3 : k < n
      · have hkd : decide ((k : Int) ≤ (m : Int)) = false := by simp; omega
        go_wp2_with fail
        go_ret
        exact ⟨by rw [HFF.out]; rfl, rfl⟩
      · go_wp2_with fail
        go_ret
        exact ⟨by rw [HFF.out]; rfl, rfl⟩
end Go.Proofs.Ytminnkihcohflaa
