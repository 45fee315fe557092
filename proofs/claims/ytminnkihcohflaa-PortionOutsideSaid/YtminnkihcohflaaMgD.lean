/- A part of the proofs of the laws of chapter 19: Prd, Own, Idf, Smv, MapI, AppP, ApIx, Chk, Hand. No condition beside sizes. -/
import Derived.Test.YtminnkihcohflaaMgC
import Derived.Test.YtminnkihcohflaaMgB
import Derived.Test.YtminnkihcohflaaMgA
import Derived.Maps.OwnSet
import Derived.Maps.OwnOps
import Derived.Maps.RangeWalk
import Derived.Maps.Views
import Derived.Deep.RegionHeld3
namespace Go.Proofs.Ytminnkihcohflaa
open Go.RowKit Go.Lib Go.Shelf

def pdays (lo hi : Int) : Bool := pvalid lo hi && decide (hi ≤ 1000000)
set_option maxHeartbeats 1000000 in
theorem rprd_valid (lo hi : Int) (w : World) :
    Calls Try.prog 67 #[.agg #[.int .i64 lo, .int .i64 hi]] w fun e w' => e = .returned (.bool (pvalid lo hi)) ∧ Below w.heap.size w w' := by
  go_enter Try.func67, Try.ntmps67
  go_wp2
  all_goals go_ret
  all_goals refine ⟨congrArg (fun b => Ending.returned (.bool b)) ?_, below_alloc _ _⟩
  all_goals (simp [pvalid, *]; try omega)
set_option maxHeartbeats 1000000 in
theorem prd_days (lo hi : Int) (w : World) :
    Calls Try.prog 54 #[.agg #[.int .i64 lo, .int .i64 hi]] w fun e w' => e = .returned (.bool (pdays lo hi)) ∧ Below w.heap.size w w' := by
  have HV : ∀ W, Hid (Calls Try.prog 45 #[.agg #[.int .i64 lo, .int .i64 hi]] W fun e w' => e = .returned (.bool (pvalid lo hi)) ∧ Below W.heap.size W w') := fun W => pvalid_any lo hi W
  have HR : Hid (pdays lo hi = (pvalid lo hi && decide (hi ≤ 1000000))) := Lib.hid rfl
  generalize pdays lo hi = r at HR ⊢
  go_enter Try.func54, Try.ntmps54
  go_wp2_with fail
  refine (HV _).out.mono ?_
  rintro e w2 ⟨rfl, hb⟩
  obtain ⟨x0, x1, x2, x3⟩ := box_two (box_kept (World.alloc_heap_new w (.cells #[.int .i64 lo, .int .i64 hi] 31)) hb)
  have HB := Lib.hid (below_alloc2' hb)
  clear HV hb
  cases hp : pvalid lo hi
  all_goals rw [hp] at HR
  all_goals clear hp
  all_goals go_wp2_with fail
  all_goals go_ret
  all_goals refine ⟨congrArg (fun b => Ending.returned (.bool b)) ?_, HB.out⟩
  all_goals (rw [HR.out]; simp)
set_option maxHeartbeats 1000000 in
theorem rprd_days (lo hi : Int) (w : World) :
    Calls Try.prog 56 #[.agg #[.int .i64 lo, .int .i64 hi]] w fun e w' => e = .returned (.bool (pdays lo hi)) ∧ Below w.heap.size w w' := by
  have HV : ∀ W, Hid (Calls Try.prog 67 #[.agg #[.int .i64 lo, .int .i64 hi]] W fun e w' => e = .returned (.bool (pvalid lo hi)) ∧ Below W.heap.size W w') := fun W => rprd_valid lo hi W
  have HR : Hid (pdays lo hi = (pvalid lo hi && decide (hi ≤ 1000000))) := Lib.hid rfl
  generalize pdays lo hi = r at HR ⊢
  go_enter Try.func56, Try.ntmps56
  go_wp2_with fail
  refine (HV _).out.mono ?_
  rintro e w2 ⟨rfl, hb⟩
  obtain ⟨x0, x1, x2, x3⟩ := box_two (box_kept (World.alloc_heap_new w (.cells #[.int .i64 lo, .int .i64 hi] 31)) hb)
  have HB := Lib.hid (below_alloc2' hb)
  clear HV hb
  cases hp : pvalid lo hi
  all_goals rw [hp] at HR
  all_goals clear hp
  all_goals go_wp2_with fail
  all_goals go_ret
  all_goals refine ⟨congrArg (fun b => Ending.returned (.bool b)) ?_, HB.out⟩
  all_goals (rw [HR.out]; simp)
theorem heap4_1 (w : World) (c1 c2 c3 c4 : Obj) : ((((w.alloc c1).alloc c2).alloc c3).alloc c4).heap[w.heap.size + 1]? = some c2 := by
  refine (Below.heap_alloc _ _ _ (by simp)).trans ((Below.heap_alloc _ _ _ (by simp)).trans ?_)
  simpa using World.alloc_heap_new (w.alloc c1) c2
theorem heap4_2 (w : World) (c1 c2 c3 c4 : Obj) : ((((w.alloc c1).alloc c2).alloc c3).alloc c4).heap[w.heap.size + 1 + 1]? = some c3 := by
  refine (Below.heap_alloc _ _ _ (by simp)).trans ?_
  simpa using World.alloc_heap_new ((w.alloc c1).alloc c2) c3
theorem heap4_3 (w : World) (c1 c2 c3 c4 : Obj) : ((((w.alloc c1).alloc c2).alloc c3).alloc c4).heap[w.heap.size + 1 + 1 + 1]? = some c4 := by
  simpa using World.alloc_heap_new (((w.alloc c1).alloc c2).alloc c3) c4
/-- The common part of two periods: whether there is one, its ends. -/
def isOk (a b c d : Int) : Bool := pvalid a b && pvalid c d && decide (max a c < min b d)
def isLo (a b c d : Int) : Int := if isOk a b c d = true then max a c else 0
def isHi (a b c d : Int) : Int := if isOk a b c d = true then min b d else 0
set_option maxHeartbeats 2000000 in
theorem isect_any (a b c d : Int) (w : World) :
    Calls Try.prog 86 #[.agg #[.int .i64 a, .int .i64 b], .agg #[.int .i64 c, .int .i64 d]] w fun e w' =>
      e = .returned (.tuple #[.agg #[.int .i64 (isLo a b c d), .int .i64 (isHi a b c d)], .bool (isOk a b c d)]) ∧ Below w.heap.size w w' := by
  have HV : ∀ x y W, Hid (Calls Try.prog 45 #[.agg #[.int .i64 x, .int .i64 y]] W fun e w' => e = .returned (.bool (pvalid x y)) ∧ Below W.heap.size W w') := fun x y W => pvalid_any x y W
  have HK : Hid (∀ r, isOk a b c d = r → (isLo a b c d = if r = true then max a c else 0) ∧ (isHi a b c d = if r = true then min b d else 0)) := by
    show ∀ r, _
    rintro r rfl
    exact ⟨rfl, rfl⟩
  have HR : Hid (isOk a b c d = (pvalid a b && pvalid c d && decide (max a c < min b d))) := Lib.hid rfl
  go_enter Try.func86, Try.ntmps86
  go_wp2_with fail
  obtain ⟨lo, hlo⟩ : ∃ lo, lo = max a c := ⟨_, rfl⟩
  obtain ⟨hi, hhi⟩ : ∃ hi, hi = min b d := ⟨_, rfl⟩
  rw [← hlo, ← hhi] at HR HK ⊢
  clear hlo hhi
  refine (HV _ _ _).out.mono ?_
  rintro e w2 ⟨rfl, hb⟩
  have h0 := box_kept (heap4_0 w (.cells #[.int .i64 a, .int .i64 b] 31) (.cells #[.int .i64 c, .int .i64 d] 31) (.cells #[.int .i64 0, .int .i64 0] 31) (.cells #[.int .i64 lo, .int .i64 hi] 31)) hb
  have h1 := box_kept (heap4_1 w (.cells #[.int .i64 a, .int .i64 b] 31) (.cells #[.int .i64 c, .int .i64 d] 31) (.cells #[.int .i64 0, .int .i64 0] 31) (.cells #[.int .i64 lo, .int .i64 hi] 31)) hb
  have h2 := box_kept (heap4_2 w (.cells #[.int .i64 a, .int .i64 b] 31) (.cells #[.int .i64 c, .int .i64 d] 31) (.cells #[.int .i64 0, .int .i64 0] 31) (.cells #[.int .i64 lo, .int .i64 hi] 31)) hb
  have h3 := box_kept (heap4_3 w (.cells #[.int .i64 a, .int .i64 b] 31) (.cells #[.int .i64 c, .int .i64 d] 31) (.cells #[.int .i64 0, .int .i64 0] 31) (.cells #[.int .i64 lo, .int .i64 hi] 31)) hb
  have hB := below_keep (bel4 w (.cells #[.int .i64 a, .int .i64 b] 31) (.cells #[.int .i64 c, .int .i64 d] 31) (.cells #[.int .i64 0, .int .i64 0] 31) (.cells #[.int .i64 lo, .int .i64 hi] 31)) hb
  have hz : w.heap.size + 1 + 1 + 1 < w2.heap.size := by have := hb.size; simp at this; omega
  clear hb
  cases hp : pvalid a b
  · rw [hp] at HR
    clear hp
    have HF : Hid (isOk a b c d = false) := by show _ = _; rw [HR.out]; rfl
    obtain ⟨x0, x1, x2, x3⟩ := box_two h2
    have HB := Lib.hid hB
    clear HR HV hB h0 h1 h2 h3
    go_wp2_with fail
    have hz2 : w.heap.size + 1 + 1 < w2.heap.size := by omega
    refine bodyPost_ret (v := .tuple #[.agg #[.int .i64 0, .int .i64 0], .bool false]) (by simp [results, Try.results86, go_sem, x0, x1]) rfl ⟨?_, (HB.out.setCell (by simp; omega) _).setCell (by simp; omega) _⟩
    obtain ⟨k1, k2⟩ := HK.out _ HF.out
    rw [k1, k2, HF.out]
    rfl
  · rw [hp] at HR
    clear hp
    obtain ⟨y0, y1, y2, y3⟩ := box_two h1
    have H2 := Lib.hid h2
    have H3 := Lib.hid h3
    have HB := Lib.hid hB
    clear hB h0 h1 h2 h3
    go_wp2_with fail
    refine (HV _ _ _).out.mono ?_
    rintro e w3 ⟨rfl, hb3⟩
    obtain ⟨x0, x1, x2, x3⟩ := box_two (box_kept H2.out hb3)
    obtain ⟨z0, z1, z2, z3⟩ := box_two (box_kept H3.out hb3)
    have HB3 := Lib.hid (below_keep HB.out hb3)
    have hz2 : w.heap.size + 1 + 1 < w3.heap.size := by have := hb3.size; omega
    have hz3 : w.heap.size + 1 + 1 + 1 < w3.heap.size := by have := hb3.size; omega
    clear HV hb3 y0 y1 y2 y3 HB
    cases hq : pvalid c d
    · rw [hq] at HR
      clear hq
      have HF : Hid (isOk a b c d = false) := by show _ = _; rw [HR.out]; rfl
      clear HR z0 z1 z2 z3
      go_wp2_with fail
      refine bodyPost_ret (v := .tuple #[.agg #[.int .i64 0, .int .i64 0], .bool false]) (by simp [results, Try.results86, go_sem, x0, x1]) rfl ⟨?_, (HB3.out.setCell (by simp; omega) _).setCell (by simp; omega) _⟩
      obtain ⟨k1, k2⟩ := HK.out _ HF.out
      rw [k1, k2, HF.out]
      rfl
    · rw [hq] at HR
      clear hq
      by_cases hlt : lo < hi
      · have HF : Hid (isOk a b c d = true) := by show _ = _; rw [HR.out]; simp [hlt]
        clear HR
        go_wp2_with fail
        refine bodyPost_ret (v := .tuple #[.agg #[.int .i64 lo, .int .i64 hi], .bool true]) (by simp [results, Try.results86, go_sem, x0, x1]) rfl ⟨?_, (HB3.out.setCell (by simp; omega) _).setCell (by simp; omega) _⟩
        obtain ⟨k1, k2⟩ := HK.out _ HF.out
        rw [k1, k2, HF.out]
        rfl
      · have HF : Hid (isOk a b c d = false) := by show _ = _; rw [HR.out]; simp [hlt]
        have hge : hi ≤ lo := by omega
        clear HR
        go_wp2_with fail
        refine bodyPost_ret (v := .tuple #[.agg #[.int .i64 0, .int .i64 0], .bool false]) (by simp [results, Try.results86, go_sem, x0, x1]) rfl ⟨?_, (HB3.out.setCell (by simp; omega) _).setCell (by simp; omega) _⟩
        obtain ⟨k1, k2⟩ := HK.out _ HF.out
        rw [k1, k2, HF.out]
        rfl
set_option maxHeartbeats 2000000 in
theorem risect_any (a b c d : Int) (w : World) :
    Calls Try.prog 88 #[.agg #[.int .i64 a, .int .i64 b], .agg #[.int .i64 c, .int .i64 d]] w fun e w' =>
      e = .returned (.tuple #[.agg #[.int .i64 (isLo a b c d), .int .i64 (isHi a b c d)], .bool (isOk a b c d)]) ∧ Below w.heap.size w w' := by
  have HV : ∀ x y W, Hid (Calls Try.prog 67 #[.agg #[.int .i64 x, .int .i64 y]] W fun e w' => e = .returned (.bool (pvalid x y)) ∧ Below W.heap.size W w') := fun x y W => rprd_valid x y W
  have HK : Hid (∀ r, isOk a b c d = r → (isLo a b c d = if r = true then max a c else 0) ∧ (isHi a b c d = if r = true then min b d else 0)) := by
    show ∀ r, _
    rintro r rfl
    exact ⟨rfl, rfl⟩
  have HR : Hid (isOk a b c d = (pvalid a b && pvalid c d && decide (max a c < min b d))) := Lib.hid rfl
  go_enter Try.func88, Try.ntmps88
  go_wp2_with fail
  obtain ⟨lo, hlo⟩ : ∃ lo, lo = max a c := ⟨_, rfl⟩
  obtain ⟨hi, hhi⟩ : ∃ hi, hi = min b d := ⟨_, rfl⟩
  rw [← hlo, ← hhi] at HR HK ⊢
  clear hlo hhi
  refine (HV _ _ _).out.mono ?_
  rintro e w2 ⟨rfl, hb⟩
  have h0 := box_kept (heap4_0 w (.cells #[.int .i64 a, .int .i64 b] 31) (.cells #[.int .i64 c, .int .i64 d] 31) (.cells #[.int .i64 0, .int .i64 0] 31) (.cells #[.int .i64 lo, .int .i64 hi] 31)) hb
  have h1 := box_kept (heap4_1 w (.cells #[.int .i64 a, .int .i64 b] 31) (.cells #[.int .i64 c, .int .i64 d] 31) (.cells #[.int .i64 0, .int .i64 0] 31) (.cells #[.int .i64 lo, .int .i64 hi] 31)) hb
  have h2 := box_kept (heap4_2 w (.cells #[.int .i64 a, .int .i64 b] 31) (.cells #[.int .i64 c, .int .i64 d] 31) (.cells #[.int .i64 0, .int .i64 0] 31) (.cells #[.int .i64 lo, .int .i64 hi] 31)) hb
  have h3 := box_kept (heap4_3 w (.cells #[.int .i64 a, .int .i64 b] 31) (.cells #[.int .i64 c, .int .i64 d] 31) (.cells #[.int .i64 0, .int .i64 0] 31) (.cells #[.int .i64 lo, .int .i64 hi] 31)) hb
  have hB := below_keep (bel4 w (.cells #[.int .i64 a, .int .i64 b] 31) (.cells #[.int .i64 c, .int .i64 d] 31) (.cells #[.int .i64 0, .int .i64 0] 31) (.cells #[.int .i64 lo, .int .i64 hi] 31)) hb
  have hz : w.heap.size + 1 + 1 + 1 < w2.heap.size := by have := hb.size; simp at this; omega
  clear hb
  cases hp : pvalid a b
  · rw [hp] at HR
    clear hp
    have HF : Hid (isOk a b c d = false) := by show _ = _; rw [HR.out]; rfl
    obtain ⟨x0, x1, x2, x3⟩ := box_two h2
    have HB := Lib.hid hB
    clear HR HV hB h0 h1 h2 h3
    go_wp2_with fail
    have hz2 : w.heap.size + 1 + 1 < w2.heap.size := by omega
    refine bodyPost_ret (v := .tuple #[.agg #[.int .i64 0, .int .i64 0], .bool false]) (by simp [results, Try.results88, go_sem, x0, x1]) rfl ⟨?_, (HB.out.setCell (by simp; omega) _).setCell (by simp; omega) _⟩
    obtain ⟨k1, k2⟩ := HK.out _ HF.out
    rw [k1, k2, HF.out]
    rfl
  · rw [hp] at HR
    clear hp
    obtain ⟨y0, y1, y2, y3⟩ := box_two h1
    have H2 := Lib.hid h2
    have H3 := Lib.hid h3
    have HB := Lib.hid hB
    clear hB h0 h1 h2 h3
    go_wp2_with fail
    refine (HV _ _ _).out.mono ?_
    rintro e w3 ⟨rfl, hb3⟩
    obtain ⟨x0, x1, x2, x3⟩ := box_two (box_kept H2.out hb3)
    obtain ⟨z0, z1, z2, z3⟩ := box_two (box_kept H3.out hb3)
    have HB3 := Lib.hid (below_keep HB.out hb3)
    have hz2 : w.heap.size + 1 + 1 < w3.heap.size := by have := hb3.size; omega
    have hz3 : w.heap.size + 1 + 1 + 1 < w3.heap.size := by have := hb3.size; omega
    clear HV hb3 y0 y1 y2 y3 HB
    cases hq : pvalid c d
    · rw [hq] at HR
      clear hq
      have HF : Hid (isOk a b c d = false) := by show _ = _; rw [HR.out]; rfl
      clear HR z0 z1 z2 z3
      go_wp2_with fail
      refine bodyPost_ret (v := .tuple #[.agg #[.int .i64 0, .int .i64 0], .bool false]) (by simp [results, Try.results88, go_sem, x0, x1]) rfl ⟨?_, (HB3.out.setCell (by simp; omega) _).setCell (by simp; omega) _⟩
      obtain ⟨k1, k2⟩ := HK.out _ HF.out
      rw [k1, k2, HF.out]
      rfl
    · rw [hq] at HR
      clear hq
      by_cases hlt : lo < hi
      · have HF : Hid (isOk a b c d = true) := by show _ = _; rw [HR.out]; simp [hlt]
        clear HR
        go_wp2_with fail
        refine bodyPost_ret (v := .tuple #[.agg #[.int .i64 lo, .int .i64 hi], .bool true]) (by simp [results, Try.results88, go_sem, x0, x1]) rfl ⟨?_, (HB3.out.setCell (by simp; omega) _).setCell (by simp; omega) _⟩
        obtain ⟨k1, k2⟩ := HK.out _ HF.out
        rw [k1, k2, HF.out]
        rfl
      · have HF : Hid (isOk a b c d = false) := by show _ = _; rw [HR.out]; simp [hlt]
        have hge : hi ≤ lo := by omega
        clear HR
        go_wp2_with fail
        refine bodyPost_ret (v := .tuple #[.agg #[.int .i64 0, .int .i64 0], .bool false]) (by simp [results, Try.results88, go_sem, x0, x1]) rfl ⟨?_, (HB3.out.setCell (by simp; omega) _).setCell (by simp; omega) _⟩
        obtain ⟨k1, k2⟩ := HK.out _ HF.out
        rw [k1, k2, HF.out]
        rfl
end Go.Proofs.Ytminnkihcohflaa

namespace Go.Proofs.Ytminnkihcohflaa
open Go.RowKit Go.Lib

/-- A list with some values laid in from place j on. -/
def setL : List Value → Nat → List Value → List Value
  | xs, _, [] => xs
  | xs, j, u :: us => setL (xs.set j u) (j + 1) us
theorem setL_length : ∀ (us xs : List Value) (j : Nat), (setL xs j us).length = xs.length
  | [], _, _ => rfl
  | u :: us, xs, j => by rw [setL, setL_length us]; simp
theorem setL_get : ∀ (us xs : List Value) (j m : Nat), (setL xs j us)[m]? = if j ≤ m ∧ m < j + us.length ∧ m < xs.length then us[m - j]? else xs[m]?
  | [], xs, j, m => by rw [if_neg (by simp; omega)]; rfl
  | u :: us, xs, j, m => by
    rw [setL, setL_get us]
    simp only [List.length_set, List.length_cons]
    by_cases h1 : j + 1 ≤ m ∧ m < j + 1 + us.length ∧ m < xs.length
    · rw [if_pos h1, if_pos (by omega), show m - j = m - (j + 1) + 1 by omega, List.getElem?_cons_succ]
    · rw [if_neg h1]
      by_cases h2 : m = j
      · subst h2
        by_cases h3 : m < xs.length
        · rw [if_pos (by omega), Nat.sub_self, List.getElem?_cons_zero]; simp [h3]
        · rw [if_neg (by omega), List.getElem?_eq_none (by simpa using h3), List.getElem?_eq_none (by omega)]
      · rw [if_neg (by omega), List.getElem?_set_ne (Ne.symm h2)]
theorem owns_setCells {e : TypeId} {base size g n cap : Nat} : ∀ (us : List Value) (w : World) (xs : List Value) (j : Nat), w.ownsRow base e size (.slice (some ⟨g, 0, none⟩) n cap) n xs →
    (w.setCells g j us).ownsRow base e size (.slice (some ⟨g, 0, none⟩) n cap) n (setL xs j us) ∧ w.grownBy (w.setCells g j us) (some g)
  | [], w, xs, j, h => ⟨h, ⟨rfl, rfl, rfl, Nat.le_refl _, fun _ _ _ => rfl⟩⟩
  | u :: us, w, xs, j, h => by
    obtain ⟨h1, h2⟩ := h.stored j u
    obtain ⟨h3, h4⟩ := owns_setCells us _ _ (j + 1) h1
    exact ⟨h3, ⟨h4.1.trans h2.1, h4.2.trans h2.2, h4.3.trans h2.3, Nat.le_trans h2.size h4.size, fun k hk hne => (h4.block k (Nat.lt_of_lt_of_le hk h2.size) hne).trans (h2.block k hk hne)⟩⟩
section
variable {P : Program} {α : Type}
theorem setL_take (us xs : List Value) (s i k : Nat) (hu : us.length = s) (hk : k * s + s ≤ xs.length) : ((setL xs (k * s) us).drop (i * s)).take s = if i = k then us else (xs.drop (i * s)).take s := by
  refine List.ext_getElem? fun m => ?_
  rw [List.getElem?_take, List.getElem?_drop, setL_get]
  by_cases hm : m < s
  · rw [if_pos hm]
    by_cases hik : i = k
    · subst hik
      rw [if_pos (by omega), if_pos rfl, Nat.add_sub_cancel_left]
    · rw [if_neg hik, List.getElem?_take, if_pos hm, List.getElem?_drop, if_neg]
      intro h
      rcases Nat.lt_or_gt_of_ne hik with h' | h'
      · have := Nat.mul_le_mul_right s (show i + 1 ≤ k from h'); rw [Nat.add_mul, Nat.one_mul] at this; omega
      · have := Nat.mul_le_mul_right s (show k + 1 ≤ i from h'); rw [Nat.add_mul, Nat.one_mul] at this; omega
  · rw [if_neg hm]
    split
    · rw [List.getElem?_eq_none (by omega)]
    · rw [List.getElem?_take, if_neg hm]
/-- One element is stored anew. -/
theorem Own.put {E : El P α} {w : World} {B g n c k : Nat} {l : List α} {x : α} {cs : List Value} (h : Own E w B (.slice (some ⟨g, 0, none⟩) n c) l) (hn : l.length = n) (hk : k < n) (hx : E.is w (fun m => some m = some g) x cs) :
    Own E (w.setCells g (k * E.size) cs) B (.slice (some ⟨g, 0, none⟩) n c) (l.set k x) ∧ w.grownBy (w.setCells g (k * E.size) cs) (some g) := by
  obtain ⟨xs, h1, h2⟩ := h
  rw [hn] at h1
  obtain ⟨h3, h4⟩ := owns_setCells cs w xs (k * E.size) h1
  have hK : Kept (fun m => some m = some g) w (w.setCells g (k * E.size) cs) := .of_grown h4
  have hxl : xs.length = n * E.size := h1.1
  have hb : k * E.size + E.size ≤ xs.length := by
    have := Nat.mul_le_mul_right E.size (show k + 1 ≤ n from hk); rw [Nat.add_mul, Nat.one_mul] at this; omega
  refine ⟨⟨_, by rw [List.length_set, hn]; exact h3, fun i y hy => ?_⟩, h4⟩
  rw [setL_take cs xs E.size i k (E.len hx) hb]
  by_cases hik : i = k
  · subst hik
    rw [if_pos rfl]
    rw [List.getElem?_set_self (by omega)] at hy
    cases hy
    exact E.kept hx hK
  · rw [if_neg hik]
    rw [List.getElem?_set_ne (Ne.symm hik)] at hy
    exact E.kept (h2 i y hy) hK
/-- An element of the row, and that its cells may be laid elsewhere in the row. -/
theorem Own.at {E : El P α} {w : World} {B g n c k : Nat} {l : List α} {x : α} (h : Own E w B (.slice (some ⟨g, 0, none⟩) n c) l) (hk : l[k]? = some x) :
    ∃ cs, E.is w (fun m => some m = some g) x cs ∧ ∀ j u, cs[j]? = some u → w.cell? ⟨g, k * E.size + j, none⟩ = some u := by
  obtain ⟨xs, h1, h2⟩ := h
  have hk1 := (List.getElem?_eq_some_iff.1 hk).1
  obtain ⟨h3, h4, a, c', e, h5, h6⟩ := own_reads h1
  obtain ⟨b, o, rfl, h7⟩ := h6 (by omega)
  cases e
  refine ⟨_, h2 k x hk, fun j u hu => ?_⟩
  rw [List.getElem?_take] at hu
  split at hu
  · rw [List.getElem?_drop] at hu
    have := h7 _ u hu
    simpa using this
  · cases hu
theorem Own.frozen {E : El P α} {w : World} {B g n c : Nat} {l : List α} (h : Own E w B (.slice (some ⟨g, 0, none⟩) n c) l) (hn : l.length = n) (j : Nat) : w.frozen? ⟨g, j, none⟩ = false := by
  obtain ⟨xs, h1, _⟩ := h
  rw [hn] at h1
  exact h1.frozenAt j
end

section
variable {P : Program} {α : Type}
theorem Kept.or {G D : Nat → Prop} {w w' : World} (h : Kept G w w') : Kept (fun k => G k ∨ D k) w w' := ⟨h.1, fun k h1 h2 => h.2 k h1 (fun h3 => h2 (.inl h3))⟩
/-- The same elements, their data outside of D. -/
def El.avoid (E : El P α) (D : Nat → Prop) : El P α where
  ty := E.ty
  size := E.size
  bytes := E.bytes
  pos := E.pos
  info := E.info
  is := fun w G x cs => E.is w (fun k => G k ∨ D k) x cs
  len := fun h => E.len h
  one := fun h => E.one h
  mono := fun h hm => E.mono h (fun k hk hd => hd.imp (hm k hk) id)
  kept := fun h hk => E.kept h ⟨hk.1, fun k h1 h2 => hk.2 k h1 (fun h3 => h2 (.inl h3))⟩
theorem Own.forget {E : El P α} {D : Nat → Prop} {w : World} {B : Nat} {v : Value} {l : List α} (h : Own (E.avoid D) w B v l) : Own E w B v l := by
  obtain ⟨xs, h1, h2⟩ := h
  exact ⟨xs, h1, fun i x hx => E.mono (h2 i x hx) (fun _ _ hk => .inl hk)⟩
theorem Own.else {E : El P α} {D : Nat → Prop} {w w' : World} {B : Nat} {v : Value} {l : List α} (h : Own (E.avoid D) w B v l) (hk : Kept D w w') (hD : ∀ k, v.ownBlock = some k → ¬ D k) : Own (E.avoid D) w' B v l := by
  obtain ⟨xs, h1, h2⟩ := h
  refine ⟨xs, ⟨h1.1, h1.2.imp id ?_⟩, fun i x hx => E.kept (h2 i x hx) ⟨hk.1, fun k h3 h4 => hk.2 k h3 (fun h5 => h4 (.inr h5))⟩⟩
  rintro ⟨g, cap, cur, rfl, hg, hh, r⟩
  exact ⟨g, cap, cur, rfl, hg, (hk.2 g (Array.getElem?_eq_some_iff.1 hh).1 (hD g rfl)).trans hh, r⟩
end

/-- A version of the program. -/
structure Ver where
  id : Int
  vals : List GVal
  lo : Int
  hi : Int
  rlo : Int
  rhi : Int
theorem ver_info : (Try.prog.info? 59).map (fun i => (i.zero, i.size, i.bytes)) = some (some (.agg #[.int .i64 0, .slice none 0 0, .int .i64 0, .int .i64 0, .int .i64 0, .int .i64 0]), 6, 64) := by kernel_rfl
/-- Versions. -/
def verE : El Try.prog Ver where
  ty := 59
  size := 6
  bytes := 64
  pos := by decide
  info := info_mk ver_info rfl
  is := fun w G t cs => ∃ v, cs = [.int .i64 t.id, v, .int .i64 t.lo, .int .i64 t.hi, .int .i64 t.rlo, .int .i64 t.rhi] ∧ Sl valE w G v t.vals
  len := by rintro w G t cs ⟨v, rfl, _⟩; rfl
  one := by
    rintro w G t cs ⟨v, rfl, h1⟩ x hx
    simp at hx
    rcases hx with rfl | rfl | rfl | rfl | rfl | rfl
    · rfl
    · exact h1.one
    · rfl
    · rfl
    · rfl
    · rfl
  mono := by rintro w G G' t cs ⟨v, rfl, h1⟩ hm; exact ⟨v, rfl, h1.mono hm⟩
  kept := by rintro w w' G t cs ⟨v, rfl, h1⟩ hk; exact ⟨v, rfl, h1.kept hk⟩
theorem vers_at {D : Nat → Prop} {w : World} {G : Nat → Prop} {a : Option Addr} {n c k : Nat} {l : List Ver} {x : Ver} (h : Sl (verE.avoid D) w G (.slice a n c) l) (hk : l[k]? = some x) :
    ∃ b o a1 n1, a = some ⟨b, o, none⟩ ∧ Sl valE w (fun k => G k ∨ D k) (.slice a1 x.vals.length n1) x.vals ∧
      w.cell? ⟨b, o + k * 6, none⟩ = some (.int .i64 x.id) ∧ w.cell? ⟨b, o + k * 6 + 1, none⟩ = some (.slice a1 x.vals.length n1) ∧ w.cell? ⟨b, o + k * 6 + 2, none⟩ = some (.int .i64 x.lo) ∧ w.cell? ⟨b, o + k * 6 + 3, none⟩ = some (.int .i64 x.hi) ∧ w.cell? ⟨b, o + k * 6 + 4, none⟩ = some (.int .i64 x.rlo) ∧ w.cell? ⟨b, o + k * 6 + 5, none⟩ = some (.int .i64 x.rhi) := by
  obtain ⟨b, o, cs, ha, ⟨v, rfl, hv⟩, hc⟩ := Sl.at h hk
  obtain ⟨a1, n1, rfl⟩ := hv.shape
  exact ⟨b, o, a1, n1, ha, hv, hc 0 _ rfl, hc 1 _ rfl, hc 2 _ rfl, hc 3 _ rfl, hc 4 _ rfl, hc 5 _ rfl⟩
/-- The cells of a version of an own row. -/
theorem ownver_at {D : Nat → Prop} {w : World} {B g n c k : Nat} {l : List Ver} {x : Ver} (h : Own (verE.avoid D) w B (.slice (some ⟨g, 0, none⟩) n c) l) (hk : l[k]? = some x) :
    ∃ a1 n1, Sl valE w (fun m => some m = some g ∨ D m) (.slice a1 x.vals.length n1) x.vals ∧
      w.cell? ⟨g, k * 6, none⟩ = some (.int .i64 x.id) ∧ w.cell? ⟨g, k * 6 + 1, none⟩ = some (.slice a1 x.vals.length n1) ∧ w.cell? ⟨g, k * 6 + 2, none⟩ = some (.int .i64 x.lo) ∧ w.cell? ⟨g, k * 6 + 3, none⟩ = some (.int .i64 x.hi) ∧ w.cell? ⟨g, k * 6 + 4, none⟩ = some (.int .i64 x.rlo) ∧ w.cell? ⟨g, k * 6 + 5, none⟩ = some (.int .i64 x.rhi) := by
  obtain ⟨cs, ⟨v, rfl, hv⟩, hc⟩ := h.at hk
  obtain ⟨a1, n1, rfl⟩ := hv.shape
  exact ⟨a1, n1, hv, hc 0 _ rfl, hc 1 _ rfl, hc 2 _ rfl, hc 3 _ rfl, hc 4 _ rfl, hc 5 _ rfl⟩
theorem setCells6 (w : World) (g o : Nat) (c0 c1 c2 c3 c4 c5 : Value) : ((((((w.setCell ⟨g, o, none⟩ c0).setCell ⟨g, o + 1, none⟩ c1).setCell ⟨g, o + 2, none⟩ c2).setCell ⟨g, o + 3, none⟩ c3).setCell ⟨g, o + 4, none⟩ c4).setCell ⟨g, o + 5, none⟩ c5) = w.setCells g o [c0, c1, c2, c3, c4, c5] := rfl
theorem ownver_put {D : Nat → Prop} {w : World} {B g n c k : Nat} {l : List Ver} {x : Ver} {v : Value} (h : Own (verE.avoid D) w B (.slice (some ⟨g, 0, none⟩) n c) l) (hn : l.length = n) (hk : k < n) (hx : Sl valE w (fun m => some m = some g ∨ D m) v x.vals) :
    Own (verE.avoid D) ((((((w.setCell ⟨g, k * 6, none⟩ (.int .i64 x.id)).setCell ⟨g, k * 6 + 1, none⟩ v).setCell ⟨g, k * 6 + 2, none⟩ (.int .i64 x.lo)).setCell ⟨g, k * 6 + 3, none⟩ (.int .i64 x.hi)).setCell ⟨g, k * 6 + 4, none⟩ (.int .i64 x.rlo)).setCell ⟨g, k * 6 + 5, none⟩ (.int .i64 x.rhi)) B (.slice (some ⟨g, 0, none⟩) n c) (l.set k x) ∧
    w.grownBy ((((((w.setCell ⟨g, k * 6, none⟩ (.int .i64 x.id)).setCell ⟨g, k * 6 + 1, none⟩ v).setCell ⟨g, k * 6 + 2, none⟩ (.int .i64 x.lo)).setCell ⟨g, k * 6 + 3, none⟩ (.int .i64 x.hi)).setCell ⟨g, k * 6 + 4, none⟩ (.int .i64 x.rlo)).setCell ⟨g, k * 6 + 5, none⟩ (.int .i64 x.rhi)) (some g) := by
  rw [setCells6]
  exact h.put hn hk (x := x) (cs := [.int .i64 x.id, v, .int .i64 x.lo, .int .i64 x.hi, .int .i64 x.rlo, .int .i64 x.rhi]) ⟨v, rfl, hx⟩
end Go.Proofs.Ytminnkihcohflaa

namespace Go.Proofs.Ytminnkihcohflaa
open Go.RowKit Go.Lib Go.Shelf

theorem Sl.avoid {P : Program} {α : Type} {E : El P α} {D G : Nat → Prop} {w : World} {v : Value} {l : List α} (h : Sl E w G v l) (hD : ∀ k, k < w.heap.size → ¬ D k) : Sl (E.avoid D) w G v l := by
  obtain ⟨h1, a, c, h2, h3, h4⟩ := h
  refine ⟨h1, a, c, h2, h3, fun hn => ?_⟩
  obtain ⟨b, o, h5, hg, h6⟩ := h4 hn
  refine ⟨b, o, h5, hg, fun i x hx => ?_⟩
  obtain ⟨cs, h7, h8⟩ := h6 i x hx
  exact ⟨cs, E.mono h7 (fun k hk h => h.elim id (fun h => absurd h (hD k hk))), h8⟩
theorem Sl.unavoid {P : Program} {α : Type} {E : El P α} {D G : Nat → Prop} {w : World} {v : Value} {l : List α} (h : Sl (E.avoid D) w G v l) : Sl E w G v l := by
  obtain ⟨h1, a, c, h2, h3, h4⟩ := h
  refine ⟨h1, a, c, h2, h3, fun hn => ?_⟩
  obtain ⟨b, o, h5, hg, h6⟩ := h4 hn
  refine ⟨b, o, h5, hg, fun i x hx => ?_⟩
  obtain ⟨cs, h7, h8⟩ := h6 i x hx
  exact ⟨cs, E.mono h7 (fun k _ h => .inl h), h8⟩
theorem ver_at {w : World} {G : Nat → Prop} {a : Option Addr} {n c k : Nat} {l : List Ver} {x : Ver} (h : Sl verE w G (.slice a n c) l) (hk : l[k]? = some x) :
    ∃ b o a1 n1, a = some ⟨b, o, none⟩ ∧ Sl valE w G (.slice a1 x.vals.length n1) x.vals ∧
      w.cell? ⟨b, o + k * 6, none⟩ = some (.int .i64 x.id) ∧ w.cell? ⟨b, o + k * 6 + 1, none⟩ = some (.slice a1 x.vals.length n1) ∧ w.cell? ⟨b, o + k * 6 + 2, none⟩ = some (.int .i64 x.lo) ∧ w.cell? ⟨b, o + k * 6 + 3, none⟩ = some (.int .i64 x.hi) ∧ w.cell? ⟨b, o + k * 6 + 4, none⟩ = some (.int .i64 x.rlo) ∧ w.cell? ⟨b, o + k * 6 + 5, none⟩ = some (.int .i64 x.rhi) := by
  obtain ⟨b, o, a1, n1, h1, h2, h3⟩ := vers_at (h.avoid (D := free) (fun _ _ h => h)) hk
  exact ⟨b, o, a1, n1, h1, h2.mono (fun _ _ h => .inl h), h3⟩
set_option maxHeartbeats 1000000 in
theorem chk1_any (x : Ver) (vx : Value) (first : Int) (g : Nat) (w : World) (hg : w.cell? ⟨g, 0, none⟩ = some (.int .i64 first)) :
    Calls Try.prog 95 #[.agg #[.int .i64 x.id, vx, .int .i64 x.lo, .int .i64 x.hi, .int .i64 x.rlo, .int .i64 x.rhi], .pointer (some ⟨g, 0, none⟩)] w fun e w' => e = .returned (.bool (decide (first ≤ x.id))) ∧ Below w.heap.size w w' := by
  have hg' := cell_alloc (o := .cells #[.int .i64 x.id, vx, .int .i64 x.lo, .int .i64 x.hi, .int .i64 x.rlo, .int .i64 x.rhi] 59) hg
  go_enter Try.func95, Try.ntmps95
  go_wp2_with fail
  go_ret
  exact ⟨rfl, below_alloc _ _⟩
set_option maxHeartbeats 1000000 in
theorem chk2_any (lo hi : Int) (v u : Value) (w : World) :
    Calls Try.prog 98 #[.agg #[v, .int .i64 lo, .int .i64 hi, u]] w fun e w' => e = .returned (.bool (!pdays lo hi)) ∧ Below w.heap.size w w' := by
  go_enter Try.func98, Try.ntmps98
  go_wp2_with fail
  refine (prd_days lo hi _).mono ?_
  rintro _ w2 ⟨rfl, hb2⟩
  have hB := below_alloc2' hb2
  clear hb2
  go_wp2_with fail
  go_ret
  exact ⟨rfl, hB⟩
set_option maxHeartbeats 2000000 in
theorem idxVer_any (v : Value) (l : List Ver) (first : Int) (g : Nat) (w : World) (hv : Sl verE w free v l) (hg : w.cell? ⟨g, 0, none⟩ = some (.int .i64 first)) :
    Calls Try.prog 124 #[v, .func (.func 95) #[] #[.pointer (some ⟨g, 0, none⟩)]] w fun e w' => ∃ r : Int, e = .returned (.int .i64 r) ∧ decide (0 ≤ r) = l.any (fun x => decide (first ≤ x.id)) ∧ Below w.heap.size w w' := by
  obtain ⟨a, c, rfl⟩ := hv.shape
  have h63 := hv.1
  have HV := Lib.hid hv
  have HG := Lib.hid hg
  obtain ⟨n, hn⟩ : ∃ n, n = l.length := ⟨_, rfl⟩
  have HN := Lib.hid hn
  rw [← hn] at h63 HV ⊢
  clear hv hn hg
  go_enter Try.func124, Try.ntmps124
  go_wp2_with fail
  go_loopw [8] (fun i wr => ∃ k : Nat, k ≤ n ∧ i = .int .i64 k ∧ Hid (l.any (fun x => decide (first ≤ x.id)) = (l.drop k).any (fun x => decide (first ≤ x.id))) ∧ Below w.heap.size w wr) (fun i _ => n - (intOf i).toNat)
  case atStart => exact ⟨0, Nat.zero_le _, rfl, Lib.hid rfl, Below.refl _ _⟩
  case round =>
    obtain ⟨k, hk, rfl, HA, hB⟩ := hrel
    obtain ⟨wo, rfl⟩ : ∃ wo : World, wo = wr := ⟨_, rfl⟩
    by_cases hlt : k < n
    · obtain ⟨x, hx⟩ := lget_some l k (by rw [← HN.out]; exact hlt)
      obtain ⟨b, o, a1, c1v, rfl, hvv, p0, p1, p2, p3, p4, p5⟩ := ver_at (HV.out.below hB) hx
      have HB := Lib.hid hB
      have HX := Lib.hid hx
      have HC : Hid (Calls Try.prog 95 #[.agg #[.int .i64 x.id, .slice a1 x.vals.length c1v, .int .i64 x.lo, .int .i64 x.hi, .int .i64 x.rlo, .int .i64 x.rhi], .pointer (some ⟨g, 0, none⟩)] wo fun e w' => e = .returned (.bool (decide (first ≤ x.id))) ∧ Below wo.heap.size wo w') := chk1_any x _ first g wo (cell_keep hB HG.out)
      have HD : Hid (l.any (fun x => decide (first ≤ x.id)) = (decide (first ≤ x.id) || (l.drop (k + 1)).any (fun x => decide (first ≤ x.id)))) := by show _ = _; rw [HA.out, drop_get hx]; rfl
      obtain ⟨xid, xvals, xlo, xhi, xrlo, xrhi⟩ := x
      dsimp only at p0 p1 p2 p3 p4 p5 HC HD
      obtain ⟨q, hq⟩ : ∃ q, q = decide (first ≤ xid) := ⟨_, rfl⟩
      rw [← hq] at HC HD
      clear hB hx hvv hq
      go_wp2_with fail
      refine HC.out.mono ?_
      rintro _ w2 ⟨rfl, hb2⟩
      have HB2 := Lib.hid (below_keep HB.out hb2)
      clear hb2
      cases q
      · go_wp2_with fail
        go_roundw
        case rel => exact ⟨k + 1, by omega, by go_num, by rw [HD.out, Bool.false_or]; exact Lib.hid rfl, HB2.out⟩
        case measure => simp [intOf]; omega
      · go_wp2_with fail
        go_ret
        refine ⟨_, rfl, ?_, HB2.out⟩
        rw [HD.out]
        simp
    · have HF : Hid (l.any (fun x => decide (first ≤ x.id)) = false) := by show _ = _; rw [HA.out, List.drop_of_length_le (by rw [← HN.out]; omega)]; rfl
      go_wp2_with fail
      go_ret
      refine ⟨_, rfl, ?_, hB⟩
      rw [HF.out]
      rfl
set_option maxHeartbeats 1000000 in
theorem containsVer_any (v : Value) (l : List Ver) (first : Int) (g : Nat) (w : World) (hv : Sl verE w free v l) (hg : w.cell? ⟨g, 0, none⟩ = some (.int .i64 first)) :
    Calls Try.prog 94 #[v, .func (.func 95) #[] #[.pointer (some ⟨g, 0, none⟩)]] w fun e w' => e = .returned (.bool (l.any fun x => decide (first ≤ x.id))) ∧ Below w.heap.size w w' := by
  have HI := Lib.hid (idxVer_any v l first g w hv hg)
  clear hv hg
  go_enter Try.func94, Try.ntmps94
  go_wp2_with fail
  refine HI.out.mono ?_
  rintro _ w2 ⟨r, rfl, hr, hb2⟩
  have HR := Lib.hid hr
  have HB := Lib.hid hb2
  clear hr hb2
  go_wp2_with fail
  go_ret
  exact ⟨ret_bool HR.out, HB.out⟩
set_option maxHeartbeats 2000000 in
theorem idxTup_any (v : Value) (l : List Tup) (w : World) (hv : Tups w v l) :
    Calls Try.prog 125 #[v, .func (.func 98) #[] #[]] w fun e w' => ∃ r : Int, e = .returned (.int .i64 r) ∧ decide (0 ≤ r) = l.any (fun x => !pdays x.lo x.hi) ∧ Below w.heap.size w w' := by
  obtain ⟨a, c, rfl⟩ := hv.shape
  have h63 := hv.1
  have HV := Lib.hid hv
  obtain ⟨n, hn⟩ : ∃ n, n = l.length := ⟨_, rfl⟩
  have HN := Lib.hid hn
  rw [← hn] at h63 HV ⊢
  clear hv hn
  go_enter Try.func125, Try.ntmps125
  go_wp2_with fail
  go_loopw [8] (fun i wr => ∃ k : Nat, k ≤ n ∧ i = .int .i64 k ∧ Hid (l.any (fun x => !pdays x.lo x.hi) = (l.drop k).any (fun x => !pdays x.lo x.hi)) ∧ Below w.heap.size w wr) (fun i _ => n - (intOf i).toNat)
  case atStart => exact ⟨0, Nat.zero_le _, rfl, Lib.hid rfl, Below.refl _ _⟩
  case round =>
    obtain ⟨k, hk, rfl, HA, hB⟩ := hrel
    obtain ⟨wo, rfl⟩ : ∃ wo : World, wo = wr := ⟨_, rfl⟩
    by_cases hlt : k < n
    · obtain ⟨x, hx⟩ := lget_some l k (by rw [← HN.out]; exact hlt)
      obtain ⟨b, o, a1, n1, e1, m1, rfl, _, _, p0, p1, p2, p3⟩ := tups_at (HV.out.below hB) hx
      have HB := Lib.hid hB
      have HC : Hid (Calls Try.prog 98 #[.agg #[.slice a1 x.vals.length n1, .int .i64 x.lo, .int .i64 x.hi, .slice e1 x.lin.length m1]] wo fun e w' => e = .returned (.bool (!pdays x.lo x.hi)) ∧ Below wo.heap.size wo w') := chk2_any x.lo x.hi _ _ wo
      have HD : Hid (l.any (fun x => !pdays x.lo x.hi) = ((!pdays x.lo x.hi) || (l.drop (k + 1)).any (fun x => !pdays x.lo x.hi))) := by show _ = _; rw [HA.out, drop_get hx]; rfl
      obtain ⟨xvals, xlo, xhi, xlin⟩ := x
      dsimp only at p0 p1 p2 p3 HC HD
      obtain ⟨q, hq⟩ : ∃ q, q = (!pdays xlo xhi) := ⟨_, rfl⟩
      rw [← hq] at HC HD
      clear hB hx hq
      go_wp2_with fail
      refine HC.out.mono ?_
      rintro _ w2 ⟨rfl, hb2⟩
      have HB2 := Lib.hid (below_keep HB.out hb2)
      clear hb2
      cases q
      · go_wp2_with fail
        go_roundw
        case rel => exact ⟨k + 1, by omega, by go_num, by rw [HD.out, Bool.false_or]; exact Lib.hid rfl, HB2.out⟩
        case measure => simp [intOf]; omega
      · go_wp2_with fail
        go_ret
        refine ⟨_, rfl, ?_, HB2.out⟩
        rw [HD.out]
        simp
    · have HF : Hid (l.any (fun x => !pdays x.lo x.hi) = false) := by show _ = _; rw [HA.out, List.drop_of_length_le (by rw [← HN.out]; omega)]; rfl
      go_wp2_with fail
      go_ret
      refine ⟨_, rfl, ?_, hB⟩
      rw [HF.out]
      rfl
set_option maxHeartbeats 1000000 in
theorem containsTup_any (v : Value) (l : List Tup) (w : World) (hv : Tups w v l) :
    Calls Try.prog 97 #[v, .func (.func 98) #[] #[]] w fun e w' => e = .returned (.bool (l.any fun x => !pdays x.lo x.hi)) ∧ Below w.heap.size w w' := by
  have HI := Lib.hid (idxTup_any v l w hv)
  clear hv
  go_enter Try.func97, Try.ntmps97
  go_wp2_with fail
  refine HI.out.mono ?_
  rintro _ w2 ⟨r, rfl, hr, hb2⟩
  have HR := Lib.hid hr
  have HB := Lib.hid hb2
  clear hr hb2
  go_wp2_with fail
  go_ret
  exact ⟨ret_bool HR.out, HB.out⟩
end Go.Proofs.Ytminnkihcohflaa

namespace Go.Proofs.Ytminnkihcohflaa
open Go.RowKit Go.Lib Go.Shelf

theorem per_same (k p : Int) (w : World) : (binOp .neq 31 (.agg #[.int .i64 k, .int .i64 p]) (.agg #[.int .i64 k, .int .i64 p])).run Try.prog w = .ok (.bool false) w := by
  rw [per_neq]
  simp
set_option maxHeartbeats 4000000 in
set_option maxRecDepth 100000 in
theorem sameVers_any (v u : Value) (l : List Ver) (w : World) (hp : Sl verE w free v l) (hp2 : Sl verE w free u l) :
    Calls Try.prog 27 #[v, u] w fun e w' => e = .returned (.bool true) ∧ Below w.heap.size w w' := by
  obtain ⟨a, c, rfl⟩ := hp.shape
  obtain ⟨a2, c2, rfl⟩ := hp2.shape
  have h63 := hp.1
  have HP := Lib.hid hp
  have HP2 := Lib.hid hp2
  obtain ⟨n, hn⟩ : ∃ n, n = l.length := ⟨_, rfl⟩
  have HN := Lib.hid hn
  rw [← hn] at h63 HP HP2 ⊢
  clear hp hp2 hn
  go_enter Try.func27, Try.ntmps27
  go_wp2_with fail
  go_loopw [5] (fun i wr => ∃ k : Nat, k ≤ n ∧ i = .int .i64 k ∧ Below w.heap.size w wr) (fun i _ => n - (intOf i).toNat)
  case atStart => exact ⟨0, Nat.zero_le _, rfl, Below.refl _ _⟩
  case round =>
    obtain ⟨k, hk, rfl, hB⟩ := hrel
    by_cases hlt : k < n
    · obtain ⟨x, hx⟩ := lget_some l k (by rw [← HN.out]; exact hlt)
      obtain ⟨b, o, a1, n1, rfl, hv1, p0, p1, p2, p3, p4, p5⟩ := ver_at HP.out hx
      obtain ⟨b2, o2, a3, n3, rfl, hv2, q0, q1, q2, q3, q4, q5⟩ := ver_at HP2.out hx
      replace p0 := cell_keep hB p0
      replace p1 := cell_keep hB p1
      replace p2 := cell_keep hB p2
      replace p3 := cell_keep hB p3
      replace p4 := cell_keep hB p4
      replace p5 := cell_keep hB p5
      replace q0 := cell_keep hB q0
      replace q1 := cell_keep hB q1
      replace q2 := cell_keep hB q2
      replace q3 := cell_keep hB q3
      replace q4 := cell_keep hB q4
      replace q5 := cell_keep hB q5
      have HV1 := Lib.hid hv1
      have HV2 := Lib.hid hv2
      have hgd := per_guard
      have heq1 := per_same x.lo x.hi
      have heq2 := per_same x.rlo x.rhi
      have HCR : ∀ W, Below w.heap.size w W → Hid (Calls Try.prog 64 #[.slice a1 x.vals.length n1, .slice a3 x.vals.length n3] W fun e w' => e = .returned (.int .i64 0) ∧ Below W.heap.size W w') := fun W hW => by
        have h := cmpRows_any (.slice a1 x.vals.length n1) (.slice a3 x.vals.length n3) x.vals x.vals W (HV1.out.below hW).vals (HV2.out.below hW).vals
        rw [cmpRows_refl] at h
        exact h
      obtain ⟨xid, xvals, xlo, xhi, xrlo, xrhi⟩ := x
      dsimp only at p0 p1 p2 p3 p4 p5 q0 q1 q2 q3 q4 q5 HCR heq1 heq2
      obtain ⟨nv, hnv⟩ : ∃ nv, nv = xvals.length := ⟨_, rfl⟩
      rw [← hnv] at p1 q1 HCR
      clear hx hv1 hv2 hnv
      go_wp2_with fail
      go_region_held3 (fun W => Below w.heap.size w W ∧ W.cell? ⟨b, o + k * 6, none⟩ = some (.int .i64 xid) ∧ W.cell? ⟨b, o + k * 6 + 1, none⟩ = some (.slice a1 nv n1) ∧ W.cell? ⟨b, o + k * 6 + 2, none⟩ = some (.int .i64 xlo) ∧ W.cell? ⟨b, o + k * 6 + 3, none⟩ = some (.int .i64 xhi) ∧ W.cell? ⟨b, o + k * 6 + 4, none⟩ = some (.int .i64 xrlo) ∧ W.cell? ⟨b, o + k * 6 + 5, none⟩ = some (.int .i64 xrhi)
          ∧ W.cell? ⟨b2, o2 + k * 6, none⟩ = some (.int .i64 xid) ∧ W.cell? ⟨b2, o2 + k * 6 + 1, none⟩ = some (.slice a3 nv n3) ∧ W.cell? ⟨b2, o2 + k * 6 + 2, none⟩ = some (.int .i64 xlo) ∧ W.cell? ⟨b2, o2 + k * 6 + 3, none⟩ = some (.int .i64 xhi) ∧ W.cell? ⟨b2, o2 + k * 6 + 4, none⟩ = some (.int .i64 xrlo) ∧ W.cell? ⟨b2, o2 + k * 6 + 5, none⟩ = some (.int .i64 xrhi))
        ((go_split_ands; refine ⟨?_, ?_, ?_, ?_, ?_, ?_, ?_, ?_, ?_, ?_, ?_, ?_, ?_⟩ <;> (first | with_reducible assumption | with_reducible exact Below.drew (by assumption) | with_reducible exact cell_drew (by assumption) | with_reducible exact below_keep (by assumption) (by assumption) | with_reducible exact cell_keep (by assumption) (by assumption))))
        (first
          | (go_at_call 64; go_split_ands; refine (HCR _ (by first | assumption | exact Below.drew (by assumption))).out.mono ?_; rintro e w3 ⟨rfl, hb3⟩))
      go_split_ands
      go_wp2_with fail
      go_roundw
      case rel => exact ⟨k + 1, by omega, by go_num, by assumption⟩
      case measure => simp [intOf]; omega
    · go_wp2_with fail
      go_ret
      exact ⟨rfl, hB⟩
def fewV (l : List Ver) (m : Nat) : Bool := decide (l.length ≤ m) && l.all fun x => decide (x.vals.length ≤ 6)
set_option maxHeartbeats 2000000 in
set_option maxRecDepth 100000 in
theorem fewV_any (v : Value) (l : List Ver) (m : Nat) (hm : m ≤ 1000) (w : World) (h : Sl verE w free v l) :
    Calls Try.prog 51 #[v, .int .i64 m] w fun e w' => e = .returned (.bool (fewV l m)) ∧ Below w.heap.size w w' := by
  obtain ⟨a, c, rfl⟩ := h.shape
  have h63 := h.1
  have HP := Lib.hid h
  obtain ⟨n, hn⟩ : ∃ n, n = l.length := ⟨_, rfl⟩
  have HN := Lib.hid hn
  rw [← hn] at h63 HP ⊢
  clear hn h
  go_enter Try.func51, Try.ntmps51
  go_wp2_with fail
  go_loopw [5] (fun i wr => ∃ k : Nat, k ≤ n ∧ k ≤ m + 1 ∧ i = .int .i64 k ∧ Hid (∀ x ∈ l.take k, x.vals.length ≤ 6) ∧ Below w.heap.size w wr) (fun i _ => n - (intOf i).toNat)
  case atStart => exact ⟨0, Nat.zero_le _, Nat.zero_le _, rfl, Lib.hid (by simp), Below.refl _ _⟩
  case round =>
    obtain ⟨k, hk, hkm, rfl, HALL, hB⟩ := hrel
    by_cases hlt1 : k < n
    · by_cases hlt2 : k ≤ m
      · obtain ⟨x, hx⟩ := lget_some l k (by rw [← HN.out]; exact hlt1)
        obtain ⟨b, o, a1, n1, rfl, hv1, p0, p1, _⟩ := ver_at (HP.out.below hB) hx
        have hs63 := hv1.1
        have HX := Lib.hid hx
        have HB := Lib.hid hB
        obtain ⟨nv, hnv⟩ : ∃ nv, nv = x.vals.length := ⟨_, rfl⟩
        rw [← hnv] at p1 hs63
        have HNV := Lib.hid hnv
        clear hx hv1 hB hnv
        by_cases hs : nv ≤ 6
        · have hs' : ¬ (6 : Int) < nv := by omega
          go_wp2_with fail
          go_roundw
          case rel =>
            refine ⟨k + 1, by omega, by omega, by go_num, Lib.hid (fun y hy => ?_), HB.out⟩
            rw [take_get HX.out] at hy
            rcases List.mem_append.1 hy with h | h
            · exact HALL.out y h
            · simp at h; subst h; rw [← HNV.out]; exact hs
          case measure => simp [intOf]; omega
        · have hs' : (6 : Int) < nv := by omega
          have HF : Hid (fewV l m = false) := by
            show _ = _
            unfold fewV
            rw [Bool.and_eq_false_iff]
            right
            exact List.all_eq_false.2 ⟨x, List.mem_of_getElem? HX.out, by rw [← HNV.out]; simpa using hs⟩
          go_wp2_with fail
          go_ret
          exact ⟨ret_bool (by rw [HF.out]), HB.out⟩
      · have HF : Hid (fewV l m = false) := by
          show _ = _
          unfold fewV
          rw [Bool.and_eq_false_iff]
          left
          rw [← HN.out]
          exact decide_eq_false (by omega)
        have hlt3 : (m : Int) < (n : Int) := by omega
        have hlt4 : ¬ (n : Int) ≤ (m : Int) := by omega
        go_wp2_with fail
        go_ret
        exact ⟨ret_bool (by rw [HF.out]; (try simp); (try omega)), hB⟩
    · have hkn : k = n := by omega
      subst hkn
      have hA := HALL.out
      rw [List.take_of_length_le (by rw [← HN.out]; exact Nat.le_refl _)] at hA
      have HF : Hid (fewV l m = decide ((k : Int) ≤ (m : Int))) := by
        show _ = _
        unfold fewV
        rw [List.all_eq_true.2 (fun x hx => by simpa using hA x hx), Bool.and_true, ← HN.out]
        exact decide_eq_decide.2 (by omega)
      clear hA
      go_wp2_with fail
      go_ret
      exact ⟨ret_bool (by rw [HF.out]; exact decide_eq_decide.2 (by omega)), hB⟩
end Go.Proofs.Ytminnkihcohflaa

namespace Go.Proofs.Ytminnkihcohflaa
open Go.RowKit Go.Lib Go.Maps

theorem int_law : Keyed Try.prog 3 := int_keyed Try.underlying3
theorem int_zero (w : World) : (zeroValue 3).run Try.prog w = .ok (.int .i64 0) w := by kernel_rfl
theorem bool_zero (w : World) : (zeroValue 4).run Try.prog w = .ok (.bool false) w := by kernel_rfl
theorem atKey_not_has {D : DataW Unit} {k : Lit} (h : has D k = false) (hm : IsMap D) (z : DataW Unit) : D.atKey k z = z := by
  obtain ⟨es, rfl⟩ := hm
  simp only [DataW.atKey]
  cases hf : es.find? (fun p => p.1.sameKey k) with
  | none => rfl
  | some p =>
    have h1 := List.find?_some hf
    have h2 := List.mem_of_find?_eq_some hf
    rw [has_eq] at h
    have := List.any_eq_false.1 h p h2
    exact absurd h1 (by simpa using this)
/-- A map of the call's own from numbers to numbers: what it holds. -/
def OwnII (w : World) (b n : Nat) (f : Int → Option Int) : Prop :=
  ∃ D : DataW Unit, w.ownsMap Try.prog 3 (plainElem Try.prog 3) b n D ∧ (∀ x, (Lit.int .i64 x).wf = true → has D (.int .i64 x) = (f x).isSome) ∧ ∀ x c, (Lit.int .i64 x).wf = true → f x = some c → ∀ zd, D.atKey (.int .i64 x) zd = .lit (.int .i64 c)
/-- A map of the call's own from numbers to bools, all of them true: its keys. -/
def OwnIB (w : World) (b n : Nat) (s : Int → Bool) : Prop :=
  ∃ D : DataW Unit, w.ownsMap Try.prog 3 (plainElem Try.prog 4) b n D ∧ (∀ x, (Lit.int .i64 x).wf = true → has D (.int .i64 x) = s x) ∧ ∀ x, (Lit.int .i64 x).wf = true → s x = true → ∀ zd, D.atKey (.int .i64 x) zd = .lit (.bool true)
theorem ownsMap_kept {w w' : World} {P : Program} {k : TypeId} {R : Value → Option (DataW Unit × List MemPlace)} {b n : Nat} {D : DataW Unit} {G : Nat → Prop} (h : w.ownsMap P k R b n D) (hk : Kept G w w') (hb : ¬ G b) : w'.ownsMap P k R b n D := by
  have hlt := h.lt
  obtain ⟨es, clock, h1, h2⟩ := h
  exact ⟨es, clock, (hk.2 b hlt hb).trans h1, h2⟩
theorem OwnII.kept {w w' : World} {b n : Nat} {f : Int → Option Int} {G : Nat → Prop} (h : OwnII w b n f) (hk : Kept G w w') (hb : ¬ G b) : OwnII w' b n f := by
  obtain ⟨D, h1, h2⟩ := h; exact ⟨D, ownsMap_kept h1 hk hb, h2⟩
theorem OwnIB.kept {w w' : World} {b n : Nat} {s : Int → Bool} {G : Nat → Prop} (h : OwnIB w b n s) (hk : Kept G w w') (hb : ¬ G b) : OwnIB w' b n s := by
  obtain ⟨D, h1, h2⟩ := h; exact ⟨D, ownsMap_kept h1 hk hb, h2⟩
theorem OwnII.below {w w' : World} {b n : Nat} {f : Int → Option Int} (h : OwnII w b n f) (hb : Below w.heap.size w w') : OwnII w' b n f := h.kept (G := fun _ => False) (.of_below hb) (fun h => h)
theorem OwnIB.below {w w' : World} {b n : Nat} {s : Int → Bool} (h : OwnIB w b n s) (hb : Below w.heap.size w w') : OwnIB w' b n s := h.kept (G := fun _ => False) (.of_below hb) (fun h => h)
theorem OwnII.lt {w : World} {b n : Nat} {f : Int → Option Int} (h : OwnII w b n f) : b < w.heap.size := by obtain ⟨D, h1, _⟩ := h; exact h1.lt
theorem OwnIB.lt {w : World} {b n : Nat} {s : Int → Bool} (h : OwnIB w b n s) : b < w.heap.size := by obtain ⟨D, h1, _⟩ := h; exact h1.lt
theorem OwnII.made (w : World) : OwnII (w.alloc (.map #[] 0)) w.heap.size 0 (fun _ => none) := ⟨.map [], World.ownsMap_made w _ _ _, fun _ _ => rfl, fun _ _ _ h => by cases h⟩
theorem OwnIB.made (w : World) : OwnIB (w.alloc (.map #[] 0)) w.heap.size 0 (fun _ => false) := ⟨.map [], World.ownsMap_made w _ _ _, fun _ _ => rfl, fun _ _ h => by cases h⟩
theorem key_wf {x : Int} (hw : (Lit.int .i64 x).wf = true) : keyOf Try.prog 3 (.int .i64 x) = some (.int .i64 x) := keyOf_int_mk Try.underlying3 hw
/-- 'c, ok := m[x]'. -/
theorem OwnII.look {w : World} {b n : Nat} {f : Int → Option Int} (h : OwnII w b n f) {x : Int} (hw : (Lit.int .i64 x).wf = true) :
    (Instr.lookup 136 (.map (some b)) (.int .i64 x) true).run Try.prog w = .ok (.tuple #[.int .i64 ((f x).getD 0), .bool (f x).isSome]) w := by
  obtain ⟨D, h1, h2, h3⟩ := h
  obtain ⟨v, ps, hrun, hv⟩ := h1.look_ok int_law Try.underlying136 (int_zero w) (plainElem_int Try.underlying3 (by decide)) (key_wf hw)
  obtain ⟨c, rfl, hc, _⟩ := plainElem_int_inv Try.underlying3 hv
  rw [hrun, h2 x hw]
  have hc' := congrArg Prod.fst hc
  dsimp only at hc'
  cases hf : f x with
  | none =>
    rw [atKey_not_has (by rw [h2 x hw, hf]; rfl) h1.isMap] at hc'
    cases hc'
    rfl
  | some d =>
    rw [h3 x d hw hf] at hc'
    cases hc'
    rfl
/-- 'm[x]', of a set. -/
theorem OwnIB.look {w : World} {b n : Nat} {s : Int → Bool} (h : OwnIB w b n s) {x : Int} (hw : (Lit.int .i64 x).wf = true) :
    (Instr.lookup 107 (.map (some b)) (.int .i64 x) false).run Try.prog w = .ok (.bool (s x)) w := by
  obtain ⟨D, h1, h2, h3⟩ := h
  obtain ⟨v, ps, hrun, hv⟩ := h1.lookup int_law Try.underlying107 (bool_zero w) (plainElem_bool Try.underlying4 false) (key_wf hw)
  rw [hrun]
  cases hs : s x
  · rw [atKey_not_has (by rw [h2 x hw, hs]) h1.isMap] at hv
    cases v <;> simp [plainElem, Try.underlying4] at hv
    rw [hv.1]
  · rw [h3 x hw hs] at hv
    cases v <;> simp [plainElem, Try.underlying4] at hv
    rw [hv.1]
theorem lit_ne {x y : Int} (h : x ≠ y) : (Lit.int .i64 x) ≠ .int .i64 y := fun e => h (by cases e; rfl)
section
variable {ops : Array Oper} {rest : List Oper} {o : Oper} {a : Act} {Q : Exit → Act → World → Prop}
/-- 'm[x] = c'. -/
theorem wpList_putII (w : World) (hg : o.guard = none) (m x v : Operand) (hop : o.op = Op.mapUpdate 136 m x v) (b n : Nat) (f : Int → Option Int) (hm : a.eval m = .map (some b)) (hown : OwnII w b n f) (hn : n < maxLen) (key c : Int)
    (hx : a.eval x = .int .i64 key) (hv : a.eval v = .int .i64 c) (hw : (Lit.int .i64 key).wf = true) (hc : (Lit.int .i64 c).wf = true)
    (hK : ∀ w', OwnII w' b (n + 1) (fun y => if y = key then some c else f y) → w.grownBy w' (some b) → wpList Try.prog ops Q rest (a.put o.dst undef) w') : wpList Try.prog ops Q (o :: rest) a w := by
  refine wpList_plain hg fun K' hK' => ?_
  obtain ⟨D, h1, h2, h3⟩ := hown
  obtain ⟨w', hrun, r1, r2⟩ := h1.update int_law Try.underlying136 hn (key_wf hw) (plainElem_int Try.underlying3 hc)
  unfold Oper.wp
  simp [execOp, hop, hm, hx, hv, hrun, Result.andThen]
  refine hK' _ _ (hK w' ?_ r2)
  have hm' := h1.isMap
  have hk : WideAt.IsKeyLit (.int .i64 key) := int_law.key (key_wf hw)
  refine ⟨_, r1, fun y hy => ?_, fun y d hy hd zd => ?_⟩
  · by_cases e : y = key
    · subst e; rw [has_put_same hm' hk]; dsimp only; rw [if_pos rfl]; rfl
    · rw [has_put_other (lit_ne e)]; dsimp only; rw [if_neg e, h2 y hy]
  · by_cases e : y = key
    · subst e; dsimp only at hd; rw [if_pos rfl] at hd; cases hd; exact atKey_put_same hm' hk _ _
    · dsimp only at hd; rw [if_neg e] at hd; rw [atKey_put_other (lit_ne e)]; exact h3 y d hy hd zd
/-- 'm[x] = true'. -/
theorem wpList_putIB (w : World) (hg : o.guard = none) (m x v : Operand) (hop : o.op = Op.mapUpdate 107 m x v) (b n : Nat) (s : Int → Bool) (hm : a.eval m = .map (some b)) (hown : OwnIB w b n s) (hn : n < maxLen) (key : Int)
    (hx : a.eval x = .int .i64 key) (hv : a.eval v = .bool true) (hw : (Lit.int .i64 key).wf = true)
    (hK : ∀ w', OwnIB w' b (n + 1) (fun y => y == key || s y) → w.grownBy w' (some b) → wpList Try.prog ops Q rest (a.put o.dst undef) w') : wpList Try.prog ops Q (o :: rest) a w := by
  refine wpList_plain hg fun K' hK' => ?_
  obtain ⟨D, h1, h2, h3⟩ := hown
  obtain ⟨w', hrun, r1, r2⟩ := h1.update int_law Try.underlying107 hn (key_wf hw) (plainElem_bool Try.underlying4 true)
  unfold Oper.wp
  simp [execOp, hop, hm, hx, hv, hrun, Result.andThen]
  refine hK' _ _ (hK w' ?_ r2)
  have hm' := h1.isMap
  have hk : WideAt.IsKeyLit (.int .i64 key) := int_law.key (key_wf hw)
  refine ⟨_, r1, fun y hy => ?_, fun y hy hd zd => ?_⟩
  · by_cases e : y = key
    · subst e; rw [has_put_same hm' hk]; simp
    · rw [has_put_other (lit_ne e), h2 y hy]; simp [e]
  · by_cases e : y = key
    · subst e; exact atKey_put_same hm' hk _ _
    · rw [atKey_put_other (lit_ne e)]
      exact h3 y hy (by simpa [e] using hd) zd
end
end Go.Proofs.Ytminnkihcohflaa

namespace Go.Proofs.Ytminnkihcohflaa
open Go.RowKit Go.Lib

/-- Is there a current version of that number? -/
def curId (l : List Ver) (id : Int) : Bool := l.any fun v => v.id == id && v.rhi == 1099511627776
def argBad (l : List Ver) (at' first : Int) : Bool := decide (at' < 0) || decide (1099511627776 ≤ at') || decide (first < 1) || decide (1099511627776 < first) || (l.any fun v => decide (first ≤ v.id)) || !decide (l.map Ver.id).Nodup
/-- The numbers to be closed: each a current version's, none twice. -/
def okC (l : List Ver) (cl : List Int) : Bool := cl.all (curId l) && decide cl.Nodup
def lateC (l : List Ver) (cl : List Int) (at' : Int) : Bool := cl.any fun id => l.any fun v => v.id == id && decide (at' < v.rlo)
def applyE (l : List Ver) (cl : List Int) (ad : List Tup) (at' first : Int) : Int :=
  if argBad l at' first then 1 else if !okC l cl then 11 else if lateC l cl at' then 10 else if ad.any (fun t => !pdays t.lo t.hi) then 10 else 0
def keepOne (cl : List Int) (at' : Int) (v : Ver) : List Ver := if cl.contains v.id then (if v.rlo == at' then [] else [{ v with rhi := at' }]) else [v]
def newV (at' first : Int) (ad : List Tup) : List Ver := ad.mapIdx fun i t => ⟨first + i, t.vals, t.lo, t.hi, at', 1099511627776⟩
def applyL (l : List Ver) (cl : List Int) (ad : List Tup) (at' first : Int) : List Ver := l.flatMap (keepOne cl at') ++ newV at' first ad
theorem okC_nil (l : List Ver) : okC l [] = true := by simp [okC]
theorem okC_snoc (l : List Ver) (cl : List Int) (x : Int) : okC l (cl ++ [x]) = (okC l cl && (curId l x && !cl.contains x)) := by
  unfold okC
  rw [Bool.eq_iff_iff]
  simp only [Bool.and_eq_true, List.all_append, List.all_cons, List.all_nil, Bool.and_true, decide_eq_true_eq, Bool.not_eq_true', List.contains_eq_mem, decide_eq_false_iff_not, List.nodup_append, List.mem_singleton, List.nodup_cons, List.not_mem_nil, not_false_eq_true, List.nodup_nil, and_true, true_and]
  constructor
  · rintro ⟨⟨h1, h2⟩, h3, h4⟩
    exact ⟨⟨h1, h3⟩, h2, fun hm => h4 x hm x rfl rfl⟩
  · rintro ⟨⟨h1, h3⟩, h2, h4⟩
    exact ⟨⟨h1, h2⟩, h3, fun a ha b hb e => h4 (hb ▸ e ▸ ha)⟩
theorem okC_take (l : List Ver) (cl : List Int) (k : Nat) (h : okC l (cl.take k) = false) : okC l cl = false := by
  cases hc : okC l cl
  · rfl
  · unfold okC at h hc
    rw [Bool.and_eq_true, List.all_eq_true, decide_eq_true_eq] at hc
    have h1 : (cl.take k).all (curId l) = true := List.all_eq_true.2 (fun x hx => hc.1 x (List.mem_of_mem_take hx))
    have h2 : (cl.take k).Nodup := hc.2.sublist (List.take_sublist _ _)
    rw [h1, decide_eq_true h2] at h
    exact absurd h (by simp)
theorem newV_snoc (at' first : Int) (ad : List Tup) (t : Tup) : newV at' first (ad ++ [t]) = newV at' first ad ++ [⟨first + ad.length, t.vals, t.lo, t.hi, at', 1099511627776⟩] := by
  unfold newV
  rw [List.mapIdx_append]
  simp
theorem newV_length (at' first : Int) (ad : List Tup) : (newV at' first ad).length = ad.length := by unfold newV; simp
theorem keepOne_length (cl : List Int) (at' : Int) (l : List Ver) : (l.flatMap (keepOne cl at')).length ≤ l.length := by
  induction l with
  | nil => simp
  | cons v l ih =>
    rw [List.flatMap_cons, List.length_append, List.length_cons]
    have : (keepOne cl at' v).length ≤ 1 := by unfold keepOne; split <;> (try split) <;> simp
    omega
/-- No two versions of one number. -/
theorem id_inj {l : List Ver} (h : (l.map Ver.id).Nodup) {i j : Nat} {x y : Ver} (hx : l[i]? = some x) (hy : l[j]? = some y) (e : x.id = y.id) : i = j := by
  have h1 : (l.map Ver.id)[i]? = some x.id := by simp [hx]
  have h2 : (l.map Ver.id)[j]? = some x.id := by simp [hy, e]
  obtain ⟨hi, e1⟩ := List.getElem?_eq_some_iff.1 h1
  obtain ⟨hj, e2⟩ := List.getElem?_eq_some_iff.1 h2
  have hp := List.pairwise_iff_getElem.1 h
  rcases Nat.lt_trichotomy i j with hlt | heq | hlt
  · exact absurd (e1.trans e2.symm) (hp i j hi hj hlt)
  · exact heq
  · exact absurd (e2.trans e1.symm) (hp j i hj hi hlt)
theorem nodup_take {l : List Ver} {k : Nat} (h : ¬ ((l.take k).map Ver.id).Nodup) : ¬ (l.map Ver.id).Nodup := fun hn => h (hn.sublist ((List.take_sublist k l).map _))
end Go.Proofs.Ytminnkihcohflaa

namespace Go.Proofs.Ytminnkihcohflaa
open Go.RowKit Go.Lib Go.Maps

theorem wf64 {x : Int} (h : In64 x) : (Lit.int .i64 x).wf = true := by
  obtain ⟨h1, h2⟩ := h
  simp only [Lit.wf]
  rw [Bool.and_eq_true, decide_eq_true_eq, decide_eq_true_eq]
  exact ⟨h1, h2⟩
/-- The place of the version of that number. -/
def posOf (l : List Ver) (x : Int) : Option Int := (l.findIdx? (fun v => v.id == x)).map Int.ofNat
theorem posOf_snoc {l : List Ver} {v : Ver} (h : posOf l v.id = none) : posOf (l ++ [v]) = fun y => if y = v.id then some (l.length : Int) else posOf l y := by
  funext y
  unfold posOf at h ⊢
  rw [List.findIdx?_append]
  by_cases e : y = v.id
  · subst e
    rw [if_pos rfl]
    have h' : l.findIdx? (fun x => x.id == v.id) = none := by simpa using h
    rw [h']
    simp [List.findIdx?_cons]
  · rw [if_neg e]
    have : ¬ v.id = y := fun h => e h.symm
    cases l.findIdx? (fun x => x.id == y) <;> simp [List.findIdx?_cons, this]
theorem posOf_none {l : List Ver} {x : Int} : posOf l x = none ↔ x ∉ l.map Ver.id := by
  unfold posOf
  simp only [Option.map_eq_none_iff, List.findIdx?_eq_none_iff, List.mem_map, not_exists, not_and, beq_eq_false_iff_ne, ne_eq]
theorem posOf_some {l : List Ver} {x : Int} {k : Int} (h : posOf l x = some k) : ∃ (i : Nat) (v : Ver), k = i ∧ l[i]? = some v ∧ v.id = x := by
  unfold posOf at h
  obtain ⟨i, hi, rfl⟩ := Option.map_eq_some_iff.1 h
  obtain ⟨hl, h1, _⟩ := List.findIdx?_eq_some_iff_getElem.1 hi
  exact ⟨i, l[i], rfl, List.getElem?_eq_getElem hl, by simpa using h1⟩
theorem nodup_snoc {l : List Ver} {v : Ver} (h : (l.map Ver.id).Nodup) (hv : posOf l v.id = none) : ((l ++ [v]).map Ver.id).Nodup := by
  rw [List.map_append, List.nodup_append]
  refine ⟨h, by simp, fun a ha b hb e => ?_⟩
  simp at hb
  subst hb
  subst e
  exact posOf_none.1 hv ha
theorem dup_snoc {l : List Ver} {v : Ver} {c : Int} (hv : posOf l v.id = some c) : ¬ ((l ++ [v]).map Ver.id).Nodup := by
  rw [List.map_append, List.nodup_append]
  rintro ⟨_, _, h⟩
  have : v.id ∈ l.map Ver.id := Classical.byContradiction fun h' => by rw [posOf_none.2 h'] at hv; cases hv
  exact h _ this v.id (by simp) rfl
set_option maxHeartbeats 4000000 in
set_option maxRecDepth 100000 in
theorem index_any (v : Value) (l : List Ver) (w : World) (hv : Sl verE w free v l) (hl : l.length ≤ 1000) (hid : ∀ x ∈ l, In64 x.id) :
    Calls Try.prog 93 #[v] w fun e w' => ((l.map Ver.id).Nodup → ∃ b, e = .returned (.tuple #[.map (some b), .bool true]) ∧ OwnII w' b l.length (posOf l) ∧ w.heap.size ≤ b) ∧ (¬ (l.map Ver.id).Nodup → e = .returned (.tuple #[.map none, .bool false])) ∧ Below w.heap.size w w' := by
  obtain ⟨a, c, rfl⟩ := hv.shape
  have HV := Lib.hid hv
  have HI := Lib.hid hid
  obtain ⟨n, hn⟩ : ∃ n, n = l.length := ⟨_, rfl⟩
  have HN := Lib.hid hn
  rw [← hn] at hl HV ⊢
  have hmm := @run_makeMap Try.prog
  have HM := Lib.hid (OwnII.made w)
  clear hv hid hn
  go_enter Try.func93, Try.ntmps93
  go_wp2_with fail
  go_loopw [12] (fun i wr => ∃ k : Nat, k ≤ n ∧ i = .int .i64 k ∧ OwnII wr w.heap.size k (posOf (l.take k)) ∧ Hid (((l.take k).map Ver.id).Nodup) ∧ Below w.heap.size w wr) (fun i _ => n - (intOf i).toNat)
  case atStart => exact ⟨0, Nat.zero_le _, rfl, HM.out, Lib.hid List.nodup_nil, below_alloc _ _⟩
  case round =>
    obtain ⟨k, hk, rfl, hO, HD, hB⟩ := hrel
    obtain ⟨wo, rfl⟩ : ∃ wo : World, wo = wr := ⟨_, rfl⟩
    by_cases hlt : k < n
    · obtain ⟨x, hx⟩ := lget_some l k (by rw [← HN.out]; exact hlt)
      obtain ⟨b, o, a1, c1v, rfl, hvv, p0, p1, p2, p3, p4, p5⟩ := ver_at (HV.out.below hB) hx
      have hxw := wf64 (HI.out x (List.mem_of_getElem? hx))
      have HX := Lib.hid hx
      have HB := Lib.hid hB
      obtain ⟨xid, xvals, xlo, xhi, xrlo, xrhi⟩ := x
      dsimp only at p0 p1 p2 p3 p4 p5 hxw
      have HXW := Lib.hid hxw
      have HO := Lib.hid (hO.below (below_alloc wo (.cells #[.int .i64 xid, .slice a1 xvals.length c1v, .int .i64 xlo, .int .i64 xhi, .int .i64 xrlo, .int .i64 xrhi] 59)))
      have hlook := HO.out.look hxw
      have hkw : (Lit.int .i64 (k : Int)).wf = true := wf64 (by constructor <;> omega)
      have HKW := Lib.hid hkw
      have hkm : k < maxLen := by have : maxLen = 9223372036854775807 := rfl; omega
      have HKM := Lib.hid hkm
      have HLT : Hid ((l.take k).length = k) := by show _ = _; rw [List.length_take, ← HN.out]; omega
      clear hx hvv hB hO hxw hkw hkm
      cases hp : posOf (l.take k) xid with
      | none =>
        have HP : Hid (posOf (l.take k) xid = none) := hp
        rw [hp] at hlook
        simp only [Option.getD_none, Option.isSome_none] at hlook
        clear hp
        go_wp2_with (at_mapUpdate; refine wpList_putII _ rfl _ _ _ rfl w.heap.size k (posOf (l.take k)) rfl HO.out HKM.out xid k rfl rfl HXW.out HKW.out ?_; intro w3 hO3 hg3)
        go_roundw
        case rel =>
          refine ⟨k + 1, by omega, by go_num, ?_, ?_, ?_⟩
          · rw [take_get HX.out, posOf_snoc HP.out, HLT.out]
            exact hO3
          · rw [take_get HX.out]
            exact nodup_snoc HD.out HP.out
          · exact (below_alloc_keep HB.out).grown hg3 (by have := HB.out.size; simp; omega) (fun j hj => by cases hj; exact Nat.le_refl _)
        case measure => simp [intOf]; omega
      | some q =>
        have HP : Hid (posOf (l.take k) xid = some q) := hp
        rw [hp] at hlook
        simp only [Option.getD_some, Option.isSome_some] at hlook
        clear hp
        go_wp2_with fail
        refine bodyPost_ret (v := .tuple #[.map none, .bool false]) (by simp [results, Try.results93, go_sem]) rfl ⟨fun hd => absurd hd ?_, fun _ => rfl, below_alloc_keep HB.out⟩
        refine nodup_take (k := k + 1) ?_
        rw [take_get HX.out]
        exact dup_snoc (v := ⟨xid, xvals, xlo, xhi, xrlo, xrhi⟩) HP.out
    · have HF : Hid (l.take k = l) := by show _ = _; rw [List.take_of_length_le (by rw [← HN.out]; omega)]
      have hkn : k = n := by omega
      subst hkn
      have HO := Lib.hid hO
      have HB := Lib.hid hB
      clear hO hB
      go_wp2_with fail
      have hd := HD.out
      have ho := HO.out
      rw [HF.out] at hd ho
      refine bodyPost_ret (v := .tuple #[.map (some w.heap.size), .bool true]) (by simp [results, Try.results93, go_sem]) rfl ⟨fun _ => ⟨_, rfl, HN.out ▸ ho, Nat.le_refl _⟩, fun h => absurd hd h, HB.out⟩
end Go.Proofs.Ytminnkihcohflaa

namespace Go.Proofs.Ytminnkihcohflaa
open Go.RowKit Go.Lib Go.Maps

theorem int_at {w : World} {G : Nat → Prop} {a : Option Addr} {n c k : Nat} {l : List Int} {x : Int} (h : Sl intE w G (.slice a n c) l) (hk : l[k]? = some x) : ∃ b o, a = some ⟨b, o, none⟩ ∧ w.cell? ⟨b, o + k, none⟩ = some (.int .i64 x) := by
  obtain ⟨b, o, cs, ha, rfl, hc⟩ := Sl.at h hk
  exact ⟨b, o, ha, by have h := hc 0 _ rfl; rwa [show intE.size = 1 from rfl, Nat.mul_one, Nat.add_zero] at h⟩
/-- The places of the versions closed so far. -/
def clS (l : List Ver) (cl : List Int) : Int → Bool := fun i => cl.any fun id => posOf l id == some i
theorem clS_snoc {l : List Ver} {cl : List Int} {x c : Int} (h : posOf l x = some c) : clS l (cl ++ [x]) = fun y => y == c || clS l cl y := by
  funext y
  unfold clS
  rw [List.any_append, List.any_cons, List.any_nil, h, Bool.or_false, Bool.or_comm]
  congr 1
  rw [Bool.eq_iff_iff]
  simp only [beq_iff_eq, Option.some.injEq]
  exact eq_comm
theorem posOf_at {l : List Ver} (h : (l.map Ver.id).Nodup) {i : Nat} {x : Ver} (hx : l[i]? = some x) : posOf l x.id = some (i : Int) := by
  cases hp : posOf l x.id with
  | none => exact absurd (List.mem_map_of_mem (List.mem_of_getElem? hx)) (posOf_none.1 hp)
  | some k =>
    obtain ⟨j, y, rfl, hy, e⟩ := posOf_some hp
    rw [id_inj h hy hx e]
theorem clS_at {l : List Ver} (h : (l.map Ver.id).Nodup) (cl : List Int) {i : Nat} {x : Ver} (hx : l[i]? = some x) : clS l cl i = cl.contains x.id := by
  unfold clS
  rw [Bool.eq_iff_iff, List.any_eq_true, List.contains_iff_mem]
  constructor
  · rintro ⟨id, hm, he⟩
    simp only [beq_iff_eq] at he
    obtain ⟨j, y, e, hy, e2⟩ := posOf_some he
    have : i = j := by omega
    subst this
    rw [hx] at hy
    cases hy
    exact e2 ▸ hm
  · intro hm
    exact ⟨x.id, hm, by rw [posOf_at h hx]; simp⟩
theorem curId_none {l : List Ver} {x : Int} (h : posOf l x = none) : curId l x = false := by
  unfold curId
  rw [List.any_eq_false]
  intro v hv hb
  simp only [Bool.and_eq_true, beq_iff_eq] at hb
  exact posOf_none.1 h (hb.1 ▸ List.mem_map_of_mem hv)
theorem curId_at {l : List Ver} (h : (l.map Ver.id).Nodup) {i : Nat} {x : Ver} (hx : l[i]? = some x) : curId l x.id = (x.rhi == 1099511627776) := by
  unfold curId
  rw [Bool.eq_iff_iff, List.any_eq_true]
  constructor
  · rintro ⟨y, hy, hb⟩
    simp only [Bool.and_eq_true, beq_iff_eq] at hb
    obtain ⟨j, hj⟩ := List.getElem?_of_mem hy
    have := id_inj h hx hj hb.1.symm
    subst this
    rw [hx] at hj
    cases hj
    simpa using hb.2
  · intro hb
    exact ⟨x, List.mem_of_getElem? hx, by simp; simpa using hb⟩
theorem lateC_none {l : List Ver} (h : (l.map Ver.id).Nodup) {cl : List Int} {at' : Int} (hl : ∀ (i : Nat) (x : Ver), l[i]? = some x → clS l cl i = true → ¬ at' < x.rlo) : lateC l cl at' = false := by
  unfold lateC
  rw [List.any_eq_false]
  intro id hm hb
  obtain ⟨v, hv, hb⟩ := List.any_eq_true.1 hb
  simp only [Bool.and_eq_true, beq_iff_eq, decide_eq_true_eq] at hb
  obtain ⟨i, hi⟩ := List.getElem?_of_mem hv
  exact hl i v hi (by rw [clS_at h cl hi, List.contains_iff_mem, hb.1]; exact hm) hb.2
theorem lateC_some {l : List Ver} (h : (l.map Ver.id).Nodup) {cl : List Int} {at' : Int} {i : Nat} {x : Ver} (hx : l[i]? = some x) (hs : clS l cl i = true) (hlt : at' < x.rlo) : lateC l cl at' = true := by
  unfold lateC
  rw [clS_at h cl hx, List.contains_iff_mem] at hs
  exact List.any_eq_true.2 ⟨x.id, hs, List.any_eq_true.2 ⟨x, List.mem_of_getElem? hx, by simpa using hlt⟩⟩
theorem clS_lt {l : List Ver} {cl : List Int} {c : Int} (h : clS l cl c = true) : ∃ (i : Nat) (x : Ver), c = i ∧ l[i]? = some x := by
  unfold clS at h
  obtain ⟨id, _, he⟩ := List.any_eq_true.1 h
  simp only [beq_iff_eq] at he
  obtain ⟨j, y, e, hy, _⟩ := posOf_some he
  exact ⟨j, y, e, hy⟩
end Go.Proofs.Ytminnkihcohflaa

namespace Go.Proofs.Ytminnkihcohflaa
open Go

section
variable {P : Program} {md : Region.Mode} {ops : Array Oper} {Q : Exit → Act → World → Prop} {S : World → Prop}
theorem take_n {i : Nat} {d : Option Tmp} {fuel : Nat} {listed : Array Bool} {a : Act} {w : World} (hi : (ops[i]?).map (·.dst) = some d)
    (hw : (ops[i]?).map (fun o => Region.wanted o (yielded ops a.tmps)) = some false)
    (hs : Region.noSelect ops = true) (hf : Region.free md ops listed i = true) (hr : (Region.ready md ops listed).contains i = true)
    (hQ : ∀ c a w, Q (.panic c) (a.put d undef) w → Q (.panic c) a w) (hS : S w)
    (h : wpAnyH P md ops Q S fuel (listed.setIfInBounds i true) (a.put d undef) w) : wpAnyH P md ops Q S (fuel + 1) listed a w := by
  cases ho : ops[i]? with
  | none => rw [ho] at hi; cases hi
  | some o =>
    rw [ho] at hi hw
    simp only [Option.map_some, Option.some.injEq] at hi hw
    subst hi
    exact wpAnyH_take ho hs hf hr hQ (Or.inr ⟨hw, rfl⟩) hS h
theorem take_y {i : Nat} {d : Option Tmp} {v : Value} {fuel : Nat} {listed : Array Bool} {a : Act} {w : World} (hi : (ops[i]?).map (·.dst) = some d)
    (hw : (ops[i]?).map (fun o => Region.wanted o (yielded ops a.tmps)) = some true)
    (hs : Region.noSelect ops = true) (hf : Region.free md ops listed i = true) (hr : (Region.ready md ops listed).contains i = true)
    (hQ : ∀ c a w, Q (.panic c) (a.put d v) w → Q (.panic c) a w) (hS : S w)
    (hy : ∀ o, ops[i]? = some o → ∀ w, S w → (execOp a.eval o).run P w = .ok (.value v) w)
    (h : wpAnyH P md ops Q S fuel (listed.setIfInBounds i true) (a.put d v) w) : wpAnyH P md ops Q S (fuel + 1) listed a w := by
  cases ho : ops[i]? with
  | none => rw [ho] at hi; cases hi
  | some o =>
    rw [ho] at hi hw
    simp only [Option.map_some, Option.some.injEq] at hi hw
    subst hi
    exact wpAnyH_take ho hs hf hr hQ (Or.inl ⟨hw, hy o ho⟩) hS h
end
end Go.Proofs.Ytminnkihcohflaa
