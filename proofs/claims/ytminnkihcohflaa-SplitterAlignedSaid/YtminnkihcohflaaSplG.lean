/- The definition's equality of rows. No condition. -/
import Derived.Test.YtminnkihcohflaaSplF
namespace Go.Proofs.Ytminnkihcohflaa
open Go.RowKit Go.Lib Go.Shelf

set_option maxHeartbeats 1000000 in
theorem refRow_any (v u : Value) (lo hi : Int) (w : World) (a b : Option Addr) (n c m d : Nat) (hv : v = .slice a n c) (hu : u = .slice b m d) :
    Calls Try.prog 50 #[.agg #[v, .int .i64 lo, .int .i64 hi, u]] w fun e w' => e = .returned (.agg #[v, u]) ∧ Below w.heap.size w w' := by
  subst hv hu
  go_enter Try.func50, Try.ntmps50
  go_wp2
  refine bodyPost_ret (v := .agg #[.slice a n c, .slice b m d]) ?_ rfl ⟨rfl, below_alloc_two w _ _⟩
  simp [results, Try.results50, go_sem]


def sameRowL (l l2 : List GVal) (m m2 : List Int) : Bool := decide (cmpRows l l2 = 0) && decide (cmpInts m m2 = 0)
set_option maxHeartbeats 2000000 in
theorem sameRow_any (v u v2 u2 : Value) (l l2 : List GVal) (m m2 : List Int) (w : World) (hv : Reads w 3 v l.length (valCells l)) (hu : Reads w 1 u m.length (numCells m)) (hv2 : Reads w 3 v2 l2.length (valCells l2)) (hu2 : Reads w 1 u2 m2.length (numCells m2)) :
    Calls Try.prog 49 #[.agg #[v, u], .agg #[v2, u2]] w fun e w' => e = .returned (.bool (sameRowL l l2 m m2)) ∧ Below w.heap.size w w' := by
  obtain ⟨a, c, rfl⟩ := reads_shape hv
  obtain ⟨b, d, rfl⟩ := reads_shape hu
  obtain ⟨a2, c2, rfl⟩ := reads_shape hv2
  obtain ⟨b2, d2, rfl⟩ := reads_shape hu2
  have HV := Lib.hid hv
  have HU := Lib.hid hu
  have HV2 := Lib.hid hv2
  have HU2 := Lib.hid hu2
  clear hv hu hv2 hu2
  obtain ⟨r, hr⟩ : ∃ r, r = cmpRows l l2 := ⟨_, rfl⟩
  obtain ⟨r2, hr2⟩ : ∃ r, r = cmpInts m m2 := ⟨_, rfl⟩
  have HR : Hid (sameRowL l l2 m m2 = (decide (r = 0) && decide (r2 = 0))) := by show _ = _; rw [hr, hr2]; rfl
  have HR1 := Lib.hid hr
  have HR2 := Lib.hid hr2
  clear hr hr2
  go_enter Try.func49, Try.ntmps49
  go_wp2_with fail
  have hb1 : Below w.heap.size w ((w.alloc (.cells #[.slice a l.length c, .slice b m.length d] 97)).alloc (.cells #[.slice a2 l2.length c2, .slice b2 m2.length d2] 97)) := below_alloc_two w _ _
  refine (cmpRows_any _ _ l l2 _ (HV.out.below hb1) (HV2.out.below hb1)).mono ?_
  rw [← HR1.out]
  rintro e w1 ⟨rfl, hb2⟩
  obtain ⟨x0, x1, x2, x3⟩ := box_two (box_kept (heap_alloc_old' w _ _) hb2)
  obtain ⟨y0, y1, y2, y3⟩ := box_two (box_kept (heap_alloc_new' w _ _) hb2)
  have HB : Hid (Below w.heap.size w w1) := hb1.trans (hb2.mono hb1.size)
  clear hb1 hb2
  by_cases h0 : r = 0
  · subst h0
    go_wp2_with fail
    refine (cmpInts_any _ _ m m2 _ (HU.out.below HB.out) (HU2.out.below HB.out)).mono ?_
    rw [← HR2.out]
    rintro e w2 ⟨rfl, hb3⟩
    have HB3 : Hid (Below w.heap.size w w2) := HB.out.trans (hb3.mono HB.out.size)
    clear hb3
    go_wp2_with fail
    go_ret
    exact ⟨ret_bool (by rw [HR.out]; by_cases h2 : r2 = 0 <;> simp [h2]), HB3.out⟩
  · have hne : (r == 0) = false := by simpa using h0
    go_wp2_with fail
    go_ret
    exact ⟨ret_bool (by rw [HR.out]; simp [h0]), HB.out⟩
end Go.Proofs.Ytminnkihcohflaa
