/- A tuple of a copy of a row; valid periods. No condition beside sizes. -/
import Derived.Test.YtminnkihcohflaaSplA
namespace Go.Proofs.Ytminnkihcohflaa
open Go.RowKit Go.Lib Go.Shelf

theorem Reads.set {w : World} {size n B k i : Nat} {xs : List Value} {v x : Value} (hr : Reads w size v n xs) (hn : Newer B v) (hk : k < B) : Reads (w.setCell ⟨k, i, none⟩ x) size v n xs := by
  have hA : ReadsA w (some k) size v n xs := ⟨hr, fun _ e => by have := hn _ e; omega⟩
  exact (hA.grown (grownBy_setCell _ _ _ _)).1
theorem heap_alloc3 (w : World) (o o' o'' : Obj) : (((w.alloc o).alloc o').alloc o'').heap[w.heap.size]? = some o ∧ (((w.alloc o).alloc o').alloc o'').heap[w.heap.size + 1]? = some o' ∧ (((w.alloc o).alloc o').alloc o'').heap[w.heap.size + 1 + 1]? = some o'' := by
  refine ⟨(Below.heap_alloc _ _ _ (by simp; omega)).trans (heap_alloc_old' w o o'), (Below.heap_alloc _ _ _ (by simp)).trans (heap_alloc_new' w o o'), ?_⟩
  have := World.alloc_heap_new ((w.alloc o).alloc o') o''
  rwa [World.size_alloc, World.size_alloc] at this
theorem box_four {w : World} {g : Nat} {x y z u : Value} {e : TypeId} (h : w.heap[g]? = some (.cells #[x, y, z, u] e (0, 0))) :
    (w.cell? ⟨g, 0, none⟩ = some x ∧ w.cell? ⟨g, 1, none⟩ = some y ∧ w.cell? ⟨g, 2, none⟩ = some z ∧ w.cell? ⟨g, 3, none⟩ = some u) ∧
    w.frozen? ⟨g, 0, none⟩ = false ∧ w.frozen? ⟨g, 1, none⟩ = false ∧ w.frozen? ⟨g, 2, none⟩ = false ∧ w.frozen? ⟨g, 3, none⟩ = false := by
  refine ⟨⟨?_, ?_, ?_, ?_⟩, ?_, ?_, ?_, ?_⟩ <;> simp [World.cell?, World.frozen?, h]
/-- What a copy into a new tuple hands back. -/
structure NewTup (w : World) (t : Tup) (e : Ending) (w' : World) : Prop where
  out : ∃ v u, e = .returned (.agg #[v, .int .i64 t.lo, .int .i64 t.hi, u]) ∧ Reads w' 3 v t.vals.length (valCells t.vals) ∧ Reads w' 1 u t.lin.length (numCells t.lin) ∧ Newer w.heap.size v ∧ Newer w.heap.size u
  below : Below w.heap.size w w'

set_option maxHeartbeats 2000000 in
theorem during_any (v u : Value) (t : Tup) (w : World) (hv : Reads w 3 v t.vals.length (valCells t.vals)) (hu : Reads w 1 u t.lin.length (numCells t.lin)) (hl : t.vals.length ≤ 1000) (hm : t.lin.length ≤ 1000) :
    Calls Try.prog 47 #[.agg #[v, u], .agg #[.int .i64 t.lo, .int .i64 t.hi]] w (NewTup w t) := by
  obtain ⟨a, c, rfl⟩ := reads_shape hv
  obtain ⟨b, d, rfl⟩ := reads_shape hu
  have HV := Lib.hid hv
  have HU := Lib.hid hu
  obtain ⟨lo, hlo⟩ : ∃ x, x = t.lo := ⟨_, rfl⟩
  obtain ⟨hi, hhi⟩ : ∃ x, x = t.hi := ⟨_, rfl⟩
  rw [← hlo, ← hhi]
  have HLO := Lib.hid hlo
  have HHI := Lib.hid hhi
  clear hv hu hlo hhi
  go_enter Try.func47, Try.ntmps47
  go_wp2_with fail
  have hb1 : Below w.heap.size w (((w.alloc (.cells #[.slice a t.vals.length c, .slice b t.lin.length d] 97)).alloc (.cells #[.int .i64 lo, .int .i64 hi] 31)).alloc (.cells #[.slice none 0 0, .int .i64 0, .int .i64 0, .slice none 0 0] 67)) :=
    (below_alloc_two w _ _).alloc (by simp; omega) _
  refine (bagClone_any _ _ t.vals t.lin _ (HV.out.below hb1) (HU.out.below hb1) hl hm).mono ?_
  rintro e w1 ⟨v', u', rfl, hC1, hC2⟩
  obtain ⟨a', c', rfl⟩ := reads_shape hC1.reads
  obtain ⟨b', d', rfl⟩ := reads_shape hC2.reads
  obtain ⟨q0, q1, q2⟩ := heap_alloc3 w (.cells #[.slice a t.vals.length c, .slice b t.lin.length d] 97) (.cells #[.int .i64 lo, .int .i64 hi] 31) (.cells #[.slice none 0 0, .int .i64 0, .int .i64 0, .slice none 0 0] 67)
  obtain ⟨x0, x1, x2, x3⟩ := box_two (box_kept q0 hC1.below)
  obtain ⟨y0, y1, y2, y3⟩ := box_two (box_kept q1 hC1.below)
  obtain ⟨⟨z0, z1, z2, z3⟩, f0, f1, f2, f3⟩ := box_four (box_kept q2 hC1.below)
  clear q0 q1 q2
  have HC1 := Lib.hid hC1
  have HC2 := Lib.hid hC2
  have HB1 := Lib.hid hb1
  clear hC1 hC2 hb1
  go_wp2_with fail
  have hs : (((w.alloc (.cells #[.slice a t.vals.length c, .slice b t.lin.length d] 97)).alloc (.cells #[.int .i64 lo, .int .i64 hi] 31)).alloc (.cells #[.slice none 0 0, .int .i64 0, .int .i64 0, .slice none 0 0] 67)).heap.size = w.heap.size + 3 := by simp
  have hn1 : Newer (w.heap.size + 3) (.slice a' t.vals.length c') := by have := HC1.out.newer; rw [hs] at this; exact this
  have hn2 : Newer (w.heap.size + 3) (.slice b' t.lin.length d') := by have := HC2.out.newer; rw [hs] at this; exact this
  have hb : Below w.heap.size w w1 := HB1.out.trans (HC1.out.below.mono HB1.out.size)
  refine bodyPost_ret (v := .agg #[.slice a' t.vals.length c', .int .i64 lo, .int .i64 hi, .slice b' t.lin.length d']) ?_ rfl ⟨⟨_, _, by rw [HLO.out, HHI.out], ?_, ?_, fun k hk => by have := hn1 k hk; omega, fun k hk => by have := hn2 k hk; omega⟩, ?_⟩
  · simp [results, Try.results47, go_sem, z0, z1, z2, z3]
  · exact (((((HC1.out.reads.set hn1 (by omega)).set hn1 (by omega)).set hn1 (by omega)).set hn1 (by omega)).set hn1 (by omega)).set hn1 (by omega)
  · exact (((((HC2.out.reads.set hn2 (by omega)).set hn2 (by omega)).set hn2 (by omega)).set hn2 (by omega)).set hn2 (by omega)).set hn2 (by omega)
  · refine (((((hb.setCell ?_ _).setCell ?_ _).setCell ?_ _).setCell ?_ _).setCell ?_ _).setCell ?_ _ <;> simp <;> omega

/-- The new tuple, its four cells. -/
theorem NewTup.cells {w w' : World} {t : Tup} {e : Ending} (h : NewTup w t e w') : ∃ a c b d, e = .returned (.agg #[.slice a t.vals.length c, .int .i64 t.lo, .int .i64 t.hi, .slice b t.lin.length d]) ∧ tupE.is w' (fun k => k < w.heap.size) t [.slice a t.vals.length c, .int .i64 t.lo, .int .i64 t.hi, .slice b t.lin.length d] := by
  obtain ⟨v, u, rfl, h1, h2, h3, h4⟩ := h.out
  obtain ⟨a, c, rfl⟩ := reads_shape h1
  obtain ⟨b, d, rfl⟩ := reads_shape h2
  exact ⟨a, c, b, d, rfl, _, _, rfl, .of_vals h1 (fun k hk hl => by have := h3 k hk; omega), .of_ints h2 (fun k hk hl => by have := h4 k hk; omega)⟩

/-- A valid period. -/
def pvalid (lo hi : Int) : Bool := decide (0 ≤ lo ∧ lo < hi ∧ hi ≤ 1099511627776)
set_option maxHeartbeats 1000000 in
theorem pvalid_any (lo hi : Int) (w : World) :
    Calls Try.prog 45 #[.agg #[.int .i64 lo, .int .i64 hi]] w fun e w' => e = .returned (.bool (pvalid lo hi)) ∧ Below w.heap.size w w' := by
  go_enter Try.func45, Try.ntmps45
  go_wp2
  all_goals go_ret
  all_goals refine ⟨congrArg (fun b => Ending.returned (.bool b)) ?_, below_alloc _ _⟩
  all_goals (simp [pvalid, *]; try omega)
end Go.Proofs.Ytminnkihcohflaa
