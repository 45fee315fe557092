/- What is carried through a region that draws its order: small laws on cells that are there, whatever they hold. Of no program. No condition. -/
import Derived.Test.YthjgnpicnpfmjaaDoorEl
namespace Go.Proofs.YthjgnpicnpfmjaaDoor
open Go.RowKit Go.Lib

/-- What a cell holds. -/
def vAt (W : World) (p : Addr) : Value := (W.cell? p).getD undef
theorem vAt_some {W : World} {p : Addr} (h : (W.cell? p).isSome = true) : W.cell? p = some (vAt W p) := by
  obtain ⟨v, hv⟩ := Option.isSome_iff_exists.1 h
  rw [vAt, hv]; rfl
theorem vAt_of {W : World} {p : Addr} {v : Value} (h : W.cell? p = some v) : W.cell? p = some (vAt W p) := vAt_some (by rw [h]; rfl)
theorem vAt_keep {W W' : World} {p : Addr} {v : Value} (hb : Below W.heap.size W W') (h : W.cell? p = some v) : W'.cell? p = some (vAt W' p) := vAt_of (cell_keep hb h)
theorem vAt_alloc {W : World} {o : Obj} {p : Addr} {v : Value} (h : W.cell? p = some v) : (W.alloc o).cell? p = some (vAt (W.alloc o) p) := vAt_of (cell_alloc h)
theorem vAt_drew {W : World} {p : Addr} {v : Value} (h : W.cell? p = some v) : W.drew.cell? p = some (vAt W.drew p) := vAt_of (cell_drew h)
theorem vAt_set {W : World} {p q : Addr} {u v : Value} (h : W.cell? p = some v) : (W.setCell q u).cell? p = some (vAt (W.setCell q u) p) := by
  obtain ⟨v', h'⟩ := cell?_setCell_some (p := q) (x := u) h
  exact vAt_of h'
theorem vAt_set4 {W : World} {p q1 q2 q3 q4 : Addr} {u1 u2 u3 u4 v : Value} (h : W.cell? p = some v) : ((((W.setCell q1 u1).setCell q2 u2).setCell q3 u3).setCell q4 u4).cell? p = some (vAt ((((W.setCell q1 u1).setCell q2 u2).setCell q3 u3).setCell q4 u4) p) := vAt_set (vAt_set (vAt_set (vAt_set h)))
theorem cell_set4 {W : World} {p q1 q2 q3 q4 : Addr} {u1 u2 u3 u4 v : Value} (h : W.cell? p = some v) (h1 : q1.block ≠ p.block) (h2 : q2.block = q1.block) (h3 : q3.block = q1.block) (h4 : q4.block = q1.block) : ((((W.setCell q1 u1).setCell q2 u2).setCell q3 u3).setCell q4 u4).cell? p = some v := by
  rw [World.cell?_setCell_far _ _ _ _ (by rw [h4]; exact h1), World.cell?_setCell_far _ _ _ _ (by rw [h3]; exact h1), World.cell?_setCell_far _ _ _ _ (by rw [h2]; exact h1), World.cell?_setCell_far _ _ _ _ h1]
  exact h
theorem below_set4 {w W : World} {q1 q2 q3 q4 : Addr} {u1 u2 u3 u4 : Value} (h : Below w.heap.size w W) (h1 : w.heap.size ≤ q1.block) (h2 : w.heap.size ≤ q2.block) (h3 : w.heap.size ≤ q3.block) (h4 : w.heap.size ≤ q4.block) : Below w.heap.size w ((((W.setCell q1 u1).setCell q2 u2).setCell q3 u3).setCell q4 u4) :=
  (((h.setCell h1 _).setCell h2 _).setCell h3 _).setCell h4 _
theorem frozen_keep {W W' : World} {p : Addr} {v : Value} (hb : Below W.heap.size W W') (hc : W.cell? p = some v) (h : W.frozen? p = false) : W'.frozen? p = false := (hb.frozen (World.block_lt_of_cell? W _ hc)).trans h
theorem frozen_alloc {W : World} {o : Obj} {p : Addr} {v : Value} (hc : W.cell? p = some v) (h : W.frozen? p = false) : (W.alloc o).frozen? p = false := frozen_keep (below_alloc W o) hc h
theorem frozen_drew {W : World} {p : Addr} (h : W.frozen? p = false) : W.drew.frozen? p = false := h
theorem frozen_set4 {W : World} {p q1 q2 q3 q4 : Addr} {u1 u2 u3 u4 : Value} (h : W.frozen? p = false) : ((((W.setCell q1 u1).setCell q2 u2).setCell q3 u3).setCell q4 u4).frozen? p = false := by simp [h]
theorem size_keep {n : Nat} {W W' : World} (hb : Below W.heap.size W W') (h : n < W.heap.size) : n < W'.heap.size := Nat.lt_of_lt_of_le h hb.size
theorem size_alloc_keep {n : Nat} {W : World} {o : Obj} (h : n < W.heap.size) : n < (W.alloc o).heap.size := by simp; omega
theorem size_drew {n : Nat} {W : World} (h : n < W.heap.size) : n < W.drew.heap.size := h
theorem size_set4 {n : Nat} {W : World} {q1 q2 q3 q4 : Addr} {u1 u2 u3 u4 : Value} (h : n < W.heap.size) : n < ((((W.setCell q1 u1).setCell q2 u2).setCell q3 u3).setCell q4 u4).heap.size := by simpa [World.setCell] using h
theorem size_of {n : Nat} {W W' : World} (h : n < W.heap.size) (_ : Below W.heap.size W W') : n < W.heap.size := h
theorem kept_set {G : Nat → Prop} {W : World} {q : Addr} {u : Value} (h : G q.block) : Kept G W (W.setCell q u) := ⟨by simp [World.setCell], fun k hk hn => Below.heap_setCell _ _ _ _ (fun e => hn (e ▸ h))⟩
theorem Kept.trans {G : Nat → Prop} {a b c : World} (h : Kept G a b) (k : Kept G b c) : Kept G a c := ⟨Nat.le_trans h.1 k.1, fun i hi hn => (k.2 i (Nat.lt_of_lt_of_le hi h.1) hn).trans (h.2 i hi hn)⟩
theorem kept_set4 {G : Nat → Prop} {W : World} {q1 q2 q3 q4 : Addr} {u1 u2 u3 u4 : Value} (h1 : G q1.block) (h2 : G q2.block) (h3 : G q3.block) (h4 : G q4.block) : Kept G W ((((W.setCell q1 u1).setCell q2 u2).setCell q3 u3).setCell q4 u4) := (((kept_set h1).trans (kept_set h2)).trans (kept_set h3)).trans (kept_set h4)
theorem Sl.clear_own {P : Program} {α : Type} {E : El P α} {w : World} {G : Nat → Prop} {v : Value} {l : List α} (h : Sl E w G v l) (hn : 0 < l.length) : ∀ k, v.ownBlock = some k → ¬ G k := by
  obtain ⟨_, a, c, rfl, _, h4⟩ := h
  obtain ⟨b, o, rfl, hg, _⟩ := h4 hn
  intro k hk
  cases hk
  exact hg
theorem below_alloc_drew {w W : World} {o : Obj} (h : Below w.heap.size w W.drew) : Below w.heap.size w (W.alloc o).drew := (Below.alloc (w := W.drew) h h.size o)
theorem size_alloc_drew {n : Nat} {W : World} {o : Obj} (h : n < W.drew.heap.size) : n < (W.alloc o).drew.heap.size := size_alloc_keep (W := W.drew) h
theorem cell_alloc_drew {W : World} {o : Obj} {p : Addr} {v : Value} (h : W.drew.cell? p = some v) : (W.alloc o).drew.cell? p = some v := cell_alloc (W := W.drew) h
theorem vAt_alloc_drew {W : World} {o : Obj} {p : Addr} {v : Value} (h : W.drew.cell? p = some v) : (W.alloc o).drew.cell? p = some (vAt (W.alloc o).drew p) := vAt_of (cell_alloc_drew h)
theorem frozen_alloc_drew {W : World} {o : Obj} {p : Addr} {v : Value} (hc : W.drew.cell? p = some v) (h : W.drew.frozen? p = false) : (W.alloc o).drew.frozen? p = false := frozen_alloc (W := W.drew) hc h
end Go.Proofs.YthjgnpicnpfmjaaDoor
