/- Values and numbers in memory: what a slice of them reads as; a slice of them of the call's own. No condition. -/
import Derived.Test.YthjgnpicnpfmjaaDoorEl
import Derived.Test.YthjgnpicnpfmjaaDoorProg
namespace Go.Proofs.YthjgnpicnpfmjaaDoor
open Go.RowKit Go.Lib

/-- A value of the program. -/
structure GVal where
  kind : Int
  n : Int
  s : ByteArray
def numCells (l : List Int) : List Value := l.map (Value.int .i64)
def valOf (v : GVal) : List Value := [.int .i64 v.kind, .int .i64 v.n, .string v.s]
def valCells (l : List GVal) : List Value := l.flatMap valOf
theorem numCells_length (l : List Int) : (numCells l).length = l.length := List.length_map _
theorem numCells_at (l : List Int) (k : Nat) (x : Int) (h : l[k]? = some x) : (numCells l)[k]? = some (.int .i64 x) := by simp [numCells, h]
theorem valCells_length (l : List GVal) : (valCells l).length = l.length * 3 := by
  induction l with
  | nil => rfl
  | cons v l ih => rw [valCells, List.flatMap_cons, List.length_append, ← valCells, ih, List.length_cons]; simp [valOf]; omega
theorem valCells_at (l : List GVal) (i : Nat) (x : GVal) (h : l[i]? = some x) : (valCells l)[i * 3]? = some (.int .i64 x.kind) ∧ (valCells l)[i * 3 + 1]? = some (.int .i64 x.n) ∧ (valCells l)[i * 3 + 2]? = some (.string x.s) := by
  induction l generalizing i with
  | nil => simp at h
  | cons v l ih =>
    cases i with
    | zero => simp at h; subst h; simp [valCells, valOf]
    | succ i =>
      have := ih i (by simpa using h)
      have e : valCells (v :: l) = valOf v ++ valCells l := rfl
      rw [e, show (i + 1) * 3 = (valOf v).length + i * 3 by simp [valOf]; omega, Nat.add_assoc, Nat.add_assoc, List.getElem?_append_right (by omega), List.getElem?_append_right (by omega), List.getElem?_append_right (by omega)]
      simpa using this

theorem int_info : (Tryd.prog.info? 3).map (fun i => (i.zero, i.size, i.bytes)) = some (some (.int .i64 0), 1, 8) := by kernel_rfl
theorem val_info : (Tryd.prog.info? 23).map (fun i => (i.zero, i.size, i.bytes)) = some (some (.agg #[.int .i64 0, .int .i64 0, .string ⟨#[]⟩]), 3, 32) := by kernel_rfl
def intE : El Tryd.prog Int := El.flat 3 1 8 (by decide) (info_mk int_info rfl) (fun x => [.int .i64 x]) (fun _ => rfl) (by intro x u hu; simp at hu; subst hu; rfl)
def valE : El Tryd.prog GVal := El.flat 23 3 32 (by decide) (info_mk val_info rfl) valOf (fun _ => rfl) (by intro x u hu; simp [valOf] at hu; rcases hu with rfl | rfl | rfl <;> rfl)
theorem numCells_flat (l : List Int) : l.flatMap (fun x => [Value.int .i64 x]) = numCells l := by
  induction l with
  | nil => rfl
  | cons x l ih => rw [List.flatMap_cons, ih]; rfl
theorem Sl.ints {w : World} {G : Nat → Prop} {v : Value} {l : List Int} (h : Sl intE w G v l) : Reads w 1 v l.length (numCells l) := by rw [← numCells_flat]; exact Sl.reads h
theorem Sl.vals {w : World} {G : Nat → Prop} {v : Value} {l : List GVal} (h : Sl valE w G v l) : Reads w 3 v l.length (valCells l) := Sl.reads h
theorem Sl.of_ints {w : World} {G : Nat → Prop} {v : Value} {l : List Int} (h : Reads w 1 v l.length (numCells l)) (hG : ∀ k, v.ownBlock = some k → ¬ G k) : Sl intE w G v l := Sl.of_reads (by rw [numCells_flat]; exact h) hG
theorem Sl.of_vals {w : World} {G : Nat → Prop} {v : Value} {l : List GVal} (h : Reads w 3 v l.length (valCells l)) (hG : ∀ k, v.ownBlock = some k → ¬ G k) : Sl valE w G v l := Sl.of_reads h hG
theorem Own.of_ints {w : World} {B : Nat} {v : Value} {l : List Int} (h : w.ownsRow B 3 1 v l.length (numCells l)) : Own intE w B v l := Own.of_flat (by rw [numCells_flat]; exact h)
theorem Own.ints {w : World} {B : Nat} {v : Value} {l : List Int} (h : Own intE w B v l) : w.ownsRow B 3 1 v l.length (numCells l) := by rw [← numCells_flat]; exact h.flat_cells

def gnull : GVal := ⟨0, 0, ⟨#[]⟩⟩
def gint (n : Int) : GVal := ⟨1, n, ⟨#[]⟩⟩
/-- The value as the walk has it. -/
def aggG (v : GVal) : Value := .agg #[.int .i64 v.kind, .int .i64 v.n, .string v.s]

theorem box_three {w : World} {g : Nat} {x y z : Value} {e : TypeId} (h : w.heap[g]? = some (.cells #[x, y, z] e (0, 0))) :
    (w.cell? ⟨g, 0, none⟩ = some x ∧ w.cell? ⟨g, 1, none⟩ = some y ∧ w.cell? ⟨g, 2, none⟩ = some z) ∧ w.frozen? ⟨g, 0, none⟩ = false ∧ w.frozen? ⟨g, 1, none⟩ = false ∧ w.frozen? ⟨g, 2, none⟩ = false := by
  refine ⟨⟨?_, ?_, ?_⟩, ?_, ?_, ?_⟩ <;> simp [World.cell?, World.frozen?, h]
theorem heap_alloc_new' (w : World) (o o' : Obj) : ((w.alloc o).alloc o').heap[w.heap.size + 1]? = some o' := by
  have := heap_alloc_new (w.alloc o) o'
  rwa [World.size_alloc] at this
theorem heap_alloc_old' (w : World) (o o' : Obj) : ((w.alloc o).alloc o').heap[w.heap.size]? = some o :=
  (Below.heap_alloc _ _ _ (by simp)).trans (heap_alloc_new w o)
theorem box_kept {w w' : World} {g : Nat} {o : Obj} (h : w.heap[g]? = some o) (hb : Below w.heap.size w w') : w'.heap[g]? = some o :=
  (hb.block g (Array.getElem?_eq_some_iff.1 h).1).trans h
end Go.Proofs.YthjgnpicnpfmjaaDoor
