/- Tuples in memory: what a slice of tuples reads as; a slice of tuples of the call's own. -/
import Derived.Test.YtminnkihcohflaaEl
import Derived.Test.YtminnkihcohflaaProg
namespace Go.Proofs.Ytminnkihcohflaa
open Go.RowKit Go.Lib

/-- A value of the program. -/
structure GVal where
  kind : Int
  n : Int
  s : ByteArray
/-- A tuple of the program. -/
structure Tup where
  vals : List GVal
  lo : Int
  hi : Int
  lin : List Int
def numCells (l : List Int) : List Value := l.map (Value.int .i64)
def valOf (v : GVal) : List Value := [.int .i64 v.kind, .int .i64 v.n, .string v.s]
def valCells (l : List GVal) : List Value := l.flatMap valOf
theorem numCells_length (l : List Int) : (numCells l).length = l.length := List.length_map _
theorem numCells_at (l : List Int) (k : Nat) (x : Int) (h : l[k]? = some x) : (numCells l)[k]? = some (.int .i64 x) := by simp [numCells, h]
theorem valCells_length (l : List GVal) : (valCells l).length = l.length * 3 := by
  induction l with
  | nil => rfl
  | cons v l ih => rw [valCells, List.flatMap_cons, List.length_append, ← valCells, ih, List.length_cons]; simp [valOf]; omega
theorem valCells_at (l : List GVal) (i : Nat) (x : GVal) (h : l[i]? = some x) : (valCells l)[i * 3]? = some (.int .i64 x.kind) ∧ (valCells l)[i * 3 + 1]? = some (.int .i64 x.n) ∧ (valCells l)[i * 3 + 2]? = some (.string x.s) := by
  induction l generalizing i with
  | nil => simp at h
  | cons v l ih =>
    cases i with
    | zero => simp at h; subst h; simp [valCells, valOf]
    | succ i =>
      have := ih i (by simpa using h)
      have e : valCells (v :: l) = valOf v ++ valCells l := rfl
      rw [e, show (i + 1) * 3 = (valOf v).length + i * 3 by simp [valOf]; omega, Nat.add_assoc, Nat.add_assoc, List.getElem?_append_right (by omega), List.getElem?_append_right (by omega), List.getElem?_append_right (by omega)]
      simpa using this

/-- Reads, in no cell of block g. -/
def ReadsA (w : World) (g : Option Nat) (size : Nat) (v : Value) (n : Nat) (xs : List Value) : Prop := Reads w size v n xs ∧ (0 < n → v.ownBlock ≠ g)
theorem ReadsA.below {w w' : World} {g : Option Nat} {size : Nat} {v : Value} {n : Nat} {xs : List Value} (h : ReadsA w g size v n xs) (hb : Below w.heap.size w w') : ReadsA w' g size v n xs := ⟨h.1.below hb, h.2⟩
theorem Reads.block {w : World} {size : Nat} {v : Value} {n : Nat} {xs : List Value} (h : Reads w size v n xs) (hn : 0 < n) (hs : 0 < size) : ∃ k, v.ownBlock = some k ∧ k < w.heap.size := by
  obtain ⟨h1, _, a, c, rfl, _, h5⟩ := h
  obtain ⟨b, o, rfl, h7⟩ := h5 hn
  have hp : 0 < xs.length := by rw [h1]; exact Nat.mul_pos hn hs
  exact ⟨b, rfl, World.block_lt_of_cell? w ⟨b, o + 0, none⟩ (h7 0 _ (List.getElem?_eq_getElem hp))⟩
theorem ReadsA.new {w : World} {size : Nat} {v : Value} {n : Nat} {xs : List Value} (h : Reads w size v n xs) (hs : 0 < size) {m : Nat} (hm : w.heap.size ≤ m) : ReadsA w (some m) size v n xs := by
  refine ⟨h, fun hn e => ?_⟩
  obtain ⟨k, hk, hl⟩ := h.block hn hs
  rw [hk] at e; cases e; omega
theorem ReadsA.grown {w w' : World} {g : Option Nat} {size : Nat} {v : Value} {n : Nat} {xs : List Value} (h : ReadsA w g size v n xs) (hg : w.grownBy w' g) : ReadsA w' g size v n xs := by
  refine ⟨?_, h.2⟩
  obtain ⟨⟨h1, h2, a, c, rfl, h4, h5⟩, h6⟩ := h
  refine ⟨h1, h2, a, c, rfl, h4, fun hn => ?_⟩
  obtain ⟨b, o, rfl, h7⟩ := h5 hn
  exact ⟨b, o, rfl, fun j u hu => hg.cell (h7 j u hu) (h6 hn)⟩
theorem ReadsA.any {w : World} {size : Nat} {v : Value} {n : Nat} {xs : List Value} (h : Reads w size v n xs) (hs : 0 < size) : ReadsA w none size v n xs := by
  refine ⟨h, fun hn e => ?_⟩
  obtain ⟨k, hk, _⟩ := h.block hn hs
  rw [hk] at e; cases e

theorem int_info : (Try.prog.info? 3).map (fun i => (i.zero, i.size, i.bytes)) = some (some (.int .i64 0), 1, 8) := by kernel_rfl
theorem val_info : (Try.prog.info? 79).map (fun i => (i.zero, i.size, i.bytes)) = some (some (.agg #[.int .i64 0, .int .i64 0, .string ⟨#[]⟩]), 3, 32) := by kernel_rfl
theorem tup_info : (Try.prog.info? 67).map (fun i => (i.zero, i.size, i.bytes)) = some (some (.agg #[.slice none 0 0, .int .i64 0, .int .i64 0, .slice none 0 0]), 4, 64) := by kernel_rfl
def intE : El Try.prog Int := El.flat 3 1 8 (by decide) (info_mk int_info rfl) (fun x => [.int .i64 x]) (fun _ => rfl) (by intro x u hu; simp at hu; subst hu; rfl)
def valE : El Try.prog GVal := El.flat 79 3 32 (by decide) (info_mk val_info rfl) valOf (fun _ => rfl) (by intro x u hu; simp [valOf] at hu; rcases hu with rfl | rfl | rfl <;> rfl)
theorem numCells_flat (l : List Int) : l.flatMap (fun x => [Value.int .i64 x]) = numCells l := by
  induction l with
  | nil => rfl
  | cons x l ih => rw [List.flatMap_cons, ih]; rfl
theorem Sl.ints {w : World} {G : Nat → Prop} {v : Value} {l : List Int} (h : Sl intE w G v l) : Reads w 1 v l.length (numCells l) := by rw [← numCells_flat]; exact Sl.reads h
theorem Sl.vals {w : World} {G : Nat → Prop} {v : Value} {l : List GVal} (h : Sl valE w G v l) : Reads w 3 v l.length (valCells l) := Sl.reads h
theorem Sl.of_ints {w : World} {G : Nat → Prop} {v : Value} {l : List Int} (h : Reads w 1 v l.length (numCells l)) (hG : ∀ k, v.ownBlock = some k → ¬ G k) : Sl intE w G v l := Sl.of_reads (by rw [numCells_flat]; exact h) hG
theorem Sl.of_vals {w : World} {G : Nat → Prop} {v : Value} {l : List GVal} (h : Reads w 3 v l.length (valCells l)) (hG : ∀ k, v.ownBlock = some k → ¬ G k) : Sl valE w G v l := Sl.of_reads h hG
theorem Own.of_ints {w : World} {B : Nat} {v : Value} {l : List Int} (h : w.ownsRow B 3 1 v l.length (numCells l)) : Own intE w B v l := Own.of_flat (by rw [numCells_flat]; exact h)
theorem Own.ints {w : World} {B : Nat} {v : Value} {l : List Int} (h : Own intE w B v l) : w.ownsRow B 3 1 v l.length (numCells l) := by rw [← numCells_flat]; exact h.flat_cells

/-- Tuples. -/
def tupE : El Try.prog Tup where
  ty := 67
  size := 4
  bytes := 64
  pos := by decide
  info := info_mk tup_info rfl
  is := fun w G t cs => ∃ v u, cs = [v, .int .i64 t.lo, .int .i64 t.hi, u] ∧ Sl valE w G v t.vals ∧ Sl intE w G u t.lin
  len := by rintro w G t cs ⟨v, u, rfl, _⟩; rfl
  one := by
    rintro w G t cs ⟨v, u, rfl, h1, h2⟩ x hx
    simp at hx
    rcases hx with rfl | rfl | rfl | rfl
    · exact h1.one
    · rfl
    · rfl
    · exact h2.one
  mono := by rintro w G G' t cs ⟨v, u, rfl, h1, h2⟩ hm; exact ⟨v, u, rfl, h1.mono hm, h2.mono hm⟩
  kept := by rintro w w' G t cs ⟨v, u, rfl, h1, h2⟩ hk; exact ⟨v, u, rfl, h1.kept hk, h2.kept hk⟩
/-- A slice of tuples. -/
abbrev Tups (w : World) (v : Value) (l : List Tup) : Prop := Sl tupE w free v l
theorem tups_at {w : World} {a : Option Addr} {n c k : Nat} {l : List Tup} {x : Tup} (h : Tups w (.slice a n c) l) (hk : l[k]? = some x) :
    ∃ b o a1 n1 e1 m1, a = some ⟨b, o, none⟩ ∧ Sl valE w free (.slice a1 x.vals.length n1) x.vals ∧ Sl intE w free (.slice e1 x.lin.length m1) x.lin ∧
      w.cell? ⟨b, o + k * 4, none⟩ = some (.slice a1 x.vals.length n1) ∧ w.cell? ⟨b, o + k * 4 + 1, none⟩ = some (.int .i64 x.lo) ∧ w.cell? ⟨b, o + k * 4 + 2, none⟩ = some (.int .i64 x.hi) ∧ w.cell? ⟨b, o + k * 4 + 3, none⟩ = some (.slice e1 x.lin.length m1) := by
  obtain ⟨b, o, cs, ha, ⟨v, u, rfl, hv, hu⟩, hc⟩ := Sl.at h hk
  obtain ⟨a1, n1, rfl⟩ := hv.shape
  obtain ⟨e1, m1, rfl⟩ := hu.shape
  exact ⟨b, o, a1, n1, e1, m1, ha, hv, hu, hc 0 _ rfl, hc 1 _ rfl, hc 2 _ rfl, hc 3 _ rfl⟩
end Go.Proofs.Ytminnkihcohflaa
