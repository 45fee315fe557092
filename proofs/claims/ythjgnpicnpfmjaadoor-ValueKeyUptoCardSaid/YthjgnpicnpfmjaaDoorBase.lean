/- Laws of the walk that are of no program: 'append(s, x, ..)' onto a row of the call's own; small facts on worlds. No condition. -/
import Derived.WalkKit
import Derived.Lib.Hide
import Derived.Laws.DeepStrings4
import Derived.Deep.QuietTactic
import Derived.BigQuiet
import Derived.Deep.RegionHeld3
namespace Go.Proofs.YthjgnpicnpfmjaaDoor
open Go.RowKit

theorem ret_bool {a b : Bool} (h : a = b) : Ending.returned (.bool a) = .returned (.bool b) := by rw [h]
theorem ret_int {k : IntKind} {a b : Int} (h : a = b) : Ending.returned (.int k a) = .returned (.int k b) := by rw [h]
theorem below_alloc (w : World) (o : Obj) : Below w.heap.size w (w.alloc o) := (Below.refl _ _).alloc (Nat.le_refl _) _
theorem below_alloc2 {w w' : World} {o : Obj} (h : Below (w.heap.size + 1) (w.alloc o) w') : Below w.heap.size w w' :=
  (below_alloc w o).trans (h.mono (by omega))
theorem below_alloc2' {w w' : World} {o : Obj} (h : Below (w.alloc o).heap.size (w.alloc o) w') : Below w.heap.size w w' :=
  (below_alloc w o).trans (h.mono (by simp))
theorem below_two' {w w' : World} {o o' : Obj} (hb : Below ((w.alloc o).alloc o').heap.size ((w.alloc o).alloc o') w') : Below w.heap.size w w' :=
  (((below_alloc w o).alloc (by simp) _)).trans (hb.mono (by simp; omega))
theorem below_alloc_two (w : World) (o o' : Obj) : Below w.heap.size w ((w.alloc o).alloc o') := (below_alloc w o).alloc (by simp) _
theorem below_drewN {B : Nat} {a w : World} (h : Below B a w) (n : Nat) : Below B a (w.drewN n) := h.trans ⟨rfl, rfl, rfl, Nat.le_refl _, fun _ _ => rfl⟩
theorem bcell {W w1 : World} (hb : Below W.heap.size W w1) : (∀ b o, b < W.heap.size → w1.cell? ⟨b, o, none⟩ = W.cell? ⟨b, o, none⟩) ∧ (∀ b o, b < W.heap.size → w1.frozen? ⟨b, o, none⟩ = W.frozen? ⟨b, o, none⟩) :=
  ⟨fun b o h => hb.cell (p := ⟨b, o, none⟩) h, fun b o h => hb.frozen (p := ⟨b, o, none⟩) h⟩

/-- The cells of a block that has just been made. -/
theorem cells_new (w : World) (c : Array Value) (e : TypeId) : ∀ j u, c.toList[j]? = some u → (w.alloc (.cells c e)).cell? ((⟨w.heap.size, 0, none⟩ : Addr).add j) = some u := by
  intro j u hu
  rw [Addr.add_lit, Nat.zero_add, cell_of_row _ w.heap.size j c e (0, 0) (heap_alloc_new w _)]
  simpa using hu

/-- 'append(s, x, ..)', s a row of the call's own, the new elements in the block that has just been made for them. -/
theorem wpList_append_lit {P : Program} {w0 : World} {ops : Array Oper} {rest : List Oper} {o : Oper} {a : Act} {Q : Exit → Act → World → Prop} (hgd : o.guard = none) (s x : Operand) (t : TypeId)
    (ho : o.op = .call { callee := .builtin .append, args := #[s, x], argTypes := #[t, t] })
    (base : Nat) (e : TypeId) {i : TypeInfo} (z : Value) (size bytes : Nat) (ht : P.underlying t = some (.slice e)) (hi : P.info? e = some i) (hz : i.zero = some z)
    (hsize : i.size = size) (hby : i.bytes = bytes) (hzs : z.cells.size = size) (hsz : 0 < size)
    (v : Value) (n : Nat) (xs : List Value) (hs : a.eval s = v) (hown : w0.ownsRow base e size v n xs) (m : Nat) (c : Array Value)
    (hx : a.eval x = .slice (some ⟨w0.heap.size, 0, none⟩) m m) (hc : c.size = m * size) (h1 : ∀ u ∈ c.toList, u.oneCell' = true)
    (h63 : n + m ≤ maxLen) (hbytes : (n + m) * bytes ≤ 140737488355328) (hbase : base ≤ w0.heap.size)
    (h : ∀ v' w', w'.ownsRow base e size v' (n + m) (xs ++ c.toList) → Below base w0 w' → (v' = .slice none 0 0 ↔ v = .slice none 0 0 ∧ m = 0) → wpList P ops Q rest (a.put o.dst v') w') :
    wpList P ops Q (o :: rest) a (w0.alloc (.cells c e)) := by
  refine wpList_append_own _ hgd s x t ho base e i z size bytes ht hi hz hsize hby hzs hsz v n xs hs (hown.alloc _) ⟨w0.heap.size, 0, none⟩ m m c.toList hx (by simpa using hc) (cells_new w0 c e) h1 h63 hbytes (by simp; omega) ?_
  intro v' w' h2 h3 h4
  refine h v' w' h2 ?_ h4
  refine ((Below.refl base w0).alloc hbase _).grown h3 (by simp; omega) ?_
  intro k hk
  exact (hown.lt k hk).1
/-- What is owned stays owned while nothing below the heap's end turns. -/
theorem own_below {w w' : World} {base : Nat} {e : TypeId} {size : Nat} {v : Value} {n : Nat} {xs : List Value} (h : w.ownsRow base e size v n xs) (hb : Below w.heap.size w w') : w'.ownsRow base e size v n xs := by
  refine ⟨h.1, ?_⟩
  rcases h.2 with h2 | ⟨g, cap, cur, hv, hg, hh, r⟩
  · exact .inl h2
  · exact .inr ⟨g, cap, cur, hv, hg, by rw [hb.block g (Array.getElem?_eq_some_iff.1 hh).1]; exact hh, r⟩
/-- What is owned is a slice of that length. -/
theorem own_shape {w : World} {base : Nat} {e : TypeId} {size : Nat} {v : Value} {n : Nat} {xs : List Value} (h : w.ownsRow base e size v n xs) : ∃ a cap, v = .slice a n cap := by
  rcases h.2 with ⟨rfl, rfl⟩ | ⟨g, cap, cur, rfl, _⟩
  · exact ⟨_, _, rfl⟩
  · exact ⟨_, _, rfl⟩
theorem below_alloc_from {B : Nat} (w : World) (o : Obj) (h : B ≤ w.heap.size) : Below B w (w.alloc o) := (Below.refl _ _).alloc h _
/-- A slice of n elements (each of 'size' cells) that reads as these cells. -/
def Reads (w : World) (size : Nat) (v : Value) (n : Nat) (xs : List Value) : Prop :=
  xs.length = n * size ∧ n ≤ 9223372036854775807 ∧ ∃ (a : Option Addr) (c : Nat), v = .slice a n c ∧ n ≤ c ∧ (0 < n → ∃ b o, a = some ⟨b, o, none⟩ ∧ ∀ j u, xs[j]? = some u → w.cell? ⟨b, o + j, none⟩ = some u)
theorem Reads.below {w w' : World} {size : Nat} {v : Value} {n : Nat} {xs : List Value} (h : Reads w size v n xs) (hb : Below w.heap.size w w') : Reads w' size v n xs := by
  obtain ⟨h1, h2, a, c, h3, h4, h5⟩ := h
  refine ⟨h1, h2, a, c, h3, h4, fun hn => ?_⟩
  obtain ⟨b, o, h6, h7⟩ := h5 hn
  refine ⟨b, o, h6, fun j u hu => ?_⟩
  have h8 := h7 j u hu
  rw [hb.cell (p := ⟨b, o + j, none⟩) (World.block_lt_of_cell? w _ h8)]
  exact h8
theorem own_reads {w : World} {base : Nat} {e : TypeId} {size : Nat} {v : Value} {n : Nat} {xs : List Value} (h : w.ownsRow base e size v n xs) : Reads w size v n xs := by
  refine ⟨h.1, ?_⟩
  rcases h.2 with ⟨rfl, rfl⟩ | ⟨g, cap, cur, rfl, hb, hg, hn, hm, hc, ht⟩
  · exact ⟨by omega, none, 0, rfl, Nat.le_refl _, fun h => absurd h (by omega)⟩
  · refine ⟨by unfold maxLen at hm; omega, _, cap, rfl, hn, fun _ => ⟨g, 0, rfl, fun j u hu => ?_⟩⟩
    rw [Nat.zero_add, cell_of_row _ g j cur e (0, 0) hg]
    rw [← ht, List.getElem?_take] at hu
    split at hu
    · simpa using hu
    · cases hu
theorem lget_some {α : Type} (l : List α) (k : Nat) (h : k < l.length) : ∃ x, l[k]? = some x := ⟨_, List.getElem?_eq_getElem h⟩
theorem drop_get {α : Type} {l : List α} {k : Nat} {x : α} (h : l[k]? = some x) : l.drop k = x :: l.drop (k + 1) := by
  obtain ⟨h1, h2⟩ := List.getElem?_eq_some_iff.1 h
  rw [List.drop_eq_getElem_cons h1, h2]
theorem take_get {α : Type} {l : List α} {k : Nat} {x : α} (h : l[k]? = some x) : l.take (k + 1) = l.take k ++ [x] := by
  obtain ⟨h1, h2⟩ := List.getElem?_eq_some_iff.1 h
  rw [List.take_succ_eq_append_getElem h1, h2]
theorem drewN_drewN (w : World) (a b : Nat) : ∃ c, (w.drewN a).drewN b = w.drewN c := by
  refine ⟨a + b, ?_⟩
  simp [World.drewN, Nat.add_assoc]
theorem block_new (w : World) (c : Array Value) (e : TypeId) {w' : World} (hb : Below (w.alloc (.cells c e)).heap.size (w.alloc (.cells c e)) w') : w'.heap[w.heap.size]? = some (.cells c e) := by
  rw [hb.block _ (by simp)]; exact heap_alloc_new w _
theorem block_cells3 {w : World} {g : Nat} {a b c : Value} {e : TypeId} {fz : Nat × Nat} (h : w.heap[g]? = some (.cells #[a, b, c] e fz)) :
    w.cell? ⟨g, 0, none⟩ = some a ∧ w.cell? ⟨g, 1, none⟩ = some b ∧ w.cell? ⟨g, 2, none⟩ = some c := by
  refine ⟨?_, ?_, ?_⟩ <;> simp [World.cell?, h]
/-- From what is known of each element's cells to what is known of all. -/
theorem flat_cells {α β : Type} (f : α → List β) (size : Nat) (hsz : ∀ x, (f x).length = size) (l : List α) : ∀ (Q : Nat → β → Prop),
    (∀ i x, l[i]? = some x → ∀ j u, (f x)[j]? = some u → Q (i * size + j) u) → ∀ j u, (l.flatMap f)[j]? = some u → Q j u := by
  induction l with
  | nil => intro Q _ j u h; simp at h
  | cons a l ih =>
    intro Q h j u hj
    rw [List.flatMap_cons] at hj
    rcases Nat.lt_or_ge j size with hlt | hge
    · rw [List.getElem?_append_left (by rw [hsz]; exact hlt)] at hj
      have := h 0 a rfl j u hj
      simpa using this
    · rw [List.getElem?_append_right (by rw [hsz]; exact hge), hsz] at hj
      have := ih (fun j u => Q (size + j) u) (fun i x hi j u hu => by
        have := h (i + 1) x (by simpa using hi) j u hu
        rw [Nat.add_mul, Nat.one_mul] at this
        rw [show size + (i * size + j) = i * size + size + j by omega]; exact this) (j - size) u hj
      rw [show size + (j - size) = j by omega] at this
      exact this
theorem below_keep {w W W' : World} (h : Below w.heap.size w W) (hb : Below W.heap.size W W') : Below w.heap.size w W' := h.trans (hb.mono h.size)
theorem cell_keep {W W' : World} {p : Addr} {v : Value} (hb : Below W.heap.size W W') (h : W.cell? p = some v) : W'.cell? p = some v := (hb.cell (World.block_lt_of_cell? W _ h)).trans h
theorem cell_drew {W : World} {p : Addr} {v : Value} (h : W.cell? p = some v) : W.drew.cell? p = some v := h
theorem below_alloc_keep {w W : World} {o : Obj} (h : Below w.heap.size w W) : Below w.heap.size w (W.alloc o) := h.alloc h.size _
theorem Reads.drop1 {w : World} {a : Option Addr} {n c : Nat} {zs : List Value} (h : Reads w 1 (.slice a n c) n zs) (j : Nat) (hj : j ≤ n) : Reads w 1 (.slice (a.map fun x => x.add j) (n - j) (c - j)) (n - j) (zs.drop j) := by
  obtain ⟨h1, h2, a', c', e, h4, h5⟩ := h
  cases e
  refine ⟨by rw [List.length_drop, h1]; omega, by omega, _, _, rfl, by omega, fun hn => ?_⟩
  obtain ⟨b, o, rfl, h6⟩ := h5 (by omega)
  refine ⟨b, o + j, by simp [Addr.add_lit], fun i u hu => ?_⟩
  rw [List.getElem?_drop] at hu
  rw [Nat.add_assoc]; exact h6 _ u hu
end Go.Proofs.YthjgnpicnpfmjaaDoor
