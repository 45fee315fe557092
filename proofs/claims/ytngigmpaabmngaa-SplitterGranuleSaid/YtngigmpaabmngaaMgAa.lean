/- A part of the proofs: Base, GrP, GrQ, El, Gv, SplD, SplE, ShSl, Tup, Iter, SplA, SplB, SplC, SplF, SplG, SplH, SplI, SplP, SplJ. No condition beside sizes and tables that read as laid. -/
import Derived.WalkKit
import Derived.Lib.Hide
import Derived.Laws.DeepStrings4
import Derived.Deep.QuietTactic
import Derived.BigQuiet
import Derived.Deep.RegionHeld3
import Derived.Maps.AppendAt
import Derived.Deep.AppendLies
import Derived.Test.YtngigmpaabmngaaProg
import Derived.Shelf.SlIterI.Sorted
import Derived.Ground.GgzProg
import Derived.Shelf.Small.Bits
import Derived.Shelf.Small.Strs
import Derived.Shelf.Strconv.Itoa0
import Derived.Shelf.Sort.Plain
import Derived.Shelf.Bits.Mul64
import Derived.Ground.Names2Prog
import Derived.Shelf.Slices.Clone
import Derived.Shelf.Slices.CompactI
import Derived.Shelf.Slices.SearchI
import Derived.Shelf.Slices.Cells
import Derived.Shelf.Slices.In.SortNone
import Derived.Shelf.Slices.Empties
import Derived.Ground.SlgnProg
import Derived.Shelf.SlicesG.SearchI
import Derived.Shelf.SlicesE.Clone
import Derived.RangeFuncBox
import Derived.RangeFuncLeaves
import Derived.RangeFuncFrom
import Derived.Shelf.Abstract
import Derived.OwnWalkIn
import Derived.TacticsInMore
import Derived.LoopNIn
import Derived.LoopIn
import Derived.Test.YtngigmpaabmngaaChecked
import Derived.Lib.BufferOwn
namespace Go.Proofs.Ytngigmpaabmngaa
open Go.RowKit

theorem ret_bool {a b : Bool} (h : a = b) : Ending.returned (.bool a) = .returned (.bool b) := by rw [h]
theorem ret_int {k : IntKind} {a b : Int} (h : a = b) : Ending.returned (.int k a) = .returned (.int k b) := by rw [h]
theorem below_alloc (w : World) (o : Obj) : Below w.heap.size w (w.alloc o) := (Below.refl _ _).alloc (Nat.le_refl _) _
theorem below_alloc2 {w w' : World} {o : Obj} (h : Below (w.heap.size + 1) (w.alloc o) w') : Below w.heap.size w w' :=
  (below_alloc w o).trans (h.mono (by omega))
theorem below_alloc2' {w w' : World} {o : Obj} (h : Below (w.alloc o).heap.size (w.alloc o) w') : Below w.heap.size w w' :=
  (below_alloc w o).trans (h.mono (by simp))
theorem below_two' {w w' : World} {o o' : Obj} (hb : Below ((w.alloc o).alloc o').heap.size ((w.alloc o).alloc o') w') : Below w.heap.size w w' :=
  (((below_alloc w o).alloc (by simp) _)).trans (hb.mono (by simp; omega))
theorem below_alloc_two (w : World) (o o' : Obj) : Below w.heap.size w ((w.alloc o).alloc o') := (below_alloc w o).alloc (by simp) _
theorem below_drewN {B : Nat} {a w : World} (h : Below B a w) (n : Nat) : Below B a (w.drewN n) := h.trans ⟨rfl, rfl, rfl, Nat.le_refl _, fun _ _ => rfl⟩
theorem bcell {W w1 : World} (hb : Below W.heap.size W w1) : (∀ b o, b < W.heap.size → w1.cell? ⟨b, o, none⟩ = W.cell? ⟨b, o, none⟩) ∧ (∀ b o, b < W.heap.size → w1.frozen? ⟨b, o, none⟩ = W.frozen? ⟨b, o, none⟩) :=
  ⟨fun b o h => hb.cell (p := ⟨b, o, none⟩) h, fun b o h => hb.frozen (p := ⟨b, o, none⟩) h⟩

/-- The cells of a block that has just been made. -/
theorem cells_new (w : World) (c : Array Value) (e : TypeId) : ∀ j u, c.toList[j]? = some u → (w.alloc (.cells c e)).cell? ((⟨w.heap.size, 0, none⟩ : Addr).add j) = some u := by
  intro j u hu
  rw [Addr.add_lit, Nat.zero_add, cell_of_row _ w.heap.size j c e (0, 0) (heap_alloc_new w _)]
  simpa using hu

/-- 'append(s, x, ..)', s a row of the call's own, the new elements in the block that has just been made for them. -/
theorem wpList_append_lit {P : Program} {w0 : World} {ops : Array Oper} {rest : List Oper} {o : Oper} {a : Act} {Q : Exit → Act → World → Prop} (hgd : o.guard = none) (s x : Operand) (t : TypeId)
    (ho : o.op = .call { callee := .builtin .append, args := #[s, x], argTypes := #[t, t] })
    (base : Nat) (e : TypeId) {i : TypeInfo} (z : Value) (size bytes : Nat) (ht : P.underlying t = some (.slice e)) (hi : P.info? e = some i) (hz : i.zero = some z)
    (hsize : i.size = size) (hby : i.bytes = bytes) (hzs : z.cells.size = size) (hsz : 0 < size)
    (v : Value) (n : Nat) (xs : List Value) (hs : a.eval s = v) (hown : w0.ownsRow base e size v n xs) (m : Nat) (c : Array Value)
    (hx : a.eval x = .slice (some ⟨w0.heap.size, 0, none⟩) m m) (hc : c.size = m * size) (h1 : ∀ u ∈ c.toList, u.oneCell' = true)
    (h63 : n + m ≤ maxLen) (hbytes : (n + m) * bytes ≤ 140737488355328) (hbase : base ≤ w0.heap.size)
    (h : ∀ v' w', w'.ownsRow base e size v' (n + m) (xs ++ c.toList) → Below base w0 w' → (v' = .slice none 0 0 ↔ v = .slice none 0 0 ∧ m = 0) → wpList P ops Q rest (a.put o.dst v') w') :
    wpList P ops Q (o :: rest) a (w0.alloc (.cells c e)) := by
  refine wpList_append_own _ hgd s x t ho base e i z size bytes ht hi hz hsize hby hzs hsz v n xs hs (hown.alloc _) ⟨w0.heap.size, 0, none⟩ m m c.toList hx (by simpa using hc) (cells_new w0 c e) h1 h63 hbytes (by simp; omega) ?_
  intro v' w' h2 h3 h4
  refine h v' w' h2 ?_ h4
  refine ((Below.refl base w0).alloc hbase _).grown h3 (by simp; omega) ?_
  intro k hk
  exact (hown.lt k hk).1
/-- What is owned stays owned while nothing below the heap's end turns. -/
theorem own_below {w w' : World} {base : Nat} {e : TypeId} {size : Nat} {v : Value} {n : Nat} {xs : List Value} (h : w.ownsRow base e size v n xs) (hb : Below w.heap.size w w') : w'.ownsRow base e size v n xs := by
  refine ⟨h.1, ?_⟩
  rcases h.2 with h2 | ⟨g, cap, cur, hv, hg, hh, r⟩
  · exact .inl h2
  · exact .inr ⟨g, cap, cur, hv, hg, by rw [hb.block g (Array.getElem?_eq_some_iff.1 hh).1]; exact hh, r⟩
/-- What is owned is a slice of that length. -/
theorem own_shape {w : World} {base : Nat} {e : TypeId} {size : Nat} {v : Value} {n : Nat} {xs : List Value} (h : w.ownsRow base e size v n xs) : ∃ a cap, v = .slice a n cap := by
  rcases h.2 with ⟨rfl, rfl⟩ | ⟨g, cap, cur, rfl, _⟩
  · exact ⟨_, _, rfl⟩
  · exact ⟨_, _, rfl⟩
theorem below_alloc_from {B : Nat} (w : World) (o : Obj) (h : B ≤ w.heap.size) : Below B w (w.alloc o) := (Below.refl _ _).alloc h _
/-- A slice of n elements (each of 'size' cells) that reads as these cells. -/
def Reads (w : World) (size : Nat) (v : Value) (n : Nat) (xs : List Value) : Prop :=
  xs.length = n * size ∧ n ≤ 9223372036854775807 ∧ ∃ (a : Option Addr) (c : Nat), v = .slice a n c ∧ n ≤ c ∧ (0 < n → ∃ b o, a = some ⟨b, o, none⟩ ∧ ∀ j u, xs[j]? = some u → w.cell? ⟨b, o + j, none⟩ = some u)
theorem Reads.below {w w' : World} {size : Nat} {v : Value} {n : Nat} {xs : List Value} (h : Reads w size v n xs) (hb : Below w.heap.size w w') : Reads w' size v n xs := by
  obtain ⟨h1, h2, a, c, h3, h4, h5⟩ := h
  refine ⟨h1, h2, a, c, h3, h4, fun hn => ?_⟩
  obtain ⟨b, o, h6, h7⟩ := h5 hn
  refine ⟨b, o, h6, fun j u hu => ?_⟩
  have h8 := h7 j u hu
  rw [hb.cell (p := ⟨b, o + j, none⟩) (World.block_lt_of_cell? w _ h8)]
  exact h8
theorem own_reads {w : World} {base : Nat} {e : TypeId} {size : Nat} {v : Value} {n : Nat} {xs : List Value} (h : w.ownsRow base e size v n xs) : Reads w size v n xs := by
  refine ⟨h.1, ?_⟩
  rcases h.2 with ⟨rfl, rfl⟩ | ⟨g, cap, cur, rfl, hb, hg, hn, hm, hc, ht⟩
  · exact ⟨by omega, none, 0, rfl, Nat.le_refl _, fun h => absurd h (by omega)⟩
  · refine ⟨by unfold maxLen at hm; omega, _, cap, rfl, hn, fun _ => ⟨g, 0, rfl, fun j u hu => ?_⟩⟩
    rw [Nat.zero_add, cell_of_row _ g j cur e (0, 0) hg]
    rw [← ht, List.getElem?_take] at hu
    split at hu
    · simpa using hu
    · cases hu
theorem lget_some {α : Type} (l : List α) (k : Nat) (h : k < l.length) : ∃ x, l[k]? = some x := ⟨_, List.getElem?_eq_getElem h⟩
theorem drop_get {α : Type} {l : List α} {k : Nat} {x : α} (h : l[k]? = some x) : l.drop k = x :: l.drop (k + 1) := by
  obtain ⟨h1, h2⟩ := List.getElem?_eq_some_iff.1 h
  rw [List.drop_eq_getElem_cons h1, h2]
theorem take_get {α : Type} {l : List α} {k : Nat} {x : α} (h : l[k]? = some x) : l.take (k + 1) = l.take k ++ [x] := by
  obtain ⟨h1, h2⟩ := List.getElem?_eq_some_iff.1 h
  rw [List.take_succ_eq_append_getElem h1, h2]
theorem drewN_drewN (w : World) (a b : Nat) : ∃ c, (w.drewN a).drewN b = w.drewN c := by
  refine ⟨a + b, ?_⟩
  simp [World.drewN, Nat.add_assoc]
theorem block_new (w : World) (c : Array Value) (e : TypeId) {w' : World} (hb : Below (w.alloc (.cells c e)).heap.size (w.alloc (.cells c e)) w') : w'.heap[w.heap.size]? = some (.cells c e) := by
  rw [hb.block _ (by simp)]; exact heap_alloc_new w _
theorem block_cells3 {w : World} {g : Nat} {a b c : Value} {e : TypeId} {fz : Nat × Nat} (h : w.heap[g]? = some (.cells #[a, b, c] e fz)) :
    w.cell? ⟨g, 0, none⟩ = some a ∧ w.cell? ⟨g, 1, none⟩ = some b ∧ w.cell? ⟨g, 2, none⟩ = some c := by
  refine ⟨?_, ?_, ?_⟩ <;> simp [World.cell?, h]
/-- From what is known of each element's cells to what is known of all. -/
theorem flat_cells {α β : Type} (f : α → List β) (size : Nat) (hsz : ∀ x, (f x).length = size) (l : List α) : ∀ (Q : Nat → β → Prop),
    (∀ i x, l[i]? = some x → ∀ j u, (f x)[j]? = some u → Q (i * size + j) u) → ∀ j u, (l.flatMap f)[j]? = some u → Q j u := by
  induction l with
  | nil => intro Q _ j u h; simp at h
  | cons a l ih =>
    intro Q h j u hj
    rw [List.flatMap_cons] at hj
    rcases Nat.lt_or_ge j size with hlt | hge
    · rw [List.getElem?_append_left (by rw [hsz]; exact hlt)] at hj
      have := h 0 a rfl j u hj
      simpa using this
    · rw [List.getElem?_append_right (by rw [hsz]; exact hge), hsz] at hj
      have := ih (fun j u => Q (size + j) u) (fun i x hi j u hu => by
        have := h (i + 1) x (by simpa using hi) j u hu
        rw [Nat.add_mul, Nat.one_mul] at this
        rw [show size + (i * size + j) = i * size + size + j by omega]; exact this) (j - size) u hj
      rw [show size + (j - size) = j by omega] at this
      exact this
theorem below_keep {w W W' : World} (h : Below w.heap.size w W) (hb : Below W.heap.size W W') : Below w.heap.size w W' := h.trans (hb.mono h.size)
theorem cell_keep {W W' : World} {p : Addr} {v : Value} (hb : Below W.heap.size W W') (h : W.cell? p = some v) : W'.cell? p = some v := (hb.cell (World.block_lt_of_cell? W _ h)).trans h
theorem cell_drew {W : World} {p : Addr} {v : Value} (h : W.cell? p = some v) : W.drew.cell? p = some v := h
theorem below_alloc_keep {w W : World} {o : Obj} (h : Below w.heap.size w W) : Below w.heap.size w (W.alloc o) := h.alloc h.size _
theorem Reads.drop1 {w : World} {a : Option Addr} {n c : Nat} {zs : List Value} (h : Reads w 1 (.slice a n c) n zs) (j : Nat) (hj : j ≤ n) : Reads w 1 (.slice (a.map fun x => x.add j) (n - j) (c - j)) (n - j) (zs.drop j) := by
  obtain ⟨h1, h2, a', c', e, h4, h5⟩ := h
  cases e
  refine ⟨by rw [List.length_drop, h1]; omega, by omega, _, _, rfl, by omega, fun hn => ?_⟩
  obtain ⟨b, o, rfl, h6⟩ := h5 (by omega)
  refine ⟨b, o + j, by simp [Addr.add_lit], fun i u hu => ?_⟩
  rw [List.getElem?_drop] at hu
  rw [Nat.add_assoc]; exact h6 _ u hu
end Go.Proofs.Ytngigmpaabmngaa

namespace Go.Proofs.Ytngigmpaabmngaa

def leapY (y : Int) : Bool := (y % 4 == 0 && !(y % 100 == 0)) || y % 400 == 0
def dimY (y m : Int) : Int := if m = 2 then (if leapY y = true then 29 else 28) else if m = 4 ∨ m = 6 ∨ m = 9 ∨ m = 11 then 30 else if 1 ≤ m ∧ m ≤ 12 then 31 else 0
/-- The first day of a year. -/
def nyY (y : Int) : Int := 365 * (y - 1600) + (y - 1600 + 3) / 4 - (y - 1600 + 99) / 100 + (y - 1600 + 399) / 400
theorem leapY_iff (y : Int) : leapY y = true ↔ (y % 4 = 0 ∧ y % 100 ≠ 0) ∨ y % 400 = 0 := by unfold leapY; simp
theorem dimY_ge {y m : Int} (h1 : 1 ≤ m) (h2 : m ≤ 12) : 28 ≤ dimY y m ∧ dimY y m ≤ 31 := by
  unfold dimY
  repeat' split
  all_goals omega
theorem nyY_succ (y : Int) : nyY (y + 1) = nyY y + 365 + if leapY y = true then 1 else 0 := by
  have h := leapY_iff y
  unfold nyY
  by_cases hl : leapY y = true
  · rw [if_pos hl]
    have := h.1 hl
    omega
  · rw [if_neg hl]
    have : ¬ ((y % 4 = 0 ∧ y % 100 ≠ 0) ∨ y % 400 = 0) := fun e => hl (h.2 e)
    omega
/-- Year and month of the k-th month from January 1600. -/
def yrK (k : Nat) : Int := 1600 + (k / 12 : Nat)
def moK (k : Nat) : Int := (k % 12 : Nat) + 1
/-- The first day of the k-th month. -/
def fdK : Nat → Int
  | 0 => 0
  | k + 1 => fdK k + dimY (yrK k) (moK k)
theorem moK_bounds (k : Nat) : 1 ≤ moK k ∧ moK k ≤ 12 := by unfold moK; omega
theorem fdK_succ (k : Nat) : fdK (k + 1) = fdK k + dimY (yrK k) (moK k) := rfl
theorem fdK_step (k : Nat) : fdK k + 28 ≤ fdK (k + 1) := by
  have := dimY_ge (y := yrK k) (moK_bounds k).1 (moK_bounds k).2
  rw [fdK_succ]; omega
theorem fdK_mono {j k : Nat} (h : j ≤ k) : fdK j ≤ fdK k := by
  induction h with
  | refl => exact Int.le_refl _
  | @step m h ih => exact Int.le_trans ih (by have := fdK_step m; show fdK m ≤ fdK (m + 1); omega)
theorem fdK_lt {j k : Nat} (h : j < k) : fdK j + 28 ≤ fdK k := Int.le_trans (fdK_step j) (fdK_mono h)
/-- Within a year. -/
theorem fdK_in (j : Nat) (i : Nat) (hi : i < 12) : fdK (12 * j + i + 1) = fdK (12 * j + i) + dimY (1600 + j) (i + 1) := by
  rw [fdK_succ]
  unfold yrK moK
  rw [show (12 * j + i) / 12 = j by omega, show (12 * j + i) % 12 = i by omega]
theorem fdK_year (j : Nat) : fdK (12 * j) = nyY (1600 + j) := by
  induction j with
  | zero => decide
  | succ j ih =>
    obtain ⟨y, hy0⟩ : ∃ y : Int, y = 1600 + (j : Int) := ⟨_, rfl⟩
    have h0 : fdK (12 * j + 1) = fdK (12 * j) + 31 := (fdK_in j 0 (by decide)).trans (by rw [← hy0]; show _ + dimY y 1 = _; rw [show dimY y 1 = 31 by unfold dimY; simp]; rfl)
    have h1 : fdK (12 * j + 2) = fdK (12 * j + 1) + (if leapY y = true then 29 else 28) := (fdK_in j 1 (by decide)).trans (by rw [← hy0]; show _ + dimY y 2 = _; rw [show dimY y 2 = if leapY y = true then 29 else 28 by unfold dimY; simp])
    have h2 : fdK (12 * j + 3) = fdK (12 * j + 2) + 31 := (fdK_in j 2 (by decide)).trans (by rw [← hy0]; show _ + dimY y 3 = _; rw [show dimY y 3 = 31 by unfold dimY; simp])
    have h3 : fdK (12 * j + 4) = fdK (12 * j + 3) + 30 := (fdK_in j 3 (by decide)).trans (by rw [← hy0]; show _ + dimY y 4 = _; rw [show dimY y 4 = 30 by unfold dimY; simp])
    have h4 : fdK (12 * j + 5) = fdK (12 * j + 4) + 31 := (fdK_in j 4 (by decide)).trans (by rw [← hy0]; show _ + dimY y 5 = _; rw [show dimY y 5 = 31 by unfold dimY; simp])
    have h5 : fdK (12 * j + 6) = fdK (12 * j + 5) + 30 := (fdK_in j 5 (by decide)).trans (by rw [← hy0]; show _ + dimY y 6 = _; rw [show dimY y 6 = 30 by unfold dimY; simp])
    have h6 : fdK (12 * j + 7) = fdK (12 * j + 6) + 31 := (fdK_in j 6 (by decide)).trans (by rw [← hy0]; show _ + dimY y 7 = _; rw [show dimY y 7 = 31 by unfold dimY; simp])
    have h7 : fdK (12 * j + 8) = fdK (12 * j + 7) + 31 := (fdK_in j 7 (by decide)).trans (by rw [← hy0]; show _ + dimY y 8 = _; rw [show dimY y 8 = 31 by unfold dimY; simp])
    have h8 : fdK (12 * j + 9) = fdK (12 * j + 8) + 30 := (fdK_in j 8 (by decide)).trans (by rw [← hy0]; show _ + dimY y 9 = _; rw [show dimY y 9 = 30 by unfold dimY; simp])
    have h9 : fdK (12 * j + 10) = fdK (12 * j + 9) + 31 := (fdK_in j 9 (by decide)).trans (by rw [← hy0]; show _ + dimY y 10 = _; rw [show dimY y 10 = 31 by unfold dimY; simp])
    have h10 : fdK (12 * j + 11) = fdK (12 * j + 10) + 30 := (fdK_in j 10 (by decide)).trans (by rw [← hy0]; show _ + dimY y 11 = _; rw [show dimY y 11 = 30 by unfold dimY; simp])
    have h11 : fdK (12 * j + 12) = fdK (12 * j + 11) + 31 := (fdK_in j 11 (by decide)).trans (by rw [← hy0]; show _ + dimY y 12 = _; rw [show dimY y 12 = 31 by unfold dimY; simp])
    have hy := nyY_succ y
    rw [show 12 * (j + 1) = 12 * j + 12 by omega, show (1600 + ((j + 1 : Nat) : Int)) = y + 1 by omega, hy]
    rw [← hy0] at ih
    by_cases hl : leapY y = true
    · rw [if_pos hl] at h1 ⊢; omega
    · rw [if_neg hl] at h1 ⊢; omega
/-- A day is the d-th of the k-th month. -/
def IsDate (day : Int) (k : Nat) (d : Int) : Prop := 1 ≤ d ∧ d ≤ dimY (yrK k) (moK k) ∧ day = fdK k + d - 1
theorem IsDate.lt {day : Int} {k : Nat} {d : Int} (h : IsDate day k d) : fdK k ≤ day ∧ day < fdK (k + 1) := by
  obtain ⟨h1, h2, h3⟩ := h
  rw [fdK_succ]
  omega
theorem IsDate.le {a b : Int} {j k : Nat} {c d : Int} (h : IsDate a j c) (g : IsDate b k d) (hab : a ≤ b) : j ≤ k := by
  have h1 := h.lt
  have h2 := g.lt
  rcases Nat.lt_or_ge k j with hk | hk
  · have := fdK_mono (show k + 1 ≤ j by omega)
    omega
  · exact hk
theorem IsDate.unique {a : Int} {j k : Nat} {c d : Int} (h : IsDate a j c) (g : IsDate a k d) : j = k ∧ c = d := by
  have e := Nat.le_antisymm (h.le g (Int.le_refl _)) (g.le h (Int.le_refl _))
  subst e
  exact ⟨rfl, by have := h.2.2; have := g.2.2; omega⟩
end Go.Proofs.Ytngigmpaabmngaa

namespace Go.Proofs.Ytngigmpaabmngaa

theorem month_of {day : Int} (h : 0 ≤ day) : ∃ k, fdK k ≤ day ∧ day < fdK (k + 1) := by
  have key : ∀ n : Nat, (∃ k, fdK k ≤ day ∧ day < fdK (k + 1)) ∨ fdK n ≤ day := by
    intro n
    induction n with
    | zero => exact .inr h
    | succ n ih =>
      rcases ih with ih | ih
      · exact .inl ih
      · rcases Int.lt_or_le day (fdK (n + 1)) with h1 | h1
        · exact .inl ⟨n, ih, h1⟩
        · exact .inr h1
  have big : ∀ n : Nat, (28 : Int) * n ≤ fdK n := by
    intro n
    induction n with
    | zero => decide
    | succ n ih => have := fdK_step n; omega
  rcases key (day.toNat + 1) with h1 | h1
  · exact h1
  · have := big (day.toNat + 1); omega
open Classical in
/-- The month of a day, and its day of the month. -/
noncomputable def kOf (day : Int) : Nat := if h : ∃ k, fdK k ≤ day ∧ day < fdK (k + 1) then h.choose else 0
noncomputable def dOf (day : Int) : Int := day - fdK (kOf day) + 1
theorem kOf_spec {day : Int} (h : 0 ≤ day) : fdK (kOf day) ≤ day ∧ day < fdK (kOf day + 1) := by
  unfold kOf
  rw [dif_pos (month_of h)]
  exact (month_of h).choose_spec
theorem isDate_of {day : Int} (h : 0 ≤ day) : IsDate day (kOf day) (dOf day) := by
  have := kOf_spec h
  rw [fdK_succ] at this
  unfold IsDate dOf
  omega
theorem kOf_eq {day : Int} {k : Nat} (h : fdK k ≤ day) (h2 : day < fdK (k + 1)) (h0 : 0 ≤ day) : kOf day = k := by
  have := kOf_spec h0
  rcases Nat.lt_trichotomy (kOf day) k with h3 | h3 | h3
  · have := fdK_mono (show kOf day + 1 ≤ k from h3); omega
  · exact h3
  · have := fdK_mono (show k + 1 ≤ kOf day from h3); omega
theorem IsDate.kOf {day : Int} {k : Nat} {d : Int} (h : IsDate day k d) (h0 : 0 ≤ day) : kOf day = k ∧ dOf day = d := by
  have e := kOf_eq h.lt.1 h.lt.2 h0
  refine ⟨e, ?_⟩
  unfold dOf
  rw [e]
  have := h.2.2
  omega
theorem kOf_mono {a b : Int} (h0 : 0 ≤ a) (h : a ≤ b) : kOf a ≤ kOf b := (isDate_of h0).le (isDate_of (Int.le_trans h0 h)) h
/-- How many of the months up to k are congruent to first, and one for day 0. -/
def evK (k first step : Int) : Int := (if first ≤ k then (k - first) / step + 1 else 0) + if 0 < first then 1 else 0
/-- How many of the first n + 1 years begin on another day than Monday. -/
def nmY : Nat → Int
  | 0 => if (nyY 1600 + 5) % 7 = 0 then 0 else 1
  | n + 1 => nmY n + if (nyY (1600 + ((n + 1 : Nat) : Int)) + 5) % 7 = 0 then 0 else 1
theorem nmY_step (n : Nat) : nmY n ≤ nmY (n + 1) := by rw [nmY]; split <;> omega
theorem nmY_mono {a b : Nat} (h : a ≤ b) : nmY a ≤ nmY b := by
  induction h with
  | refl => exact Int.le_refl _
  | step h ih => exact Int.le_trans ih (nmY_step _)
/-- How many granules start up to a day. -/
noncomputable def stU (kind s day : Int) : Int :=
  if kind = 1 then day + 1 else if kind = 2 then (day + 5) / 7 + nmY (kOf day / 12)
  else if kind = 3 then (kOf day : Int) + (if s ≤ dOf day then 1 else 0) + (if 1 < s then 1 else 0)
  else if kind = 4 then evK (kOf day) ((s - 1) % 3) 3 else evK (kOf day) (s - 1) 12
def gvalid (kind s : Int) : Bool := decide (((kind = 1 ∨ kind = 2) ∧ s = 0) ∨ (kind = 3 ∧ 1 ≤ s ∧ s ≤ 28) ∨ ((kind = 4 ∨ kind = 5) ∧ 1 ≤ s ∧ s ≤ 12))
theorem evK_mono {a b first step : Int} (h : a ≤ b) (hs : 0 < step) (hf : 0 ≤ first) : evK a first step ≤ evK b first step := by
  unfold evK
  by_cases h1 : first ≤ a
  · rw [if_pos h1, if_pos (show first ≤ b by omega)]
    have := Int.ediv_le_ediv hs (show a - first ≤ b - first by omega)
    omega
  · rw [if_neg h1]
    by_cases h2 : first ≤ b
    · rw [if_pos h2]
      have := Int.ediv_nonneg (show 0 ≤ b - first by omega) (Int.le_of_lt hs)
      omega
    · rw [if_neg h2]; omega
theorem stU_mono {kind s a b : Int} (hg : gvalid kind s = true) (h0 : 0 ≤ a) (h : a ≤ b) : stU kind s a ≤ stU kind s b := by
  have hk := kOf_mono h0 h
  have hki : (kOf a : Int) ≤ kOf b := by omega
  have hv := of_decide_eq_true hg
  unfold stU
  by_cases h1 : kind = 1
  · rw [if_pos h1, if_pos h1]; omega
  rw [if_neg h1, if_neg h1]
  by_cases h2 : kind = 2
  · rw [if_pos h2, if_pos h2]
    have := nmY_mono (Nat.div_le_div_right (c := 12) hk)
    have := Int.ediv_le_ediv (show (0 : Int) < 7 by decide) (show a + 5 ≤ b + 5 by omega)
    omega
  rw [if_neg h2, if_neg h2]
  by_cases h3 : kind = 3
  · rw [if_pos h3, if_pos h3]
    by_cases e : kOf a = kOf b
    · have : dOf a ≤ dOf b := by unfold dOf; rw [e]; omega
      rw [e]
      by_cases g : s ≤ dOf a
      · rw [if_pos g, if_pos (show s ≤ dOf b by omega)]; omega
      · rw [if_neg g]
        by_cases g2 : s ≤ dOf b
        · rw [if_pos g2]; omega
        · rw [if_neg g2]; omega
    · have hlt : (kOf a : Int) < kOf b := by omega
      by_cases g : s ≤ dOf a
      · by_cases g2 : s ≤ dOf b
        · rw [if_pos g, if_pos g2]; omega
        · rw [if_pos g, if_neg g2]; omega
      · by_cases g2 : s ≤ dOf b
        · rw [if_neg g, if_pos g2]; omega
        · rw [if_neg g, if_neg g2]; omega
  rw [if_neg h3, if_neg h3]
  by_cases h4 : kind = 4
  · rw [if_pos h4, if_pos h4]; exact evK_mono hki (by decide) (by omega)
  · rw [if_neg h4, if_neg h4]; exact evK_mono hki (by decide) (by omega)
/-- The month behind k in which a granule of so many months starts. -/
def nxM (k : Nat) (s step : Int) : Int := k + 1 + (s - 1 - (k + 1)) % step
/-- The first start behind a day, if there were no end. -/
noncomputable def nxU (kind s day : Int) : Int :=
  if kind = 1 then day + 1 else if kind = 2 then min (day + 7 - (day + 5) % 7) (nyY (1600 + ((kOf day / 12 : Nat) : Int) + 1))
  else if kind = 3 then fdK (if dOf day < s then kOf day else kOf day + 1) + s - 1
  else if kind = 4 then fdK (nxM (kOf day) s 3).toNat else fdK (nxM (kOf day) s 12).toNat
theorem evK_same {k first step e : Int} (hs : 0 < step) (hf : 0 ≤ first) (hk : 0 ≤ k) (hke : k ≤ e) (he : e < k + 1 + (first - (k + 1)) % step) : evK e first step = evK k first step := by
  have h1 := Int.emod_nonneg (first - (k + 1)) (show step ≠ 0 by omega)
  have h2 := Int.emod_lt_of_pos (first - (k + 1)) hs
  have h3 := Int.mul_ediv_add_emod (first - (k + 1)) step
  unfold evK
  by_cases a : first ≤ k
  · rw [if_pos a, if_pos (show first ≤ e by omega)]
    have : (e - first) / step = (k - first) / step := by
      have q1 : (k - first) / step = -((first - (k + 1)) / step) - 1 := by
        refine (Int.ediv_emod_unique (r := step - 1 - (first - (k + 1)) % step) hs).2 ⟨?_, by omega, by omega⟩ |>.1
        have : step * (-((first - (k + 1)) / step) - 1) = -(step * ((first - (k + 1)) / step)) - step := by rw [Int.mul_sub, Int.mul_neg, Int.mul_one]
        omega
      have q2 : (e - first) / step = -((first - (k + 1)) / step) - 1 := by
        refine (Int.ediv_emod_unique (r := e - k + step - 1 - (first - (k + 1)) % step) hs).2 ⟨?_, by omega, by omega⟩ |>.1
        have : step * (-((first - (k + 1)) / step) - 1) = -(step * ((first - (k + 1)) / step)) - step := by rw [Int.mul_sub, Int.mul_neg, Int.mul_one]
        omega
      rw [q1, q2]
    rw [this]
  · have h4 : e < first := by
      by_cases b : first - (k + 1) < step
      · have := Int.emod_eq_of_lt (show 0 ≤ first - (k + 1) by omega) b
        omega
      · omega
    rw [if_neg a, if_neg (by omega)]
theorem evK_next {k first step : Int} (hs : 0 < step) (hf : 0 ≤ first) (hfs : first < step) (hk : 0 ≤ k) : evK k first step < evK (k + 1 + (first - (k + 1)) % step) first step := by
  have h1 := Int.emod_nonneg (first - (k + 1)) (show step ≠ 0 by omega)
  have h2 := Int.emod_lt_of_pos (first - (k + 1)) hs
  have h3 := Int.mul_ediv_add_emod (first - (k + 1)) step
  obtain ⟨m, hm⟩ : ∃ m, m = k + 1 + (first - (k + 1)) % step := ⟨_, rfl⟩
  have hmd : m - first = step * -((first - (k + 1)) / step) := by rw [Int.mul_neg]; omega
  have hmf : first ≤ m := by
    have hq : (first - (k + 1)) / step ≤ 0 := by
      have := Int.ediv_lt_of_lt_mul hs (show first - (k + 1) < 1 * step by omega)
      omega
    have : 0 ≤ step * -((first - (k + 1)) / step) := Int.mul_nonneg (by omega) (by omega)
    omega
  rw [← hm]
  unfold evK
  rw [if_pos hmf, hmd, Int.mul_ediv_cancel_left _ (by omega)]
  by_cases a : first ≤ k
  · rw [if_pos a]
    have : (k - first) / step < -((first - (k + 1)) / step) := by
      refine Int.ediv_lt_of_lt_mul hs ?_
      rw [Int.mul_comm]
      omega
    omega
  · rw [if_neg a]
    have : 0 ≤ -((first - (k + 1)) / step) := by
      have := Int.ediv_lt_of_lt_mul hs (show first - (k + 1) < 1 * step by omega)
      omega
    omega
theorem kOf_fd (k : Nat) : kOf (fdK k) = k := kOf_eq (Int.le_refl _) (by have := fdK_step k; omega) (by have := fdK_mono (Nat.zero_le k); exact this)
theorem nxM_eq (k : Nat) (s step : Int) : nxM k s step = (k : Int) + 1 + (s - 1 - ((k : Int) + 1)) % step := rfl
/-- The next start: behind the day, nothing starts between, and it is a start. -/
theorem nxU_spec {kind s day : Int} (hg : gvalid kind s = true) (h0 : 0 ≤ day) :
    day < nxU kind s day ∧ (∀ e, day ≤ e → e < nxU kind s day → stU kind s e = stU kind s day) ∧ stU kind s day < stU kind s (nxU kind s day) := by
  have hv := of_decide_eq_true hg
  have hsp := kOf_spec h0
  have hid := isDate_of h0
  by_cases h1 : kind = 1
  · unfold nxU stU
    rw [if_pos h1, if_pos h1, if_pos h1]
    refine ⟨by omega, fun e h2 h3 => by rw [if_pos h1]; omega, by omega⟩
  by_cases h2 : kind = 2
  · have hy0 : nyY (1600 + ((kOf day / 12 : Nat) : Int)) ≤ day := by
      rw [← fdK_year]
      exact Int.le_trans (fdK_mono (by omega)) hsp.1
    have hy1 : day < nyY (1600 + ((kOf day / 12 : Nat) : Int) + 1) := by
      have : (1600 + ((kOf day / 12 : Nat) : Int) + 1) = 1600 + (((kOf day / 12 + 1 : Nat)) : Int) := by omega
      rw [this, ← fdK_year]
      exact Int.lt_of_lt_of_le hsp.2 (fdK_mono (by omega))
    have hkk : ∀ e, day ≤ e → e < nyY (1600 + ((kOf day / 12 : Nat) : Int) + 1) → kOf e / 12 = kOf day / 12 := fun e a b => by
      have := Nat.div_le_div_right (c := 12) (kOf_mono h0 a)
      have he := kOf_spec (show 0 ≤ e by omega)
      rcases Nat.lt_or_ge (kOf day / 12) (kOf e / 12) with c | c
      · have q : (1600 + ((kOf day / 12 : Nat) : Int) + 1) = 1600 + (((kOf day / 12 + 1 : Nat)) : Int) := by omega
        rw [q, ← fdK_year] at b
        have := fdK_mono (show 12 * (kOf day / 12 + 1) ≤ kOf e by omega)
        omega
      · omega
    have hnx : nxU kind s day = min (day + 7 - (day + 5) % 7) (nyY (1600 + ((kOf day / 12 : Nat) : Int) + 1)) := by unfold nxU; rw [if_neg h1, if_pos h2]
    have hst : ∀ e, stU kind s e = (e + 5) / 7 + nmY (kOf e / 12) := fun e => by unfold stU; rw [if_neg h1, if_pos h2]
    rw [hnx]
    refine ⟨by omega, fun e a b => ?_, ?_⟩
    · rw [hst, hst, hkk e a (by omega)]
      omega
    · rw [hst, hst]
      have hge : day ≤ min (day + 7 - (day + 5) % 7) (nyY (1600 + ((kOf day / 12 : Nat) : Int) + 1)) := by omega
      have hmo := nmY_mono (Nat.div_le_div_right (c := 12) (kOf_mono h0 hge))
      by_cases c : day + 7 - (day + 5) % 7 ≤ nyY (1600 + ((kOf day / 12 : Nat) : Int) + 1)
      · rw [Int.min_eq_left c] at hmo ⊢
        omega
      · have q : (1600 + ((kOf day / 12 : Nat) : Int) + 1) = 1600 + (((kOf day / 12 + 1 : Nat)) : Int) := by omega
        rw [Int.min_eq_right (by omega)] at hmo ⊢
        rw [q, ← fdK_year, kOf_fd, show 12 * (kOf day / 12 + 1) / 12 = kOf day / 12 + 1 by omega, nmY, fdK_year, ← q]
        rw [if_neg (by omega)]
        omega
  by_cases h3 : kind = 3
  · have hs : 1 ≤ s ∧ s ≤ 28 := by omega
    have hst : ∀ e, stU kind s e = (kOf e : Int) + (if s ≤ dOf e then 1 else 0) + (if 1 < s then 1 else 0) := fun e => by unfold stU; rw [if_neg h1, if_neg h2, if_pos h3]
    have hnx : nxU kind s day = fdK (if dOf day < s then kOf day else kOf day + 1) + s - 1 := by unfold nxU; rw [if_neg h1, if_neg h2, if_pos h3]
    have hd : dOf day = day - fdK (kOf day) + 1 := rfl
    by_cases c : dOf day < s
    · rw [if_pos c] at hnx
      have hstep := fdK_step (kOf day)
      have hk : ∀ e, day ≤ e → e ≤ fdK (kOf day) + s - 1 → kOf e = kOf day := fun e a b => kOf_eq (by omega) (by omega) (by omega)
      rw [hnx]
      refine ⟨by omega, fun e a b => ?_, ?_⟩
      · have hke := hk e a (by omega)
        have hde : dOf e = e - fdK (kOf e) + 1 := rfl
        rw [hke] at hde
        rw [hst, hst, hke, if_neg (show ¬ s ≤ dOf e by omega), if_neg (show ¬ s ≤ dOf day by omega)]
      · have hke := hk _ (show day ≤ fdK (kOf day) + s - 1 by omega) (Int.le_refl _)
        have hde : dOf (fdK (kOf day) + s - 1) = fdK (kOf day) + s - 1 - fdK (kOf (fdK (kOf day) + s - 1)) + 1 := rfl
        rw [hke] at hde
        rw [hst, hst, hke, if_neg (show ¬ s ≤ dOf day by omega), if_pos (show s ≤ dOf (fdK (kOf day) + s - 1) by omega)]
        omega
    · rw [if_neg c] at hnx
      have hstep := fdK_step (kOf day)
      have hstep2 := fdK_step (kOf day + 1)
      rw [hnx]
      refine ⟨by omega, fun e a b => ?_, ?_⟩
      · by_cases g : e < fdK (kOf day + 1)
        · have hke : kOf e = kOf day := kOf_eq (by omega) g (by omega)
          have hde : dOf e = e - fdK (kOf e) + 1 := rfl
          rw [hke] at hde
          rw [hst, hst, hke, if_pos (show s ≤ dOf e by omega), if_pos (show s ≤ dOf day by omega)]
        · have hke : kOf e = kOf day + 1 := kOf_eq (by omega) (by omega) (by omega)
          have hde : dOf e = e - fdK (kOf e) + 1 := rfl
          rw [hke] at hde
          rw [hst, hst, hke, if_neg (show ¬ s ≤ dOf e by omega), if_pos (show s ≤ dOf day by omega)]
          omega
      · have hke : kOf (fdK (kOf day + 1) + s - 1) = kOf day + 1 := kOf_eq (by omega) (by omega) (by omega)
        have hde : dOf (fdK (kOf day + 1) + s - 1) = fdK (kOf day + 1) + s - 1 - fdK (kOf (fdK (kOf day + 1) + s - 1)) + 1 := rfl
        rw [hke] at hde
        rw [hst, hst, hke, if_pos (show s ≤ dOf (fdK (kOf day + 1) + s - 1) by omega), if_pos (show s ≤ dOf day by omega)]
        omega
  have hs : (kind = 4 ∨ kind = 5) ∧ 1 ≤ s ∧ s ≤ 12 := by omega
  obtain ⟨first, step, hfirst, hcong, hsp2⟩ : ∃ first step : Int, (0 ≤ first ∧ first < step) ∧ ((first - ((kOf day : Int) + 1)) % step = (s - 1 - ((kOf day : Int) + 1)) % step) ∧ (∀ e, stU kind s e = evK (kOf e) first step) ∧ nxU kind s day = fdK (nxM (kOf day) s step).toNat := by
    by_cases h4 : kind = 4
    · refine ⟨(s - 1) % 3, 3, by omega, by omega, fun e => ?_, ?_⟩
      · unfold stU; rw [if_neg h1, if_neg h2, if_neg h3, if_pos h4]
      · unfold nxU; rw [if_neg h1, if_neg h2, if_neg h3, if_pos h4]
    · refine ⟨s - 1, 12, by omega, rfl, fun e => ?_, ?_⟩
      · unfold stU; rw [if_neg h1, if_neg h2, if_neg h3, if_neg h4]
      · unfold nxU; rw [if_neg h1, if_neg h2, if_neg h3, if_neg h4]
  obtain ⟨hst, hnx⟩ := hsp2
  obtain ⟨m, hm⟩ : ∃ m : Nat, (m : Int) = nxM (kOf day) s step := ⟨(nxM (kOf day) s step).toNat, Int.toNat_of_nonneg (by
    rw [nxM_eq]
    have := Int.emod_nonneg (s - 1 - ((kOf day : Int) + 1)) (show step ≠ 0 by omega)
    omega)⟩
  have hmn : (nxM (kOf day) s step).toNat = m := by omega
  rw [nxM_eq, ← hcong] at hm
  rw [hnx, hmn]
  have he0 := Int.emod_nonneg (first - ((kOf day : Int) + 1)) (show step ≠ 0 by omega)
  have hlt : kOf day + 1 ≤ m := by omega
  refine ⟨Int.lt_of_lt_of_le hsp.2 (fdK_mono hlt), fun e a b => ?_, ?_⟩
  · rw [hst, hst]
    have hke := kOf_mono h0 a
    have hkm : kOf e < m := by
      have := kOf_spec (show 0 ≤ e by omega)
      rcases Nat.lt_or_ge (kOf e) m with c | c
      · exact c
      · have := fdK_mono c; omega
    exact evK_same (by omega) hfirst.1 (by omega) (by omega) (by omega)
  · rw [hst, hst, kOf_fd, hm]
    exact evK_next (by omega) hfirst.1 hfirst.2 (by omega)
/-- The next start, or the end of all days. -/
noncomputable def nxG (kind s day : Int) : Int := min (nxU kind s day) 1000000
/-- What a search for the first day on which more granules have started finds. -/
theorem nxG_unique {kind s day r : Int} (hg : gvalid kind s = true) (h0 : 0 ≤ day) (hd : day < 1000000) (hr0 : 0 ≤ r) (hr : r ≤ 1000000) (hlo : ∀ e, 0 ≤ e → e < r → stU kind s e ≤ stU kind s day) (hhi : ∀ e, r ≤ e → e < 1000000 → stU kind s day < stU kind s e) : r = nxG kind s day := by
  obtain ⟨h1, h2, h3⟩ := nxU_spec hg h0
  unfold nxG
  have hrd : day < r := by
    rcases Int.lt_or_le day r with h | h
    · exact h
    · have := hhi day h hd; omega
  rcases Int.lt_trichotomy r (min (nxU kind s day) 1000000) with h | h | h
  · have := hhi r (Int.le_refl _) (by omega)
    rw [h2 r (by omega) (by omega)] at this
    omega
  · exact h
  · have h4 : nxU kind s day < r := by omega
    have := hlo _ (by omega) h4
    omega
theorem nxG_bounds {kind s day : Int} (hg : gvalid kind s = true) (h0 : 0 ≤ day) (hd : day < 1000000) : day < nxG kind s day ∧ nxG kind s day ≤ 1000000 := by
  have := (nxU_spec hg h0).1
  unfold nxG
  omega
/-- A period cut at the starts. -/
noncomputable def gcut (kind s : Int) : Nat → Int → Int → List (Int × Int)
  | 0, _, _ => []
  | n + 1, a, b => if a < b then (a, min (nxG kind s a) b) :: gcut kind s n (min (nxG kind s a) b) b else []
end Go.Proofs.Ytngigmpaabmngaa

namespace Go.Proofs.Ytngigmpaabmngaa
open Go.RowKit Go.Lib

/-- Every block outside G is as it was. -/
def Kept (G : Nat → Prop) (w w' : World) : Prop := w.heap.size ≤ w'.heap.size ∧ ∀ k, k < w.heap.size → ¬ G k → w'.heap[k]? = w.heap[k]?
theorem Kept.of_below {G : Nat → Prop} {w w' : World} (h : Below w.heap.size w w') : Kept G w w' := ⟨h.size, fun k hk _ => h.block k hk⟩
theorem Kept.of_grown {w w' : World} {g : Option Nat} (h : w.grownBy w' g) : Kept (fun k => some k = g) w w' := ⟨h.size, fun k hk hn => h.block k hk hn⟩
theorem Kept.cell {G : Nat → Prop} {w w' : World} (h : Kept G w w') {p : Addr} {u : Value} (hp : ¬ G p.block) (hc : w.cell? p = some u) : w'.cell? p = some u := by
  rw [World.cell?_of_block (h.2 _ (World.block_lt_of_cell? w _ hc) hp)]; exact hc

/-- A kind of elements: its type's row, and when some cells are a datum; what it leads to lies in no block of G. -/
structure El (P : Program) (α : Type) where
  ty : TypeId
  size : Nat
  bytes : Nat
  pos : 0 < size
  info : ∃ i z, P.info? ty = some i ∧ i.zero = some z ∧ i.size = size ∧ i.bytes = bytes ∧ z.cells.size = size
  is : World → (Nat → Prop) → α → List Value → Prop
  len : ∀ {w G x cs}, is w G x cs → cs.length = size
  one : ∀ {w G x cs}, is w G x cs → ∀ u ∈ cs, u.oneCell' = true
  mono : ∀ {w G G' x cs}, is w G x cs → (∀ k, k < w.heap.size → G' k → G k) → is w G' x cs
  kept : ∀ {w w' G x cs}, is w G x cs → Kept G w w' → is w' G x cs
section
variable {P : Program} {α : Type}
theorem El.below (E : El P α) {w w' : World} {G : Nat → Prop} {x : α} {cs : List Value} (h : E.is w G x cs) (hb : Below w.heap.size w w') : E.is w' G x cs := E.kept h (.of_below hb)
/-- Whatever was there before lies in no newer block. -/
theorem El.old (E : El P α) {w : World} {x : α} {cs : List Value} {G : Nat → Prop} (h : E.is w G x cs) {m : Nat} (hm : w.heap.size ≤ m) : E.is w (fun k => m ≤ k) x cs := E.mono h (fun k hk h => by omega)
/-- No block is barred. -/
abbrev free : Nat → Prop := fun _ => False

/-- Where a slice starts. -/
def _root_.Go.Value.sliceAt : Value → Option Addr
  | .slice a _ _ => a
  | _ => none
/-- A slice of such elements. -/
def Sl (E : El P α) (w : World) (G : Nat → Prop) (v : Value) (l : List α) : Prop :=
  l.length ≤ 9223372036854775807 ∧ ∃ (a : Option Addr) (c : Nat), v = .slice a l.length c ∧ l.length ≤ c ∧
    (0 < l.length → ∃ b o, a = some ⟨b, o, none⟩ ∧ ¬ G b ∧ ∀ i x, l[i]? = some x → ∃ cs, E.is w G x cs ∧ ∀ j u, cs[j]? = some u → w.cell? ⟨b, o + i * E.size + j, none⟩ = some u)
theorem Sl.kept {E : El P α} {w w' : World} {G : Nat → Prop} {v : Value} {l : List α} (h : Sl E w G v l) (hk : Kept G w w') : Sl E w' G v l := by
  obtain ⟨h1, a, c, h2, h3, h4⟩ := h
  refine ⟨h1, a, c, h2, h3, fun hn => ?_⟩
  obtain ⟨b, o, h5, hg, h6⟩ := h4 hn
  refine ⟨b, o, h5, hg, fun i x hx => ?_⟩
  obtain ⟨cs, h7, h8⟩ := h6 i x hx
  exact ⟨cs, E.kept h7 hk, fun j u hu => hk.cell hg (h8 j u hu)⟩
theorem Sl.below {E : El P α} {w w' : World} {G : Nat → Prop} {v : Value} {l : List α} (h : Sl E w G v l) (hb : Below w.heap.size w w') : Sl E w' G v l := h.kept (.of_below hb)
theorem Sl.mono {E : El P α} {w : World} {G G' : Nat → Prop} {v : Value} {l : List α} (h : Sl E w G v l) (hm : ∀ k, k < w.heap.size → G' k → G k) : Sl E w G' v l := by
  obtain ⟨h1, a, c, h2, h3, h4⟩ := h
  refine ⟨h1, a, c, h2, h3, fun hn => ?_⟩
  obtain ⟨b, o, h5, hg, h6⟩ := h4 hn
  refine ⟨b, o, h5, fun hb => ?_, fun i x hx => ?_⟩
  · obtain ⟨cs, h7, h8⟩ := h6 0 _ (List.getElem?_eq_getElem hn)
    have hl := E.len h7
    have hp := E.pos
    have := World.block_lt_of_cell? w _ (h8 0 _ (List.getElem?_eq_getElem (by omega)))
    exact hg (hm b this hb)
  · obtain ⟨cs, h7, h8⟩ := h6 i x hx
    exact ⟨cs, E.mono h7 hm, h8⟩
theorem Sl.free {E : El P α} {w : World} {G : Nat → Prop} {v : Value} {l : List α} (h : Sl E w G v l) : Sl E w free v l := h.mono (fun _ _ h => h.elim)
theorem Sl.old {E : El P α} {w : World} {G : Nat → Prop} {v : Value} {l : List α} (h : Sl E w G v l) {m : Nat} (hm : w.heap.size ≤ m) : Sl E w (fun k => m ≤ k) v l := h.mono (fun k hk h => by omega)
theorem Sl.shape {E : El P α} {w : World} {G : Nat → Prop} {v : Value} {l : List α} (h : Sl E w G v l) : ∃ a c, v = .slice a l.length c := by
  obtain ⟨_, a, c, h2, _⟩ := h; exact ⟨a, c, h2⟩
theorem Sl.at {E : El P α} {w : World} {G : Nat → Prop} {v : Value} {l : List α} (h : Sl E w G v l) {k : Nat} {x : α} (hk : l[k]? = some x) :
    ∃ b o cs, v.sliceAt = some ⟨b, o, none⟩ ∧ E.is w G x cs ∧ ∀ j u, cs[j]? = some u → w.cell? ⟨b, o + k * E.size + j, none⟩ = some u := by
  obtain ⟨_, a, c, rfl, _, h4⟩ := h
  have hl := (List.getElem?_eq_some_iff.1 hk).1
  obtain ⟨b, o, rfl, _, h6⟩ := h4 (by omega)
  obtain ⟨cs, h7, h8⟩ := h6 k x hk
  exact ⟨b, o, cs, rfl, h7, h8⟩
theorem Sl.nil (E : El P α) (w : World) (G : Nat → Prop) (c : Nat) (a : Option Addr) : Sl E w G (.slice a 0 c) [] := ⟨by simp, a, c, rfl, by simp, fun h => absurd h (by simp)⟩
theorem Sl.one {E : El P α} {w : World} {G : Nat → Prop} {v : Value} {l : List α} (h : Sl E w G v l) : v.oneCell' = true := by
  obtain ⟨a, c, rfl⟩ := h.shape; rfl

/-- Elements whose cells lead nowhere. -/
def El.flat (ty : TypeId) (size bytes : Nat) (pos : 0 < size) (info : ∃ i z, P.info? ty = some i ∧ i.zero = some z ∧ i.size = size ∧ i.bytes = bytes ∧ z.cells.size = size)
    (f : α → List Value) (hf : ∀ x, (f x).length = size) (h1 : ∀ x, ∀ u ∈ f x, u.oneCell' = true) : El P α where
  ty := ty
  size := size
  bytes := bytes
  pos := pos
  info := info
  is := fun _ _ x cs => cs = f x
  len := fun h => h ▸ hf _
  one := fun h => h ▸ h1 _
  mono := fun h _ => h
  kept := fun h _ => h

/-- A slice of such elements, a row of the call's own. -/
def Own (E : El P α) (w : World) (B : Nat) (v : Value) (l : List α) : Prop :=
  ∃ xs : List Value, w.ownsRow B E.ty E.size v l.length xs ∧ ∀ i x, l[i]? = some x → E.is w (fun k => some k = v.ownBlock) x ((xs.drop (i * E.size)).take E.size)
theorem Own.nil (E : El P α) (w : World) (B : Nat) : Own E w B (.slice none 0 0) [] := ⟨[], World.ownsRow_nil _ _ _ _, by simp⟩
theorem Own.below {E : El P α} {w w' : World} {B : Nat} {v : Value} {l : List α} (h : Own E w B v l) (hb : Below w.heap.size w w') : Own E w' B v l := by
  obtain ⟨xs, h1, h2⟩ := h
  exact ⟨xs, own_below h1 hb, fun i x hx => E.below (h2 i x hx) hb⟩
theorem Own.mono {E : El P α} {w : World} {B B' : Nat} {v : Value} {l : List α} (h : Own E w B v l) (hb : B' ≤ B) : Own E w B' v l := by
  obtain ⟨xs, h1, h2⟩ := h
  refine ⟨xs, ⟨h1.1, h1.2.imp id ?_⟩, h2⟩
  rintro ⟨g, cap, cur, e, hg, r⟩
  exact ⟨g, cap, cur, e, Nat.le_trans hb hg, r⟩
theorem Own.shape {E : El P α} {w : World} {B : Nat} {v : Value} {l : List α} (h : Own E w B v l) : ∃ a c, v = .slice a l.length c := by
  obtain ⟨xs, h1, _⟩ := h; exact own_shape h1
theorem Own.lt {E : El P α} {w : World} {B : Nat} {v : Value} {l : List α} (h : Own E w B v l) : ∀ k, v.ownBlock = some k → B ≤ k ∧ k < w.heap.size := by
  obtain ⟨xs, h1, _⟩ := h; exact h1.lt
theorem Own.len {E : El P α} {w : World} {B : Nat} {v : Value} {l : List α} (h : Own E w B v l) : l.length ≤ 9223372036854775807 := by
  obtain ⟨xs, h1, _⟩ := h; exact (own_reads h1).2.1
theorem Own.sl {E : El P α} {w : World} {B : Nat} {v : Value} {l : List α} (h : Own E w B v l) : Sl E w free v l := by
  obtain ⟨xs, h1, h2⟩ := h
  obtain ⟨h3, h4, a, c, rfl, h5, h6⟩ := own_reads h1
  refine ⟨h4, a, c, rfl, h5, fun hn => ?_⟩
  obtain ⟨b, o, rfl, h7⟩ := h6 hn
  refine ⟨b, o, rfl, id, fun i x hx => ⟨_, E.mono (h2 i x hx) (fun _ _ h => h.elim), fun j u hu => ?_⟩⟩
  rw [List.getElem?_take] at hu
  split at hu
  · rw [List.getElem?_drop] at hu
    rw [Nat.add_assoc]; exact h7 _ u hu
  · cases hu
/-- Where the data under an element's cells are newer than the row, or older than the call. -/
theorem own_clear {w : World} {B m : Nat} {v : Value} (hv : ∀ k, v.ownBlock = some k → B ≤ k ∧ k < m) : ∀ k, k < w.heap.size → some k = v.ownBlock → (k < m ∧ B ≤ k) := fun k _ h => ⟨(hv k h.symm).2, (hv k h.symm).1⟩
/-- Some cells are these elements, one behind the other. -/
def Els (E : El P α) (w : World) (G : Nat → Prop) (l : List α) (xs : List Value) : Prop := xs.length = l.length * E.size ∧ ∀ i x, l[i]? = some x → E.is w G x ((xs.drop (i * E.size)).take E.size)
theorem Els.one {E : El P α} {w : World} {G : Nat → Prop} {y : α} {cs : List Value} (h : E.is w G y cs) : Els E w G [y] cs := by
  have hn : cs.length = E.size := E.len h
  refine ⟨by simp [hn], fun i x hx => ?_⟩
  cases i with
  | zero => simp at hx; subst hx; rw [Nat.zero_mul, List.drop_zero, List.take_of_length_le (by omega)]; exact h
  | succ i => simp at hx
theorem Els.append {E : El P α} {w : World} {G : Nat → Prop} {l m : List α} {xs ys : List Value} (h : Els E w G l xs) (k : Els E w G m ys) : Els E w G (l ++ m) (xs ++ ys) := by
  refine ⟨by rw [List.length_append, List.length_append, h.1, k.1, Nat.add_mul], fun i x hx => ?_⟩
  rcases Nat.lt_or_ge i l.length with hi | hi
  · rw [List.getElem?_append_left hi] at hx
    have hle : (i + 1) * E.size ≤ l.length * E.size := Nat.mul_le_mul_right _ hi
    rw [Nat.add_mul, Nat.one_mul] at hle
    rw [List.drop_append_of_le_length (by rw [h.1]; omega), List.take_append_of_le_length (by rw [List.length_drop, h.1]; omega)]
    exact h.2 i x hx
  · rw [List.getElem?_append_right hi] at hx
    have hle : l.length * E.size ≤ i * E.size := Nat.mul_le_mul_right _ hi
    rw [List.drop_append, List.drop_of_length_le (by rw [h.1]; omega), List.nil_append, h.1, show i * E.size - l.length * E.size = (i - l.length) * E.size by rw [Nat.mul_comm i, Nat.mul_comm l.length, Nat.mul_comm (i - l.length), Nat.mul_sub]]
    exact k.2 _ x hx
theorem Els.cells {E : El P α} {w : World} {G : Nat → Prop} {l : List α} {xs : List Value} (h : Els E w G l xs) : ∀ u ∈ xs, u.oneCell' = true := by
  intro u hu
  obtain ⟨n, hn, he⟩ := List.getElem_of_mem hu
  have hp := E.pos
  have hi : n / E.size < l.length := Nat.div_lt_of_lt_mul (by rw [Nat.mul_comm, ← h.1]; exact hn)
  have hj : n % E.size < E.size := Nat.mod_lt _ hp
  have hnn : n / E.size * E.size + n % E.size = n := by rw [Nat.mul_comm]; exact Nat.div_add_mod n E.size
  refine E.one (h.2 _ _ (List.getElem?_eq_getElem hi)) u ?_
  refine List.mem_of_getElem? (i := n % E.size) ?_
  rw [List.getElem?_take, if_pos hj, List.getElem?_drop, hnn, List.getElem?_eq_getElem hn, he]
theorem Els.moved {E : El P α} {w w' : World} {v v' : Value} {l : List α} {xs : List Value} (h : Els E w (fun k => some k = v.ownBlock) l xs) (hg : w.grownBy w' v.ownBlock) (hm : v'.ownBlock = v.ownBlock ∨ ∃ m, v'.ownBlock = some m ∧ w.heap.size ≤ m) : Els E w' (fun k => some k = v'.ownBlock) l xs := by
  refine ⟨h.1, fun i x hx => ?_⟩
  have h := h.2 i x hx
  rcases hm with e | ⟨m, e, hle⟩
  · rw [e]; exact E.kept h (.of_grown hg)
  · have h' : E.is w (fun k => some k = v.ownBlock ∨ some k = v'.ownBlock) x _ := E.mono h (fun k hk h => by
      rcases h with h | h
      · exact h
      · rw [e] at h; cases h; omega)
    have h'' := E.kept h' (w' := w') ⟨hg.size, fun k hk hn => hg.block k hk (fun e => hn (.inl e))⟩
    exact E.mono h'' (fun k _ h => .inr h)

/-- What 'append' onto a row of the call's own leaves. -/
structure Pushed (E : El P α) (base : Nat) (w0 w' : World) (v : Value) (l : List α) (g cap : Nat) : Prop where
  own : Own E w' base (.slice (some ⟨g, 0, none⟩) l.length cap) l
  below : Below base w0 w'
  kept : Kept (fun k => some k = v.ownBlock) w0 w'
  place : v.ownBlock = some g ∨ w0.heap.size ≤ g
  lt : g < w'.heap.size
theorem Pushed.cell {E : El P α} {base : Nat} {w0 w' : World} {v : Value} {l : List α} {g cap : Nat} (h : Pushed E base w0 w' v l g cap) {p : Addr} {u : Value} (hp : some p.block ≠ v.ownBlock) (hc : w0.cell? p = some u) : w'.cell? p = some u := h.kept.cell hp hc
theorem Pushed.block {E : El P α} {base : Nat} {w0 w' : World} {v : Value} {l : List α} {g cap : Nat} (h : Pushed E base w0 w' v l g cap) {k : Nat} {o : Obj} (hp : some k ≠ v.ownBlock) (hc : w0.heap[k]? = some o) : w'.heap[k]? = some o :=
  (h.kept.2 k (Array.getElem?_eq_some_iff.1 hc).1 hp).trans hc
/-- A block that was there and was not the row's is not the new row's. -/
theorem Pushed.ne {E : El P α} {base : Nat} {w0 w' : World} {v : Value} {l : List α} {g cap : Nat} (h : Pushed E base w0 w' v l g cap) {k : Nat} (hp : some k ≠ v.ownBlock) (hk : k < w0.heap.size) : k ≠ g := by
  intro e; subst e
  rcases h.place with h | h
  · exact hp h.symm
  · omega

theorem Pushed.ne' {E : El P α} {base : Nat} {w0 w' : World} {v : Value} {l : List α} {g cap n : Nat} (h : Pushed E base w0 w' v l g cap) {k : Nat} {o : Obj} (hp : some k ≠ v.ownBlock) (hk : w0.heap[k]? = some o) : some k ≠ (Value.slice (some ⟨g, 0, none⟩) n cap).ownBlock := by
  intro e
  have e' : some k = some g := e
  cases e'
  exact h.ne hp (Array.getElem?_eq_some_iff.1 hk).1 rfl
theorem Pushed.own' {E : El P α} {base : Nat} {w0 w' : World} {v : Value} {l : List α} {g cap n : Nat} (h : Pushed E base w0 w' v l g cap) (hn : l.length = n) : Own E w' base (.slice (some ⟨g, 0, none⟩) n cap) l := hn ▸ h.own
theorem Own.drew {E : El P α} {w : World} {B : Nat} {v : Value} {l : List α} (h : Own E w B v l) : Own E w.drew B v l := h.below (Below.refl _ _).drew
theorem Own.drewN {E : El P α} {w : World} {B : Nat} {v : Value} {l : List α} (h : Own E w B v l) (n : Nat) : Own E (w.drewN n) B v l := h.below (below_drewN (Below.refl _ _) n)

theorem wp_push {w : World} {o : Oper} {a : Act} {K : Act → World → Prop} {Q : Exit → Act → World → Prop} (s x : Operand) (t : TypeId)
    (ho : o.op = .call { callee := .builtin .append, args := #[s, x], argTypes := #[t, t] })
    (E : El P α) (ht : P.underlying t = some (.slice E.ty)) (base : Nat) (v : Value) (l : List α) (hs : a.eval s = v) (hown : Own E w base v l) (ys : List α) (news : List Value) (his : Els E w (fun k => some k = v.ownBlock) ys news)
    (ad : Addr) (c : Nat) (hx : a.eval x = .slice (some ad) ys.length c) (hnews : ∀ j u, news[j]? = some u → w.cell? (ad.add j) = some u) (hm : 0 < ys.length) (h63 : l.length + ys.length ≤ maxLen) (hbytes : (l.length + ys.length) * E.bytes ≤ 140737488355328) (hbase : base ≤ w.heap.size)
    (h : ∀ g cap w', Pushed E base w w' v (l ++ ys) g cap → K (a.put o.dst (.slice (some ⟨g, 0, none⟩) (l.length + ys.length) cap)) w') :
    o.wp P a w K Q := by
  obtain ⟨xs, h1, h2⟩ := hown
  obtain ⟨i, z, hi, hz, hsz, hby, hzs⟩ := E.info
  refine wp_append_lies w s x t ho base E.ty i z E.size E.bytes ht hi hz hsz hby hzs E.pos v l.length xs hs h1 ad ys.length c news hx his.1 hnews his.cells hm h63 hbytes hbase w.heap.size rfl ?_
  intro g cap w' h3 h4 h5 h6
  refine h g cap w' ⟨⟨xs ++ news, by rw [List.length_append]; exact h3, ?_⟩, (Below.refl base w).grown h4 hbase (fun k hk => (h1.lt k hk).1), .of_grown h4, h5.imp id (fun e => by omega), h6⟩
  exact (((Els.append ⟨h1.1, h2⟩ his).moved (v' := .slice (some ⟨g, 0, none⟩) (l ++ ys).length cap) h4 (h5.imp (fun e => by rw [e]; rfl) (fun e => ⟨g, rfl, by omega⟩)))).2

theorem alloc_pushed {E : El P α} {base : Nat} {w0 w' : World} {v : Value} {l : List α} {g cap : Nat} {o : Obj} (hbase : base ≤ w0.heap.size) (h : Pushed E base (w0.alloc o) w' v l g cap) : Pushed E base w0 w' v l g cap :=
  ⟨h.own, ((Below.refl base w0).alloc hbase _).trans h.below, ⟨by have := h.kept.1; simp at this; omega, fun k hk hn => (h.kept.2 k (by simp; omega) hn).trans (Below.heap_alloc _ _ _ hk)⟩, h.place.imp id (fun e => by simp at e; omega), h.lt⟩
/-- 'append(s, x, ..)': the elements in the block that has just been made for them. -/
theorem wp_push_new {w0 : World} {o : Oper} {a : Act} {K : Act → World → Prop} {Q : Exit → Act → World → Prop} (s x : Operand) (t : TypeId)
    (ho : o.op = .call { callee := .builtin .append, args := #[s, x], argTypes := #[t, t] })
    (E : El P α) (ht : P.underlying t = some (.slice E.ty)) (base : Nat) (v : Value) (l : List α) (hs : a.eval s = v) (hown : Own E w0 base v l) (ys : List α) (c : Array Value) (his : Els E w0 (fun k => some k = v.ownBlock) ys c.toList)
    (n cc : Nat) (hn : ys.length = n) (hx : a.eval x = .slice (some ⟨w0.heap.size, 0, none⟩) n cc) (hm : 0 < n) (h63 : l.length + n ≤ maxLen) (hbytes : (l.length + n) * E.bytes ≤ 140737488355328) (hbase : base ≤ w0.heap.size)
    (h : ∀ g cap w', Pushed E base w0 w' v (l ++ ys) g cap → Pushed E base (w0.alloc (.cells c E.ty)) w' v (l ++ ys) g cap → K (a.put o.dst (.slice (some ⟨g, 0, none⟩) (l.length + n) cap)) w') :
    o.wp P a (w0.alloc (.cells c E.ty)) K Q := by
  subst hn
  have hb : Below w0.heap.size w0 (w0.alloc (.cells c E.ty)) := below_alloc _ _
  exact wp_push s x t ho E ht base v l hs (hown.below hb) ys c.toList ⟨his.1, fun i x hx => E.below (his.2 i x hx) hb⟩ ⟨w0.heap.size, 0, none⟩ cc hx (cells_new w0 c E.ty) hm h63 hbytes (by simp; omega) (fun g cap w' hp => h g cap w' (alloc_pushed hbase hp) hp)
theorem wpList_push {w0 : World} {ops : Array Oper} {rest : List Oper} {o : Oper} {a : Act} {Q : Exit → Act → World → Prop} (hgd : o.guard = none) (s x : Operand) (t : TypeId)
    (ho : o.op = .call { callee := .builtin .append, args := #[s, x], argTypes := #[t, t] })
    (E : El P α) (ht : P.underlying t = some (.slice E.ty)) (base : Nat) (v : Value) (l : List α) (hs : a.eval s = v) (hown : Own E w0 base v l) (ys : List α) (c : Array Value) (his : Els E w0 (fun k => some k = v.ownBlock) ys c.toList)
    (n cc : Nat) (hn : ys.length = n) (hx : a.eval x = .slice (some ⟨w0.heap.size, 0, none⟩) n cc) (hm : 0 < n) (h63 : l.length + n ≤ maxLen) (hbytes : (l.length + n) * E.bytes ≤ 140737488355328) (hbase : base ≤ w0.heap.size)
    (h : ∀ g cap w', Pushed E base w0 w' v (l ++ ys) g cap → Pushed E base (w0.alloc (.cells c E.ty)) w' v (l ++ ys) g cap → wpList P ops Q rest (a.put o.dst (.slice (some ⟨g, 0, none⟩) (l.length + n) cap)) w') :
    wpList P ops Q (o :: rest) a (w0.alloc (.cells c E.ty)) :=
  wpList_plain hgd fun _ hK => wp_push_new s x t ho E ht base v l hs hown ys c his n cc hn hx hm h63 hbytes hbase fun g cap w' hp hp' => hK _ _ (h g cap w' hp hp')
/-- The same at a step of a region that draws its order. -/
theorem step_push {w0 : World} {ops : Array Oper} {o : Oper} {a : Act} {K : Act → World → Prop} {Q : Exit → Act → World → Prop} {F : Prop} (hgd : o.guard = none) (s x : Operand) (t : TypeId)
    (ho : o.op = .call { callee := .builtin .append, args := #[s, x], argTypes := #[t, t] })
    (E : El P α) (ht : P.underlying t = some (.slice E.ty)) (base : Nat) (v : Value) (l : List α) (hs : a.eval s = v) (hown : Own E w0 base v l) (ys : List α) (c : Array Value) (his : Els E w0 (fun k => some k = v.ownBlock) ys c.toList)
    (n cc : Nat) (hn : ys.length = n) (hx : a.eval x = .slice (some ⟨w0.heap.size, 0, none⟩) n cc) (hm : 0 < n) (h63 : l.length + n ≤ maxLen) (hbytes : (l.length + n) * E.bytes ≤ 140737488355328) (hbase : base ≤ w0.heap.size)
    (h : ∀ g cap w', Pushed E base w0 w' v (l ++ ys) g cap → Pushed E base (w0.alloc (.cells c E.ty)) w' v (l ++ ys) g cap → K (a.put o.dst (.slice (some ⟨g, 0, none⟩) (l.length + n) cap)) w') :
    if Region.wanted o (yielded ops a.tmps) = true then Oper.wp P o a (w0.alloc (.cells c E.ty)) K Q else F := by
  have hw : Region.wanted o (yielded ops a.tmps) = true := by simp [Region.wanted, hgd]
  rw [if_pos hw]
  exact wp_push_new s x t ho E ht base v l hs hown ys c his n cc hn hx hm h63 hbytes hbase h
theorem Sl.of_block {E : El P α} {w : World} {G : Nat → Prop} {b n m : Nat} {c : Array Value} {e : TypeId} {fr : Nat × Nat} {l : List α} (hb : w.heap[b]? = some (.cells c e fr)) (h : Els E w G l c.toList) (hG : ¬ G b) (hn : l.length = n) (hm : n ≤ m) (hs : n ≤ 9223372036854775807) : Sl E w G (.slice (some ⟨b, 0, none⟩) n m) l := by
  subst hn
  refine ⟨hs, _, _, rfl, hm, fun hp => ⟨b, 0, rfl, hG, fun i x hx => ⟨_, h.2 i x hx, fun j u hu => ?_⟩⟩⟩
  rw [Nat.zero_add, cell_of_row _ b _ c e fr hb]
  rw [List.getElem?_take] at hu
  split at hu
  · rw [List.getElem?_drop] at hu; simpa using hu
  · cases hu
theorem Els.nil (E : El P α) (w : World) (G : Nat → Prop) : Els E w G [] [] := ⟨by simp, by simp⟩
theorem Els.cons {E : El P α} {w : World} {G : Nat → Prop} {y : α} {l : List α} {cs xs : List Value} (h : E.is w G y cs) (k : Els E w G l xs) : Els E w G (y :: l) (cs ++ xs) := (Els.one h).append k
theorem cell_alloc {W : World} {o : Obj} {p : Addr} {v : Value} (h : W.cell? p = some v) : (W.alloc o).cell? p = some v := cell_keep (below_alloc W o) h
/-- What a call hands back that makes a slice. -/
def RetOwn (E : El P α) (w : World) (l : List α) (e : Ending) (w' : World) : Prop := ∃ v, e = .returned v ∧ Own E w' w.heap.size v l ∧ Below w.heap.size w w'
end
theorem info_mk {P : Program} {t : TypeId} {z : Value} {size bytes : Nat} (h : (P.info? t).map (fun i => (i.zero, i.size, i.bytes)) = some (some z, size, bytes)) (hz : z.cells.size = size) :
    ∃ i z, P.info? t = some i ∧ i.zero = some z ∧ i.size = size ∧ i.bytes = bytes ∧ z.cells.size = size := by
  obtain ⟨i, h1, h2, h3, h4⟩ := info_parts h
  exact ⟨i, z, h1, h2, h3, h4, hz⟩
theorem flatMap_length {α : Type} (f : α → List Value) (size : Nat) (hf : ∀ x, (f x).length = size) (l : List α) : (l.flatMap f).length = l.length * size := by
  induction l with
  | nil => simp
  | cons a l ih => rw [List.flatMap_cons, List.length_append, ih, hf, List.length_cons, Nat.add_mul, Nat.one_mul, Nat.add_comm]
theorem flatMap_at {α : Type} (f : α → List Value) (size : Nat) (hf : ∀ x, (f x).length = size) (l : List α) : ∀ (i : Nat) (x : α) (j : Nat) (u : Value), l[i]? = some x → (f x)[j]? = some u → (l.flatMap f)[i * size + j]? = some u := by
  induction l with
  | nil => intro i x j u h; simp at h
  | cons a l ih =>
    intro i x j u h hj
    rw [List.flatMap_cons]
    cases i with
    | zero =>
      simp at h; subst h
      have := (List.getElem?_eq_some_iff.1 hj).1
      rw [Nat.zero_mul, Nat.zero_add, List.getElem?_append_left this]; exact hj
    | succ i =>
      rw [List.getElem?_append_right (by rw [hf, Nat.add_mul, Nat.one_mul]; omega), hf]
      have := ih i x j u (by simpa using h) hj
      rw [show (i + 1) * size + j - size = i * size + j by rw [Nat.add_mul, Nat.one_mul]; omega]; exact this
section
variable {P : Program} {α : Type} {ty : TypeId} {size bytes : Nat} {pos : 0 < size} {info : ∃ i z, P.info? ty = some i ∧ i.zero = some z ∧ i.size = size ∧ i.bytes = bytes ∧ z.cells.size = size}
  {f : α → List Value} {hf : ∀ x, (f x).length = size} {h1 : ∀ x, ∀ u ∈ f x, u.oneCell' = true}
theorem Sl.reads {w : World} {G : Nat → Prop} {v : Value} {l : List α} (h : Sl (El.flat (P := P) ty size bytes pos info f hf h1) w G v l) : Reads w size v l.length (l.flatMap f) := by
  obtain ⟨g1, a, c, g2, g3, g4⟩ := h
  refine ⟨flatMap_length f size hf l, g1, a, c, g2, g3, fun hn => ?_⟩
  obtain ⟨b, o, g5, _, g6⟩ := g4 hn
  refine ⟨b, o, g5, fun j u hu => ?_⟩
  refine flat_cells f size hf l (fun j u => w.cell? ⟨b, o + j, none⟩ = some u) ?_ j u hu
  intro i x hx j u hu
  obtain ⟨cs, rfl, g8⟩ := g6 i x hx
  rw [← Nat.add_assoc]; exact g8 j u hu
theorem Sl.of_reads {w : World} {G : Nat → Prop} {v : Value} {l : List α} (h : Reads w size v l.length (l.flatMap f)) (hG : ∀ k, v.ownBlock = some k → ¬ G k) : Sl (El.flat (P := P) ty size bytes pos info f hf h1) w G v l := by
  obtain ⟨_, g1, a, c, rfl, g3, g4⟩ := h
  refine ⟨g1, a, c, rfl, g3, fun hn => ?_⟩
  obtain ⟨b, o, rfl, g6⟩ := g4 hn
  refine ⟨b, o, rfl, hG b rfl, fun i x hx => ⟨_, rfl, fun j u hu => ?_⟩⟩
  rw [Nat.add_assoc]
  exact g6 _ u (flatMap_at f size hf l i x j u hx hu)
theorem Own.flat_cells {w : World} {B : Nat} {v : Value} {l : List α} (h : Own (El.flat (P := P) ty size bytes pos info f hf h1) w B v l) : w.ownsRow B ty size v l.length (l.flatMap f) := by
  obtain ⟨xs, h2, h3⟩ := h
  have h4 : xs = l.flatMap f := by
    refine List.ext_getElem? fun n => ?_
    have hx : xs.length = l.length * size := h2.1
    have hl := flatMap_length f size hf l
    rcases Nat.lt_or_ge n (l.length * size) with hn | hn
    · have hi : n / size < l.length := Nat.div_lt_of_lt_mul (by rw [Nat.mul_comm]; exact hn)
      have hj : n % size < size := Nat.mod_lt _ pos
      have hnn : n / size * size + n % size = n := by rw [Nat.mul_comm]; exact Nat.div_add_mod n size
      have hcs := h3 (n / size) _ (List.getElem?_eq_getElem hi)
      have hfl : n % size < (f l[n / size]).length := by rw [hf]; exact hj
      have e1 := flatMap_at f size hf l (n / size) _ (n % size) _ (List.getElem?_eq_getElem hi) (List.getElem?_eq_getElem hfl)
      rw [hnn] at e1
      rw [e1]
      have e2 : ((xs.drop (n / size * size)).take size)[n % size]? = some ((f l[n / size])[n % size]) := by
        have : (xs.drop (n / size * size)).take size = f l[n / size] := hcs
        rw [this]; exact List.getElem?_eq_getElem hfl
      rw [List.getElem?_take, if_pos hj, List.getElem?_drop, hnn] at e2
      exact e2
    · rw [List.getElem?_eq_none (by omega), List.getElem?_eq_none (by omega)]
  rw [← h4]; exact h2
theorem Own.of_flat {w : World} {B : Nat} {v : Value} {l : List α} (h : w.ownsRow B ty size v l.length (l.flatMap f)) : Own (El.flat (P := P) ty size bytes pos info f hf h1) w B v l := by
  refine ⟨_, h, fun i x hx => ?_⟩
  have hi := (List.getElem?_eq_some_iff.1 hx).1
  show _ = f x
  refine List.ext_getElem? fun j => ?_
  show (List.take size (List.drop (i * size) (l.flatMap f)))[j]? = _
  rw [List.getElem?_take]
  split
  · rename_i hj
    rw [List.getElem?_drop]
    have hfl : j < (f x).length := by rw [hf]; exact hj
    rw [flatMap_at f size hf l i x j _ hx (List.getElem?_eq_getElem hfl), List.getElem?_eq_getElem hfl]
  · rename_i hj
    rw [List.getElem?_eq_none (by rw [hf]; omega)]
end
end Go.Proofs.Ytngigmpaabmngaa

namespace Go.Proofs.Ytngigmpaabmngaa
open Go.RowKit Go.Lib

/-- A value of the program. -/
structure GVal where
  kind : Int
  n : Int
  s : ByteArray
def numCells (l : List Int) : List Value := l.map (Value.int .i64)
def valOf (v : GVal) : List Value := [.int .i64 v.kind, .int .i64 v.n, .string v.s]
def valCells (l : List GVal) : List Value := l.flatMap valOf
theorem numCells_length (l : List Int) : (numCells l).length = l.length := List.length_map _
theorem numCells_at (l : List Int) (k : Nat) (x : Int) (h : l[k]? = some x) : (numCells l)[k]? = some (.int .i64 x) := by simp [numCells, h]
theorem valCells_length (l : List GVal) : (valCells l).length = l.length * 3 := by
  induction l with
  | nil => rfl
  | cons v l ih => rw [valCells, List.flatMap_cons, List.length_append, ← valCells, ih, List.length_cons]; simp [valOf]; omega
theorem valCells_at (l : List GVal) (i : Nat) (x : GVal) (h : l[i]? = some x) : (valCells l)[i * 3]? = some (.int .i64 x.kind) ∧ (valCells l)[i * 3 + 1]? = some (.int .i64 x.n) ∧ (valCells l)[i * 3 + 2]? = some (.string x.s) := by
  induction l generalizing i with
  | nil => simp at h
  | cons v l ih =>
    cases i with
    | zero => simp at h; subst h; simp [valCells, valOf]
    | succ i =>
      have := ih i (by simpa using h)
      have e : valCells (v :: l) = valOf v ++ valCells l := rfl
      rw [e, show (i + 1) * 3 = (valOf v).length + i * 3 by simp [valOf]; omega, Nat.add_assoc, Nat.add_assoc, List.getElem?_append_right (by omega), List.getElem?_append_right (by omega), List.getElem?_append_right (by omega)]
      simpa using this

theorem int_info : (Try.prog.info? 3).map (fun i => (i.zero, i.size, i.bytes)) = some (some (.int .i64 0), 1, 8) := by kernel_rfl
theorem val_info : (Try.prog.info? 66).map (fun i => (i.zero, i.size, i.bytes)) = some (some (.agg #[.int .i64 0, .int .i64 0, .string ⟨#[]⟩]), 3, 32) := by kernel_rfl
def intE : El Try.prog Int := El.flat 3 1 8 (by decide) (info_mk int_info rfl) (fun x => [.int .i64 x]) (fun _ => rfl) (by intro x u hu; simp at hu; subst hu; rfl)
def valE : El Try.prog GVal := El.flat 66 3 32 (by decide) (info_mk val_info rfl) valOf (fun _ => rfl) (by intro x u hu; simp [valOf] at hu; rcases hu with rfl | rfl | rfl <;> rfl)
theorem numCells_flat (l : List Int) : l.flatMap (fun x => [Value.int .i64 x]) = numCells l := by
  induction l with
  | nil => rfl
  | cons x l ih => rw [List.flatMap_cons, ih]; rfl
theorem Sl.ints {w : World} {G : Nat → Prop} {v : Value} {l : List Int} (h : Sl intE w G v l) : Reads w 1 v l.length (numCells l) := by rw [← numCells_flat]; exact Sl.reads h
theorem Sl.vals {w : World} {G : Nat → Prop} {v : Value} {l : List GVal} (h : Sl valE w G v l) : Reads w 3 v l.length (valCells l) := Sl.reads h
theorem Sl.of_ints {w : World} {G : Nat → Prop} {v : Value} {l : List Int} (h : Reads w 1 v l.length (numCells l)) (hG : ∀ k, v.ownBlock = some k → ¬ G k) : Sl intE w G v l := Sl.of_reads (by rw [numCells_flat]; exact h) hG
theorem Sl.of_vals {w : World} {G : Nat → Prop} {v : Value} {l : List GVal} (h : Reads w 3 v l.length (valCells l)) (hG : ∀ k, v.ownBlock = some k → ¬ G k) : Sl valE w G v l := Sl.of_reads h hG
theorem Own.of_ints {w : World} {B : Nat} {v : Value} {l : List Int} (h : w.ownsRow B 3 1 v l.length (numCells l)) : Own intE w B v l := Own.of_flat (by rw [numCells_flat]; exact h)
theorem Own.ints {w : World} {B : Nat} {v : Value} {l : List Int} (h : Own intE w B v l) : w.ownsRow B 3 1 v l.length (numCells l) := by rw [← numCells_flat]; exact h.flat_cells

def gnull : GVal := ⟨0, 0, ⟨#[]⟩⟩
def gint (n : Int) : GVal := ⟨1, n, ⟨#[]⟩⟩
/-- The value as the walk has it. -/
def aggG (v : GVal) : Value := .agg #[.int .i64 v.kind, .int .i64 v.n, .string v.s]

theorem box_three {w : World} {g : Nat} {x y z : Value} {e : TypeId} (h : w.heap[g]? = some (.cells #[x, y, z] e (0, 0))) :
    (w.cell? ⟨g, 0, none⟩ = some x ∧ w.cell? ⟨g, 1, none⟩ = some y ∧ w.cell? ⟨g, 2, none⟩ = some z) ∧ w.frozen? ⟨g, 0, none⟩ = false ∧ w.frozen? ⟨g, 1, none⟩ = false ∧ w.frozen? ⟨g, 2, none⟩ = false := by
  refine ⟨⟨?_, ?_, ?_⟩, ?_, ?_, ?_⟩ <;> simp [World.cell?, World.frozen?, h]
theorem heap_alloc_new' (w : World) (o o' : Obj) : ((w.alloc o).alloc o').heap[w.heap.size + 1]? = some o' := by
  have := heap_alloc_new (w.alloc o) o'
  rwa [World.size_alloc] at this
theorem heap_alloc_old' (w : World) (o o' : Obj) : ((w.alloc o).alloc o').heap[w.heap.size]? = some o :=
  (Below.heap_alloc _ _ _ (by simp)).trans (heap_alloc_new w o)
theorem box_kept {w w' : World} {g : Nat} {o : Obj} (h : w.heap[g]? = some o) (hb : Below w.heap.size w w') : w'.heap[g]? = some o :=
  (hb.block g (Array.getElem?_eq_some_iff.1 h).1).trans h
end Go.Proofs.Ytngigmpaabmngaa

namespace Go.Proofs.Ytngigmpaabmngaa
open Go.RowKit Go.Lib

theorem val_held : Try.prog.stoodInHeld 66 = false := by kernel_rfl
theorem val_guard : Try.prog.eqGuardType Try.prog.depth 66 = false := by kernel_rfl
theorem val_fields : Try.prog.underlying 66 = some (.struct (Try.prog.fieldsOf 66)) := by kernel_rfl
/-- Equal values. -/
def sameG (a b : GVal) : Bool := a.kind == b.kind && a.n == b.n && a.s.toList == b.s.toList
theorem val_eqIn (d : Nat) (k p k' p' : Int) (s s' : ByteArray) (w : World) :
    (Op.equalIn (d + 2) 66 (.agg #[.int .i64 k, .int .i64 p, .string s]) (.agg #[.int .i64 k', .int .i64 p', .string s'])).run Try.prog w = .ok (k == k' && p == p' && s.toList == s'.toList) w := by
  rw [run_equalIn_struct w _ _ _ _ val_fields val_held]
  simp [go_sem]
  by_cases h1 : k = k' <;> by_cases h2 : p = p' <;> by_cases h3 : s.toList = s'.toList <;> simp [*]
theorem val_eql (a b : GVal) (w : World) :
    (binOp .eql 66 (.agg #[.int .i64 a.kind, .int .i64 a.n, .string a.s]) (.agg #[.int .i64 b.kind, .int .i64 b.n, .string b.s])).run Try.prog w = .ok (.bool (sameG a b)) w := by
  rw [run_eql_struct, val_eqIn]; rfl
/-- The definition's order of values: its first test, and what it answers. -/
def lessG (a b : GVal) : Bool := decide (a.kind < b.kind) || (a.kind == b.kind && decide (a.n < b.n)) || (a.kind == b.kind && a.n == b.n && Op.bytesLess a.s.toList b.s.toList)
def cmpG (a b : GVal) : Int := if lessG a b = true then -1 else if sameG a b = true then 0 else 1

set_option maxHeartbeats 2000000 in
set_option maxRecDepth 100000 in
theorem cmpG_any (a b : GVal) (w : World) :
    Calls Try.prog 34 #[.agg #[.int .i64 a.kind, .int .i64 a.n, .string a.s], .agg #[.int .i64 b.kind, .int .i64 b.n, .string b.s]] w fun e w' => e = .returned (.int .i64 (cmpG a b)) ∧ Below w.heap.size w w' := by
  have heq := val_eql a b
  have hgd := val_guard
  go_enter Try.func34, Try.ntmps34
  go_wp2
  all_goals go_ret
  all_goals refine ⟨congrArg (fun x => Ending.returned (.int .i64 x)) ?_, below_alloc_two w _ _⟩
  all_goals clear heq hgd
  all_goals unfold cmpG
  all_goals (cases hL : lessG a b <;> cases hS : sameG a b <;> simp_all [lessG, sameG] <;> omega)
theorem bytesLess_irrefl (l : List UInt8) : Op.bytesLess l l = false := by
  induction l with
  | nil => rfl
  | cons a l ih => simp [Op.bytesLess, ih]
theorem lessG_irrefl (a : GVal) : lessG a a = false := by
  simp [lessG, bytesLess_irrefl]
theorem sameG_refl (a : GVal) : sameG a a = true := by simp [sameG]
end Go.Proofs.Ytngigmpaabmngaa

namespace Go.Proofs.Ytngigmpaabmngaa
open Go.RowKit Go.Lib

def cmpRows : List GVal → List GVal → Int
  | [], [] => 0
  | [], _ :: _ => -1
  | _ :: _, [] => 1
  | a :: l, b :: m => if cmpG a b = 0 then cmpRows l m else cmpG a b

set_option maxHeartbeats 2000000 in
set_option maxRecDepth 100000 in
theorem cmpRows_any (v u : Value) (l m : List GVal) (w : World) (hv : Reads w 3 v l.length (valCells l)) (hu : Reads w 3 u m.length (valCells m)) :
    Calls Try.prog 20 #[v, u] w fun e w' => e = .returned (.int .i64 (cmpRows l m)) ∧ Below w.heap.size w w' := by
  obtain ⟨_, h63, a, c, rfl, hc, hp⟩ := hv
  obtain ⟨_, g63, a2, c2, rfl, hc2, hp2⟩ := hu
  have HP := Lib.hid hp
  have HP2 := Lib.hid hp2
  clear hp hp2
  obtain ⟨n, hn⟩ : ∃ n, n = l.length := ⟨_, rfl⟩
  obtain ⟨n2, hn2⟩ : ∃ n, n = m.length := ⟨_, rfl⟩
  have HN := Lib.hid hn
  have HN2 := Lib.hid hn2
  rw [← hn] at h63 hc HP ⊢
  rw [← hn2] at g63 hc2 HP2 ⊢
  clear hn hn2
  go_enter Try.func20, Try.ntmps20
  go_wp2_with fail
  go_loopw [5] (fun i wr => ∃ k : Nat, k ≤ n ∧ k ≤ n2 ∧ i = .int .i64 k ∧ Hid (cmpRows (l.drop k) (m.drop k) = cmpRows l m) ∧ Below w.heap.size w wr) (fun i _ => n - (intOf i).toNat)
  case atStart => exact ⟨0, Nat.zero_le _, Nat.zero_le _, rfl, Lib.hid rfl, Below.refl _ _⟩
  case round =>
    obtain ⟨k, hk, hk2, rfl, HR, hB⟩ := hrel
    have HB := Lib.hid hB
    clear hB
    by_cases hlt : k < n ∧ k < n2
    · obtain ⟨hlt1, hlt2⟩ := hlt
      obtain ⟨x, hx⟩ := lget_some l k (by rw [← HN.out]; exact hlt1)
      obtain ⟨y, hy⟩ := lget_some m k (by rw [← HN2.out]; exact hlt2)
      obtain ⟨b, o, ha, hcl⟩ := HP.out (by omega)
      obtain ⟨b2, o2, ha2, hcl2⟩ := HP2.out (by omega)
      subst ha ha2
      obtain ⟨x0, x1, x2⟩ := valCells_at l k x hx
      obtain ⟨y0, y1, y2⟩ := valCells_at m k y hy
      have W : ∀ {p : Addr} {u : Value}, w.cell? p = some u → wr.cell? p = some u := fun h => (HB.out.cell (World.block_lt_of_cell? w _ h)).trans h
      have a0 : wr.cell? ⟨b, o + k * 3, none⟩ = some (.int .i64 x.kind) := W (hcl _ _ x0)
      have a1 : wr.cell? ⟨b, o + k * 3 + 1, none⟩ = some (.int .i64 x.n) := W (hcl _ _ x1)
      have a2 : wr.cell? ⟨b, o + k * 3 + 2, none⟩ = some (.string x.s) := W (hcl _ _ x2)
      have b0 : wr.cell? ⟨b2, o2 + k * 3, none⟩ = some (.int .i64 y.kind) := W (hcl2 _ _ y0)
      have b1 : wr.cell? ⟨b2, o2 + k * 3 + 1, none⟩ = some (.int .i64 y.n) := W (hcl2 _ _ y1)
      have b2' : wr.cell? ⟨b2, o2 + k * 3 + 2, none⟩ = some (.string y.s) := W (hcl2 _ _ y2)
      have HS : Hid (cmpRows (l.drop k) (m.drop k) = if cmpG x y = 0 then cmpRows (l.drop (k + 1)) (m.drop (k + 1)) else cmpG x y) := by rw [drop_get hx, drop_get hy]; exact Lib.hid rfl
      obtain ⟨r, hr⟩ : ∃ r, r = cmpG x y := ⟨_, rfl⟩
      have HRR := Lib.hid hr
      clear x0 x1 x2 y0 y1 y2 W hcl hcl2 hx hy hr
      rw [← HRR.out] at HS
      go_wp2_with fail
      go_region_with (go_at_call 34; refine (cmpG_any x y _).mono ?_; rw [← HRR.out]; rintro e w3 ⟨rfl, hb3⟩; have HB3 : Hid (Below w.heap.size w w3) := (by first | exact HB.out.trans (hb3.mono HB.out.size) | exact (below_drewN HB.out _).trans (hb3.mono HB.out.size)); clear hb3)
      all_goals
        by_cases hr0 : r = 0
        · subst hr0
          go_wp2_with fail
          go_roundw
          case rel => exact ⟨k + 1, by omega, by omega, by go_num, (by show _ = _; rw [← HR.out, HS.out, if_pos rfl]), HB3.out⟩
          case measure => simp [intOf]; omega
        · have hne : (r != 0) = true := by simpa using hr0
          go_wp2_with fail
          go_ret
          exact ⟨ret_int (by rw [← HR.out, HS.out, if_neg hr0]), HB3.out⟩
    · by_cases h1 : k < n
      · have hkn : k = n2 := by omega
        subst hkn
        have HS : Hid (cmpRows l m = 1) := by
          show _ = _
          obtain ⟨x, hx⟩ := lget_some l k (by rw [← HN.out]; exact h1)
          rw [← HR.out, drop_get hx, List.drop_of_length_le (l := m) (by rw [← HN2.out]; omega)]; rfl
        go_wp2_with fail
        go_ret
        exact ⟨ret_int (by rw [HS.out]), HB.out⟩
      · have hkn : k = n := by omega
        subst hkn
        by_cases h2 : k < n2
        · have HS : Hid (cmpRows l m = -1) := by
            show _ = _
            obtain ⟨y, hy⟩ := lget_some m k (by rw [← HN2.out]; exact h2)
            rw [← HR.out, drop_get hy, List.drop_of_length_le (l := l) (by rw [← HN.out]; omega)]; rfl
          go_wp2_with fail
          go_ret
          exact ⟨ret_int (by rw [HS.out]), HB.out⟩
        · have hkn2 : n2 = k := by omega
          subst hkn2
          have HS : Hid (cmpRows l m = 0) := by
            show _ = _
            rw [← HR.out, List.drop_of_length_le (l := l) (by rw [← HN.out]; omega), List.drop_of_length_le (l := m) (by rw [← HN2.out]; omega)]; rfl
          go_wp2_with fail
          go_ret
          exact ⟨ret_int (by rw [HS.out]), HB.out⟩
end Go.Proofs.Ytngigmpaabmngaa

namespace Go.Proofs.Ytngigmpaabmngaa
open Go.Shelf Go.RowKit Go.Lib Go.Sort
def sh_lays189_ren : Go.Shelf.Ren := ⟨fun | 189 => 30 | 125 => 46 | 257 => 45 | 128 => 63 | 129 => 64 | 294 => 55 | 295 => 56 | 296 => 57 | 297 => 58 | 298 => 59 | 299 => 60 | 216 => 32 | 300 => 61 | 301 => 62 | 328 => 67 | 329 => 68 | 330 => 69 | 331 => 70 | 332 => 71 | 215 => 47 | 343 => 73 | n => n, fun | 28 => 30 | 3 => 3 | 46 => 62 | 0 => 0 | 51 => 86 | 53 => 33 | 4 => 4 | 183 => 80 | 182 => 79 | 131 => 50 | 5 => 5 | 9 => 9 | 218 => 88 | 222 => 92 | 228 => 95 | 229 => 96 | n => n, fun | n => n⟩
theorem sh_lays189 : Lays.n189 Try.prog sh_lays189_ren := {
  mixed := by kernel_rfl
  f125 := Try.func46.trans (congrArg some (by kernel_rfl))
  f128 := Try.func63.trans (congrArg some (by kernel_rfl))
  f129 := Try.func64.trans (congrArg some (by kernel_rfl))
  f189 := Try.func30.trans (congrArg some (by kernel_rfl))
  f215 := Try.func47.trans (congrArg some (by kernel_rfl))
  f216 := Try.func32.trans (congrArg some (by kernel_rfl))
  f257 := Try.func45.trans (congrArg some (by kernel_rfl))
  f294 := Try.func55.trans (congrArg some (by kernel_rfl))
  f295 := Try.func56.trans (congrArg some (by kernel_rfl))
  f296 := Try.func57.trans (congrArg some (by kernel_rfl))
  f297 := Try.func58.trans (congrArg some (by kernel_rfl))
  f298 := Try.func59.trans (congrArg some (by kernel_rfl))
  f299 := Try.func60.trans (congrArg some (by kernel_rfl))
  f300 := Try.func61.trans (congrArg some (by kernel_rfl))
  f301 := Try.func62.trans (congrArg some (by kernel_rfl))
  f328 := Try.func67.trans (congrArg some (by kernel_rfl))
  f329 := Try.func68.trans (congrArg some (by kernel_rfl))
  f330 := Try.func69.trans (congrArg some (by kernel_rfl))
  f331 := Try.func70.trans (congrArg some (by kernel_rfl))
  f332 := Try.func71.trans (congrArg some (by kernel_rfl))
  f343 := Try.func73.trans (congrArg some (by kernel_rfl))
  t0 := Try.underlying0
  a0 := Try.isAgg0
  z0 := Try.sizeOf0
  v0 := Try.zeroValue0
  t3 := Try.underlying3
  a3 := Try.isAgg3
  z3 := Try.sizeOf3
  v3 := Try.zeroValue3
  t4 := Try.underlying4
  a4 := Try.isAgg4
  z4 := Try.sizeOf4
  v4 := Try.zeroValue4
  t5 := Try.underlying5
  a5 := Try.isAgg5
  z5 := Try.sizeOf5
  v5 := Try.zeroValue5
  t9 := Try.underlying9
  a9 := Try.isAgg9
  z9 := Try.sizeOf9
  v9 := Try.zeroValue9
  t28 := Try.underlying30
  a28 := Try.isAgg30
  z28 := Try.sizeOf30
  v28 := Try.zeroValue30
  t46 := Try.underlying62
  a46 := Try.isAgg62
  z46 := Try.sizeOf62
  v46 := Try.zeroValue62
  t51 := Try.underlying86
  a51 := Try.isAgg86
  z51 := Try.sizeOf86
  v51 := Try.zeroValue86
  t53 := Try.underlying33
  a53 := Try.isAgg33
  z53 := Try.sizeOf33
  v53 := Try.zeroValue33
  t131 := Try.underlying50
  a131 := Try.isAgg50
  z131 := Try.sizeOf50
  v131 := Try.zeroValue50
  t182 := Try.underlying79
  a182 := Try.isAgg79
  z182 := Try.sizeOf79
  v182 := Try.zeroValue79
  t183 := Try.underlying80
  a183 := Try.isAgg80
  z183 := Try.sizeOf80
  v183 := Try.zeroValue80
  t218 := Try.underlying88
  a218 := Try.isAgg88
  z218 := Try.sizeOf88
  v218 := Try.zeroValue88
  t222 := Try.underlying92
  a222 := Try.isAgg92
  z222 := Try.sizeOf92
  v222 := Try.zeroValue92
  t228 := Try.underlying95
  a228 := Try.isAgg95
  z228 := Try.sizeOf95
  v228 := Try.zeroValue95
  t229 := Try.underlying96
  a229 := Try.isAgg96
  z229 := Try.sizeOf96
  v229 := Try.zeroValue96 }
theorem sh_slices_Sort_int (blk off cap : Nat) (zs : List Int) (w : World) (hH : Holds (Value.int .i64) w blk off zs.toArray) (hblk : blk < w.heap.size) (hsz : zs.length < 4611686018427387904) :
    Calls Try.prog 30 #[.slice (some ⟨blk, off, none⟩) zs.length cap] w fun e w' =>
      e = .returned (.tuple #[]) ∧ ∃ n os, w' = grow (putRow (Value.int .i64) (Sort.ahead w n) blk off (zs.mergeSort fun x y => decide (x ≤ y)).toArray) os := Any.slices_Sort_int sh_lays189 blk off cap zs w hH hblk hsz
theorem sh_slices_Sort_int_none (p : Option Addr) (cap : Nat) (w : World) :
    Calls Try.prog 30 #[.slice p 0 cap] w fun e w' => e = .returned (.tuple #[]) ∧ w' = w := Any.slices_Sort_int_none sh_lays189 p cap w
def sh_laysNm225_ren : Go.Shelf.Ren := ⟨fun | 25 => 19 | 31 => 32 | 32 => 33 | 37 => 47 | n => n, fun | 22 => 30 | 3 => 3 | 4 => 4 | 40 => 62 | 0 => 0 | n => n, fun | n => n⟩
theorem sh_laysNm225 : Lays2.n25 Try.prog sh_laysNm225_ren := {
  mixed := by kernel_rfl
  f25 := Try.func19.trans (congrArg some (by kernel_rfl))
  f31 := Try.func32.trans (congrArg some (by kernel_rfl))
  f32 := Try.func33.trans (congrArg some (by kernel_rfl))
  f37 := Try.func47.trans (congrArg some (by kernel_rfl))
  t0 := Try.underlying0
  a0 := Try.isAgg0
  z0 := Try.sizeOf0
  v0 := Try.zeroValue0
  t3 := Try.underlying3
  a3 := Try.isAgg3
  z3 := Try.sizeOf3
  v3 := Try.zeroValue3
  t4 := Try.underlying4
  a4 := Try.isAgg4
  z4 := Try.sizeOf4
  v4 := Try.zeroValue4
  t22 := Try.underlying30
  a22 := Try.isAgg30
  z22 := Try.sizeOf30
  v22 := Try.zeroValue30
  t40 := Try.underlying62
  a40 := Try.isAgg62
  z40 := Try.sizeOf62
  v40 := Try.zeroValue62 }
theorem sh_slices_BinarySearch_int (b off n c : Nat) (zs : List Int) (x : Int) (w : World) (hz : n ≤ zs.length) (hbig : n < 4611686018427387904) (hc : ∀ j, j < zs.length → w.cell? ⟨b, off + j, none⟩ = some (.int .i64 (zs.getD j 0))) (hs : (zs.take n).Pairwise (· ≤ ·)) :
    Calls Try.prog 19 #[.slice (some ⟨b, off, none⟩) n c, .int .i64 x] w fun e w' => e = .returned (.tuple #[.int .i64 ((zs.take n).countP (· < x) : Nat), .bool ((zs.take n).contains x)]) ∧ ∃ q, w' = w.drewN q := Any.slices_BinarySearch_int sh_laysNm225 b off n c zs x w hz hbig hc hs
theorem sh_slices_BinarySearch_int_empty (a : Option Addr) (c : Nat) (x : Int) (w : World) :
    Calls Try.prog 19 #[.slice a 0 c, .int .i64 x] w fun e w' => e = .returned (.tuple #[.int .i64 0, .bool false]) ∧ w' = w := Any.slices_BinarySearch_int_empty sh_laysNm225 a c x w
def sh_laysNm215_ren : Go.Shelf.Ren := ⟨fun | 15 => 39 | n => n, fun | 22 => 30 | 3 => 3 | 4 => 4 | n => n, fun | n => n⟩
theorem sh_laysNm215 : Lays2.n15 Try.prog sh_laysNm215_ren := {
  mixed := by kernel_rfl
  f15 := Try.func39.trans (congrArg some (by kernel_rfl))
  t3 := Try.underlying3
  a3 := Try.isAgg3
  z3 := Try.sizeOf3
  v3 := Try.zeroValue3
  t4 := Try.underlying4
  a4 := Try.isAgg4
  z4 := Try.sizeOf4
  v4 := Try.zeroValue4
  t22 := Try.underlying30
  a22 := Try.isAgg30
  z22 := Try.sizeOf30
  v22 := Try.zeroValue30
  i3 := by kernel_rfl }
theorem sh_slices_Clone_int (b off n c : Nat) (zs : List Int) (w : World) (hz : n ≤ zs.length) (hbig : n * 8 ≤ 140737488355328) (hc : ∀ j, j < zs.length → w.cell? ⟨b, off + j, none⟩ = some (.int .i64 (zs.getD j 0))) :
    Calls Try.prog 39 #[.slice (some ⟨b, off, none⟩) n c] w fun e w' => ∃ v', e = .returned v' ∧ w'.ownsRow w.heap.size 3 1 v' n ((zs.take n).map (Value.int .i64)) ∧ v' ≠ .slice none 0 0 ∧ Below w.heap.size w w' := Any.slices_Clone_int sh_laysNm215 b off n c zs w hz hbig hc
theorem sh_slices_Clone_int_nil (n c : Nat) (w : World) :
    Calls Try.prog 39 #[.slice none n c] w fun e w' => e = .returned (.slice none 0 0) ∧ w' = w := Any.slices_Clone_int_nil sh_laysNm215 n c w
theorem sh_slices_Clone_int_zero (a : Addr) (c : Nat) (w : World) :
    Calls Try.prog 39 #[.slice (some a) 0 c] w fun e w' => ∃ v', e = .returned v' ∧ w'.ownsRow w.heap.size 3 1 v' 0 [] ∧ v' ≠ .slice none 0 0 ∧ Below w.heap.size w w' := Any.slices_Clone_int_zero sh_laysNm215 a c w
def sh_sorted66_ren : Go.Shelf.Ren := ⟨fun | 6 => 16 | 8 => 29 | 9 => 30 | 11 => 44 | 13 => 46 | 12 => 45 | 23 => 63 | 24 => 64 | 14 => 55 | 15 => 56 | 16 => 57 | 17 => 58 | 18 => 59 | 19 => 60 | 20 => 32 | 21 => 61 | 22 => 62 | 25 => 67 | 26 => 68 | 27 => 69 | 28 => 70 | 29 => 71 | 30 => 47 | 31 => 73 | n => n, fun | 26 => 3 | 28 => 47 | 24 => 30 | 0 => 0 | 3 => 3 | 37 => 62 | 48 => 86 | 50 => 33 | 4 => 4 | 40 => 80 | 39 => 79 | 45 => 50 | 5 => 5 | 9 => 9 | 51 => 88 | 55 => 92 | 57 => 95 | 58 => 96 | 33 => 61 | n => n, fun | n => n⟩
theorem sh_sorted66 : Go.Proofs.SlLaysZI.n6 Try.prog sh_sorted66_ren := {
  mixed := by kernel_rfl
  f6 := ⟨Try.f16.name, by decide, Try.func16.trans (congrArg some (by kernel_rfl))⟩
  f8 := ⟨Try.f29.name, by decide, Try.func29.trans (congrArg some (by kernel_rfl))⟩
  f11 := ⟨Try.f44.name, by decide, Try.func44.trans (congrArg some (by kernel_rfl))⟩
  t0 := Try.underlying0
  a0 := Try.isAgg0
  z0 := Try.sizeOf0
  v0 := Try.zeroValue0
  t24 := Try.underlying30
  a24 := Try.isAgg30
  z24 := Try.sizeOf30
  v24 := Try.zeroValue30
  t26 := Try.underlying3
  a26 := Try.isAgg3
  z26 := Try.sizeOf3
  v26 := Try.zeroValue3
  t28 := Try.underlying47
  a28 := Try.isAgg47
  z28 := Try.sizeOf47
  v28 := Try.zeroValue47
  i26 := by kernel_rfl }
def sh_clone78_ren : Go.Shelf.Ren := ⟨fun | 41 => 38 | n => n, fun | 22 => 27 | 23 => 66 | 4 => 4 | n => n, fun | n => n⟩
theorem sh_clone78 : Go.Proofs.SlLaysE0.n41 Try.prog sh_clone78_ren := {
  mixed := by kernel_rfl
  f41 := ⟨Try.f38.name, by decide, Try.func38.trans (congrArg some (by kernel_rfl))⟩
  t4 := Try.underlying4
  a4 := Try.isAgg4
  z4 := Try.sizeOf4
  v4 := Try.zeroValue4
  t22 := Try.underlying27
  a22 := Try.isAgg27
  z22 := Try.sizeOf27
  v22 := Try.zeroValue27 }
end Go.Proofs.Ytngigmpaabmngaa

namespace Go.Proofs.Ytngigmpaabmngaa
open Go.RowKit Go.Lib

/-- A tuple of the program. -/
structure Tup where
  vals : List GVal
  lo : Int
  hi : Int
  lin : List Int
/-- Reads, in no cell of block g. -/
def ReadsA (w : World) (g : Option Nat) (size : Nat) (v : Value) (n : Nat) (xs : List Value) : Prop := Reads w size v n xs ∧ (0 < n → v.ownBlock ≠ g)
theorem ReadsA.below {w w' : World} {g : Option Nat} {size : Nat} {v : Value} {n : Nat} {xs : List Value} (h : ReadsA w g size v n xs) (hb : Below w.heap.size w w') : ReadsA w' g size v n xs := ⟨h.1.below hb, h.2⟩
theorem Reads.block {w : World} {size : Nat} {v : Value} {n : Nat} {xs : List Value} (h : Reads w size v n xs) (hn : 0 < n) (hs : 0 < size) : ∃ k, v.ownBlock = some k ∧ k < w.heap.size := by
  obtain ⟨h1, _, a, c, rfl, _, h5⟩ := h
  obtain ⟨b, o, rfl, h7⟩ := h5 hn
  have hp : 0 < xs.length := by rw [h1]; exact Nat.mul_pos hn hs
  exact ⟨b, rfl, World.block_lt_of_cell? w ⟨b, o + 0, none⟩ (h7 0 _ (List.getElem?_eq_getElem hp))⟩
theorem ReadsA.new {w : World} {size : Nat} {v : Value} {n : Nat} {xs : List Value} (h : Reads w size v n xs) (hs : 0 < size) {m : Nat} (hm : w.heap.size ≤ m) : ReadsA w (some m) size v n xs := by
  refine ⟨h, fun hn e => ?_⟩
  obtain ⟨k, hk, hl⟩ := h.block hn hs
  rw [hk] at e; cases e; omega
theorem ReadsA.grown {w w' : World} {g : Option Nat} {size : Nat} {v : Value} {n : Nat} {xs : List Value} (h : ReadsA w g size v n xs) (hg : w.grownBy w' g) : ReadsA w' g size v n xs := by
  refine ⟨?_, h.2⟩
  obtain ⟨⟨h1, h2, a, c, rfl, h4, h5⟩, h6⟩ := h
  refine ⟨h1, h2, a, c, rfl, h4, fun hn => ?_⟩
  obtain ⟨b, o, rfl, h7⟩ := h5 hn
  exact ⟨b, o, rfl, fun j u hu => hg.cell (h7 j u hu) (h6 hn)⟩
theorem ReadsA.any {w : World} {size : Nat} {v : Value} {n : Nat} {xs : List Value} (h : Reads w size v n xs) (hs : 0 < size) : ReadsA w none size v n xs := by
  refine ⟨h, fun hn e => ?_⟩
  obtain ⟨k, hk, _⟩ := h.block hn hs
  rw [hk] at e; cases e

theorem tup_info : (Try.prog.info? 32).map (fun i => (i.zero, i.size, i.bytes)) = some (some (.agg #[.slice none 0 0, .int .i64 0, .int .i64 0, .slice none 0 0]), 4, 64) := by kernel_rfl
/-- Tuples. -/
def tupE : El Try.prog Tup where
  ty := 32
  size := 4
  bytes := 64
  pos := by decide
  info := info_mk tup_info rfl
  is := fun w G t cs => ∃ v u, cs = [v, .int .i64 t.lo, .int .i64 t.hi, u] ∧ Sl valE w G v t.vals ∧ Sl intE w G u t.lin
  len := by rintro w G t cs ⟨v, u, rfl, _⟩; rfl
  one := by
    rintro w G t cs ⟨v, u, rfl, h1, h2⟩ x hx
    simp at hx
    rcases hx with rfl | rfl | rfl | rfl
    · exact h1.one
    · rfl
    · rfl
    · exact h2.one
  mono := by rintro w G G' t cs ⟨v, u, rfl, h1, h2⟩ hm; exact ⟨v, u, rfl, h1.mono hm, h2.mono hm⟩
  kept := by rintro w w' G t cs ⟨v, u, rfl, h1, h2⟩ hk; exact ⟨v, u, rfl, h1.kept hk, h2.kept hk⟩
/-- A slice of tuples. -/
abbrev Tups (w : World) (v : Value) (l : List Tup) : Prop := Sl tupE w free v l
theorem tups_at {w : World} {a : Option Addr} {n c k : Nat} {l : List Tup} {x : Tup} (h : Tups w (.slice a n c) l) (hk : l[k]? = some x) :
    ∃ b o a1 n1 e1 m1, a = some ⟨b, o, none⟩ ∧ Sl valE w free (.slice a1 x.vals.length n1) x.vals ∧ Sl intE w free (.slice e1 x.lin.length m1) x.lin ∧
      w.cell? ⟨b, o + k * 4, none⟩ = some (.slice a1 x.vals.length n1) ∧ w.cell? ⟨b, o + k * 4 + 1, none⟩ = some (.int .i64 x.lo) ∧ w.cell? ⟨b, o + k * 4 + 2, none⟩ = some (.int .i64 x.hi) ∧ w.cell? ⟨b, o + k * 4 + 3, none⟩ = some (.slice e1 x.lin.length m1) := by
  obtain ⟨b, o, cs, ha, ⟨v, u, rfl, hv, hu⟩, hc⟩ := Sl.at h hk
  obtain ⟨a1, n1, rfl⟩ := hv.shape
  obtain ⟨e1, m1, rfl⟩ := hu.shape
  exact ⟨b, o, a1, n1, e1, m1, ha, hv, hu, hc 0 _ rfl, hc 1 _ rfl, hc 2 _ rfl, hc 3 _ rfl⟩
end Go.Proofs.Ytngigmpaabmngaa

namespace Go.Proofs.Ytngigmpaabmngaa
open Go.RowKit Go.Maps Go.Sort Go.Shelf Go.Lib

section
attribute [local go_sem] Oper.semAt_some

set_option maxRecDepth 100000 in
set_option maxHeartbeats 2000000 in
/-- The closure of slices.Values, for a loop's body that keeps what lay below m0. -/
theorem values1_any (n : Nat) (hn : 1 ≤ n) (l Bs m0 b off cap : Nat) (hb : b < m0) (zs : List Int) (J Jx : List Int → World → Prop)
    (hY : ∀ pre x W, J pre W → pre.length < zs.length → YieldAt Fence.wide (n - 1) Try.prog l #[.int .i64 x] W fun e W' => (e = .returned (.bool true) ∧ J (pre ++ [x]) W' ∧ Below m0 W W') ∨ (e = .returned (.bool false) ∧ Jx (pre ++ [x]) W'))
    (hlen : zs.length ≤ 9223372036854775807) (W : World) (hBs : W.cell? ⟨Bs, 0, none⟩ = some (.slice (some ⟨b, off, none⟩) zs.length cap)) (hc : ∀ j u, (numCells zs)[j]? = some u → W.cell? ⟨b, off + j, none⟩ = some u) (h0 : J [] W) :
    CallsIn Fence.wide n Try.prog 31 #[.func (.yield l) #[] #[], .pointer (some ⟨Bs, 0, none⟩)] W fun e W' => (∃ v, e = .returned v) ∧ (J zs W' ∨ ∃ pre, Jx pre W') := by
  have HC := Lib.hid hc
  have HY := Lib.hid hY
  obtain ⟨m, hm⟩ : ∃ m, m = zs.length := ⟨_, rfl⟩
  have HM := Lib.hid hm
  rw [← hm] at hBs hlen
  clear hc hY hm
  refine callsIn_of_wp Try.func31 rfl trivial ?_ rfl
  simp only [Try.ntmps31, List.size_toArray, List.length_cons, List.length_nil, Nat.reduceAdd, Nat.reduceSub, Array.replicate_succ, Array.replicate_zero, List.push_toArray, List.append_toArray, List.nil_append, List.cons_append]
  gi_wp2
  gi_loopw [7] (fun i wr => ∃ k : Nat, k ≤ m ∧ i = .int .i64 k ∧ J (zs.take k) wr ∧ Below m0 W wr) (fun i _ => m - (intOf i).toNat)
  case atStart => exact ⟨0, Nat.zero_le _, rfl, h0, Below.refl _ _⟩
  case round =>
    obtain ⟨k, hk, rfl, hJs, hnx⟩ := hrel
    have HN := Lib.hid hnx
    clear hnx
    by_cases hlt : k < m
    · obtain ⟨x, hx⟩ := lget_some zs k (by rw [← HM.out]; exact hlt)
      have a2 : wr.cell? ⟨b, off + k, none⟩ = some (.int .i64 x) := (HN.out.cell (p := ⟨b, off + k, none⟩) hb).trans (HC.out k _ (numCells_at zs k x hx))
      obtain ⟨fn, tmps, assign, body, hy, hR⟩ := HY.out _ x wr hJs (by rw [List.length_take, ← HM.out]; omega)
      have HX := Lib.hid hx
      clear hx
      gi_wp2
      refine hR.mono ?_
      rintro e W3 (⟨rfl, hJ3, hk3⟩ | ⟨rfl, hJx3⟩)
      · gi_wp2
        go_roundw
        case rel => exact ⟨k + 1, by omega, by simp, by rw [take_get HX.out]; exact hJ3, HN.out.trans hk3⟩
        case measure => simp [intOf]; omega
      · gi_wp2
        refine bodyPost_ret (results_none rfl _ _ _) rfl ?_
        exact ⟨⟨_, rfl⟩, .inr ⟨_, hJx3⟩⟩
    · gi_wp2
      go_end0
      exact ⟨⟨_, rfl⟩, .inl (by rw [List.take_of_length_le (by rw [← HM.out]; omega)] at hJs; exact hJs)⟩

set_option maxRecDepth 100000 in
set_option maxHeartbeats 2000000 in
/-- The same at the empty slice. -/
theorem values1_none (n : Nat) (l Bs : Nat) (a : Option Addr) (cap : Nat) (J : List Int → World → Prop) (W : World) (hBs : W.cell? ⟨Bs, 0, none⟩ = some (.slice a 0 cap)) (h0 : J [] W) :
    CallsIn Fence.wide n Try.prog 31 #[.func (.yield l) #[] #[], .pointer (some ⟨Bs, 0, none⟩)] W fun e W' => (∃ v, e = .returned v) ∧ J [] W' := by
  refine callsIn_of_wp Try.func31 rfl trivial ?_ rfl
  simp only [Try.ntmps31, List.size_toArray, List.length_cons, List.length_nil, Nat.reduceAdd, Nat.reduceSub, Array.replicate_succ, Array.replicate_zero, List.push_toArray, List.append_toArray, List.nil_append, List.cons_append]
  gi_wp2
  gi_loopw [7] (fun i wr => i = .int .i64 0 ∧ J [] wr) (fun _ _ => 0)
  case atStart => exact ⟨rfl, h0⟩
  case round =>
    obtain ⟨rfl, hJs⟩ := hrel
    gi_wp2
    go_end0
    exact ⟨⟨_, rfl⟩, hJs⟩
end

/-- slices.Values(p), its closure's box at block Bs: an iterator that gives p's numbers to a loop that keeps what lay below m0. -/
theorem values_stops (n : Nat) (hn : 1 ≤ n) (Bs m0 : Nat) (v : Value) (zs : List Int) (w w1 : World) (hm0 : m0 = w.heap.size) (hb1 : Below w.heap.size w w1) (hBs : w1.cell? ⟨Bs, 0, none⟩ = some v) (hr : Reads w 1 v zs.length (numCells zs)) :
    SeqStopsK Fence.wide n Try.prog 31 #[.pointer (some ⟨Bs, 0, none⟩)] (fun x : Int => #[Value.int .i64 x]) (Below m0) (fun ys => ys = zs) (fun _ => True) zs.length w1 := by
  subst hm0
  intro l J Jx W hW _ _ hY h0
  have hc' := (hW.cell (World.block_lt_of_cell? w1 _ hBs)).trans hBs
  have hW0 : Below w.heap.size w W := hb1.trans (hW.mono hb1.size)
  obtain ⟨_, hm, a, c, rfl, _, hp⟩ := hr
  rcases Nat.eq_zero_or_pos zs.length with hz | hz
  · have hzs : zs = [] := List.eq_nil_of_length_eq_zero hz
    subst hzs
    exact (values1_none n l Bs a c J W hc' h0).mono fun e W' ⟨he, hj⟩ => ⟨he, .inl ⟨_, rfl, hj⟩⟩
  · obtain ⟨b, o, rfl, hc⟩ := hp hz
    have hb : b < w.heap.size := by
      obtain ⟨x, hx⟩ := lget_some zs 0 hz
      exact World.block_lt_of_cell? w _ (hc 0 _ (numCells_at zs 0 x hx))
    refine (values1_any n hn l Bs w.heap.size b o c hb zs J Jx hY hm W hc' (fun j u hu => (hW0.cell (World.block_lt_of_cell? w _ (hc j u hu))).trans (hc j u hu)) h0).mono ?_
    rintro e W' ⟨he, hj | ⟨pre, hj⟩⟩
    · exact ⟨he, .inl ⟨_, rfl, hj⟩⟩
    · exact ⟨he, .inr ⟨_, trivial, hj⟩⟩


section
attribute [local go_sem] Oper.semAt_some
/-- What AppendSeq's loop keeps: its box holds a row of its own with what has come. -/
structure ApAt (B : Nat) (w : World) (pre : List Int) (W : World) : Prop where
  box : ∃ v, W.heap[B]? = some (.cells #[v] 30 (0, 0)) ∧ W.ownsRow w.heap.size 3 1 v pre.length (numCells pre)
theorem apAt_own (B : Nat) (w : World) : OwnFrom w.heap.size (ApAt B w) := by
  intro s W W' row h hg hr
  obtain ⟨v, hv, ho⟩ := h.box
  have hne : ∀ (j : Nat) (o : Obj), W.heap[j]? = some o → o.isCells = true → some j ≠ row := by
    intro j o hj ho e
    obtain ⟨_, o', ho', hc⟩ := hr j e.symm
    rw [hj] at ho'; cases ho'; rw [ho] at hc; cases hc
  refine ⟨v, (hg.block B (Array.getElem?_eq_some_iff.1 hv).1 (hne _ _ hv rfl)).trans hv, ?_⟩
  refine ho.kept hg ?_
  rcases ho.2 with ⟨rfl, _⟩ | ⟨g, cap, cur, rfl, _, hgb, _⟩
  · exact .inl rfl
  · exact .inr (hne _ _ hgb rfl)
set_option maxRecDepth 100000 in
set_option maxHeartbeats 2000000 in
theorem appendSeq_any (n : Nat) (hn : 3 ≤ n) (Bs : Nat) (v : Value) (zs : List Int) (hN : zs.length ≤ maxLen) (hNb : zs.length * 8 ≤ 140737488355328) (w : World) (hBs : w.cell? ⟨Bs, 0, none⟩ = some v) (hr : Reads w 1 v zs.length (numCells zs)) :
    CallsIn Fence.wide n Try.prog 44 #[.slice none 0 0, .func (.func 31) #[] #[.pointer (some ⟨Bs, 0, none⟩)]] w fun e w' => ∃ v', e = .returned v' ∧ w'.ownsRow w.heap.size 3 1 v' zs.length (numCells zs) ∧ Below w.heap.size w w' := by
  have h1 : 1 ≤ n := by omega
  refine callsIn_of_wp_marks Try.func44 rfl trivial ?_ rfl
  simp only [Try.ntmps44, List.size_toArray, List.length_cons, List.length_nil, Nat.reduceAdd, Nat.reduceSub, Array.replicate_succ, Array.replicate_zero, List.push_toArray, List.append_toArray, List.nil_append, List.cons_append]
  gi_wp2
  have hb1 : Below w.heap.size w (w.alloc (.cells #[.slice none 0 0] 30)) := (Below.refl _ w).alloc (Nat.le_refl _) _
  refine wpIn_rangeFunc_ownF rfl h1 (gf := 31) (lb := #[.pointer (some ⟨Bs, 0, none⟩)]) rfl trivial (enters_of Try.func31 (by kernel_rfl) rfl)
    (values_stops (n - 1) (by omega) Bs w.heap.size v zs w _ rfl hb1 ((hb1.cell (World.block_lt_of_cell? w _ hBs)).trans hBs) hr) belowK_t (belowK_b (by simp)) (Below.refl _ _) (fun _ => rfl)
    (fun pre W => ApAt w.heap.size w pre W ∧ Below w.heap.size w W)
    (fun _ _ _ => False)
    (OwnFrom.and (fun s A B row hs hg hr => apAt_own _ _ s A B row hs hg (fun r e => ⟨by have := (hr r e).1; simp at this; omega, (hr r e).2⟩)) (ownFrom_below (Nat.le_refl _) (by simp)))
    (fun _ _ _ _ _ hs _ _ => hs)
    ⟨⟨_, World.alloc_heap_new w _, World.ownsRow_nil _ _ _ _⟩, hb1⟩
    (fun x => { tmps := #[.slice none 0 0, .func (.func 31) #[] #[.pointer (some ⟨Bs, 0, none⟩)], .pointer (some ⟨w.heap.size, 0, none⟩), undef, .slice none 0 0, .int .i64 x, .func (.func 31) #[] #[.pointer (some ⟨Bs, 0, none⟩)], .int .i64 x, undef, undef, undef, undef, undef], defers := [] }) ?assign ?body ?done ?stop
  case assign =>
    intro l x W K hK
    gi_wp2
    exact hK
  case body =>
    rintro l pre x W ⟨hA, hB⟩ hlt
    obtain ⟨v1, hv, hrow⟩ := hA.box
    obtain ⟨hc1, hf1⟩ := cell_of_box_a hv
    obtain ⟨i0, hi, hz0, hz1, hz2⟩ := info_parts sh_sorted66.i26
    have hwl : w.heap.size ≤ W.heap.size := hB.size
    have hBlt : w.heap.size < W.heap.size := (Array.getElem?_eq_some_iff.1 hv).1
    have hnB : some w.heap.size ≠ v1.ownBlock := by
      rcases ownsRow_ne_a hrow hv (fun cur e => by cases e) with e | e
      · rw [e]; simp
      · exact fun e' => e e'.symm
    have hrow2 := (hrow.alloc (.cells #[.int .i64 x] 3))
    have HV := Lib.hid hv
    have HR := Lib.hid hrow
    have HB := Lib.hid hB
    have HA := Lib.hid hA
    clear hv hrow hB hA
    gi_wp2_with (
        gi_at_builtin
        refine wpListIn_append_own _ rfl _ _ 30 rfl w.heap.size 3 i0 (.int .i64 0) 1 8 Try.underlying30 hi hz0 hz1 hz2 rfl (by decide) _ _ _ rfl hrow2 ⟨W.heap.size, 0, none⟩ 1 1 [.int .i64 x] rfl rfl (cell_one_new _ _ _) (by simp [Value.oneCell']) (by omega) (by omega) (by simp; omega) ?_
        intro v' w3 hown' hg3 _
        have hg4 : (W.alloc (.cells #[.int .i64 x] 3)).grownBy w3 v1.ownBlock := hg3
        have hv3 : w3.heap[w.heap.size]? = some (.cells #[v1] 30 (0, 0)) := (hg4.block w.heap.size (by simp; omega) hnB).trans ((Below.heap_alloc _ _ w.heap.size hBlt).trans HV.out)
        obtain ⟨hc3, hf3⟩ := cell_of_box_a hv3
        obtain ⟨a3, c3, rfl⟩ := own_shape hown'
        have HG4 := Lib.hid hg4
        have HV3 := Lib.hid hv3
        have HO3 := Lib.hid hown'
        clear hg3 hg4 hv3 hown'
        go_frame)
    have hkeep : KeepsOthers W w3 := (KeepsOthers.alloc W _).trans (KeepsOthers.of_grownBy HG4.out (fun j o hj ho => by
      rcases hrow2.2 with ⟨rfl, _⟩ | ⟨g, cap, cur, rfl, _, hgb, _⟩
      · cases hj
      · cases hj; rw [hgb] at ho; cases ho; rfl))
    have hbel : Below w.heap.size W w3 := ((Below.refl w.heap.size W).alloc hwl _).grown HG4.out (by simp; omega) (fun k e => (HR.out.lt k e).1)
    have hset := (Below.refl w.heap.size w3).setCell (p := ⟨w.heap.size, 0, none⟩) (Nat.le_refl _) (.slice a3 (pre.length + 1) c3)
    refine ⟨hkeep.trans (KeepsOthers.setCell _ _ _), hbel.trans hset, ⟨⟨_, heap_setCell_box_a _ HV3.out, ?_⟩⟩, (HB.out.trans hbel).trans hset⟩
    have := HO3.out.kept (grownBy_setCell0_a w3 w.heap.size (.slice a3 (pre.length + 1) c3)) (ownsRow_ne_a HO3.out HV3.out (fun cur e => by cases e))
    rw [List.length_append, show numCells (pre ++ [x]) = numCells pre ++ [.int .i64 x] by simp [numCells]]
    exact this
  case done =>
    rintro D ys W hD rfl ⟨hA, hB⟩ hK
    obtain ⟨v1, hv, hrow⟩ := hA.box
    obtain ⟨hc1, hf1⟩ := cell_of_box_a hv
    gi_wp2
    refine ⟨by simp, .inl ⟨_, _, rfl, run_takeDeferred hK, ?_⟩⟩
    exact ⟨_, results_tmp rfl _ _ _, v1, rfl, hrow.kept (grownBy_putObj_a _ _ _) (ownsRow_ne_a hrow hK (fun cur e => by cases e)), hB.trans (belowK_b (w := w) (Nat.le_refl _) W D _ _ (by simp at hD; omega) hK rfl rfl)⟩
  case stop =>
    rintro D c pre W _ _ h _
    exact h.elim
end

set_option maxHeartbeats 1000000 in
theorem collect_any (Bs : Nat) (v : Value) (zs : List Int) (hN : zs.length ≤ maxLen) (hNb : zs.length * 8 ≤ 140737488355328) (w : World) (hBs : w.cell? ⟨Bs, 0, none⟩ = some v) (hr : Reads w 1 v zs.length (numCells zs)) :
    Calls Try.prog 29 #[.func (.func 31) #[] #[.pointer (some ⟨Bs, 0, none⟩)]] w fun e w' => ∃ v', e = .returned v' ∧ w'.ownsRow w.heap.size 3 1 v' zs.length (numCells zs) ∧ Below w.heap.size w w' := by
  have HA := Lib.hid (callsIn_wide.1 (appendSeq_any 3 (by omega) Bs v zs hN hNb w hBs hr))
  clear hr hBs
  go_enter Try.func29, Try.ntmps29
  go_wp2_with (go_at_call 44; refine HA.out.mono ?_; rintro e w' ⟨v', rfl, ho, hb⟩)
  go_ret
  exact ⟨v', rfl, ho, hb⟩

/-- The numbers in order. -/
def srt (zs : List Int) : List Int := zs.mergeSort fun x y => decide (x ≤ y)
set_option maxHeartbeats 1000000 in
theorem sorted_any (Bs : Nat) (v : Value) (zs : List Int) (hN : zs.length ≤ maxLen) (hNb : zs.length * 8 ≤ 140737488355328) (w : World) (hBs : w.cell? ⟨Bs, 0, none⟩ = some v) (hr : Reads w 1 v zs.length (numCells zs)) :
    Calls Try.prog 16 #[.func (.func 31) #[] #[.pointer (some ⟨Bs, 0, none⟩)]] w fun e w' => ∃ v', e = .returned v' ∧ w'.ownsRow w.heap.size 3 1 v' zs.length (numCells (srt zs)) ∧ Below w.heap.size w w' := by
  have HA := Lib.hid (collect_any Bs v zs hN hNb w hBs hr)
  clear hr hBs
  go_enter Try.func16, Try.ntmps16
  go_wp2_with (go_at_call 29; refine HA.out.mono ?_; rintro e w1 ⟨v', rfl, ho, hb⟩)
  rcases ho.2 with ⟨rfl, hz⟩ | ⟨gb, cap, cur, rfl, hbase, hgb, r1, r2, r3, r4⟩
  · have hzs : zs = [] := List.eq_nil_of_length_eq_zero hz
    subst hzs
    go_wp2_with (go_at_call 30; refine (sh_slices_Sort_int_none none 0 w1).mono ?_; rintro e w' ⟨rfl, rfl⟩)
    go_ret
    exact ⟨_, rfl, by simpa [srt] using ho, hb⟩
  · have hH : Holds (Value.int .i64) w1 gb 0 zs.toArray := holds_of_block_i hgb (by simpa [numCells] using r4)
    have hgl : gb < w1.heap.size := (Array.getElem?_eq_some_iff.1 hgb).1
    have hsz : zs.length < 4611686018427387904 := by unfold maxLen at hN; omega
    have HS := Lib.hid (sh_slices_Sort_int gb 0 cap zs w1 hH hgl hsz)
    clear hH
    go_wp2_with (go_at_call 30; refine HS.out.mono ?_; rintro e w' ⟨rfl, nn, os, rfl⟩)
    go_ret
    have hlen : (srt zs).length = zs.length := List.length_mergeSort _
    refine ⟨_, rfl, ?_, hb.grown (grownBy_sorted_i _) hb.size (fun j hj => by cases hj; exact hbase)⟩
    exact ownsRow_sorted_i (ts := srt zs) hlen hbase hgb r1 r2 r3

set_option maxHeartbeats 1000000 in
theorem values_any (v : Value) (a : Option Addr) (n c : Nat) (hv : v = .slice a n c) (w : World) :
    Calls Try.prog 17 #[v] w fun e w' => e = .returned (.func (.func 31) #[] #[.pointer (some ⟨w.heap.size, 0, none⟩)]) ∧ w' = w.alloc (.cells #[v] 30) := by
  subst hv
  go_enter Try.func17, Try.ntmps17
  go_wp2
  go_ret
  exact ⟨rfl, rfl⟩
end Go.Proofs.Ytngigmpaabmngaa

namespace Go.Proofs.Ytngigmpaabmngaa
open Go.RowKit Go.Lib Go.Shelf


set_option maxHeartbeats 1000000 in
theorem tupleRow_any (v u : Value) (lo hi : Int) (w : World) (a b : Option Addr) (n c m d : Nat) (hv : v = .slice a n c) (hu : u = .slice b m d) :
    Calls Try.prog 14 #[.agg #[v, .int .i64 lo, .int .i64 hi, u]] w fun e w' => e = .returned (.agg #[v, u]) ∧ Below w.heap.size w w' := by
  subst hv hu
  go_enter Try.func14, Try.ntmps14
  go_wp2
  refine bodyPost_ret (v := .agg #[.slice a n c, .slice b m d]) ?_ rfl ⟨rfl, below_alloc_two w _ _⟩
  simp [results, Try.results14, go_sem]

theorem reads_shape {w : World} {size : Nat} {v : Value} {n : Nat} {xs : List Value} (h : Reads w size v n xs) : ∃ a c, v = .slice a n c := by
  obtain ⟨_, _, a, c, e, _⟩ := h; exact ⟨a, c, e⟩
/-- A slice in memory that is newer than w. -/
def Newer (B : Nat) (v : Value) : Prop := ∀ k, v.ownBlock = some k → B ≤ k
/-- A copy: it reads the same, in newer memory. -/
structure Copied (w : World) (size n : Nat) (xs : List Value) (v' : Value) (w' : World) : Prop where
  reads : Reads w' size v' n xs
  newer : Newer w.heap.size v'
  below : Below w.heap.size w w'
theorem Copied.of {w w' : World} {size n : Nat} {xs : List Value} {e : TypeId} {v' : Value} (ho : w'.ownsRow w.heap.size e size v' n xs) (hb : Below w.heap.size w w') : Copied w size n xs v' w' :=
  ⟨own_reads ho, fun k hk => (ho.lt k hk).1, hb⟩
theorem cloneInts_any (v : Value) (l : List Int) (w : World) (hr : Reads w 1 v l.length (numCells l)) (hs : l.length ≤ 1000) :
    Calls Try.prog 39 #[v] w fun e w' => ∃ v', e = .returned v' ∧ Copied w 1 l.length (numCells l) v' w' := by
  obtain ⟨_, _, a, c, rfl, _, hp⟩ := hr
  cases a with
  | none =>
    have hl : l.length = 0 := by
      rcases Nat.eq_zero_or_pos l.length with h | h
      · exact h
      · obtain ⟨b, o, e, _⟩ := hp h; cases e
    refine (sh_slices_Clone_int_nil _ _ _).mono ?_
    rintro e w' ⟨rfl, rfl⟩
    have : l = [] := List.eq_nil_of_length_eq_zero hl
    subst this
    exact ⟨_, rfl, .of (e := 3) (World.ownsRow_nil _ _ _ _) (Below.refl _ _)⟩
  | some p =>
    rcases Nat.eq_zero_or_pos l.length with h | h
    · have : l = [] := List.eq_nil_of_length_eq_zero h
      subst this
      refine (sh_slices_Clone_int_zero p c w).mono ?_
      rintro e w' ⟨v', rfl, ho, _, hb⟩
      exact ⟨_, rfl, .of ho hb⟩
    · obtain ⟨b, o, e, hc⟩ := hp h
      cases e
      refine (sh_slices_Clone_int b o l.length c l w (Nat.le_refl _) (by omega) (fun j hj => ?_)).mono ?_
      · rw [hc j _ (numCells_at l j _ (List.getElem?_eq_getElem hj))]; simp [List.getD, List.getElem?_eq_getElem hj]
      · rintro e w' ⟨v', rfl, ho, _, hb⟩
        rw [List.take_length] at ho
        exact ⟨_, rfl, .of ho hb⟩
theorem valCells_one (l : List GVal) : ∀ u ∈ valCells l, u.oneCell' = true := by
  intro u hu
  obtain ⟨x, _, hx⟩ := List.mem_flatMap.1 hu
  simp [valOf] at hx
  rcases hx with rfl | rfl | rfl <;> rfl
set_option maxHeartbeats 1000000 in
theorem cloneVals_zero (p : Addr) (c : Nat) (w : World) :
    Calls Try.prog 38 #[.slice (some p) 0 c] w fun e w' => ∃ v', e = .returned v' ∧ Copied w 3 0 [] v' w' := by
  obtain ⟨i0, hi, hz0, hz1, hz2⟩ := info_parts val_info
  have q22 : ∀ (w : World) (a : Option Addr) (n c n' c' : Nat), (binOp .eql 27 (.slice a n c) (.slice none n' c')).run Try.prog w = .ok (.bool a.isNone) w := fun w a n c n' c' => Lib.run_eql_slice_nil w _ _ a n c n' c' Try.underlying27
  go_enter Try.func38, Try.ntmps38
  go_wp2_with (at_builtin; refine wpList_append_own _ rfl _ _ 27 rfl w.heap.size 66 i0 _ 3 32 Try.underlying27 hi hz0 hz1 hz2 rfl (by decide) _ _ _ rfl (World.ownsRow_made w #[] 0 (Nat.le_refl _) (Nat.zero_le _) rfl) p 0 c [] rfl rfl (by intro j u hj; simp at hj) (by intro u hu; cases hu) (by unfold maxLen; omega) (by omega) (by simp) ?_; intro v' w1 hown hgrow hnil)
  go_ret
  exact ⟨v', rfl, .of hown (((Below.refl _ w).alloc (Nat.le_refl _) _).grown hgrow (by simp) (fun k hk => ((World.ownsRow_made (base := w.heap.size) (e := 66) (size := 3) w #[] 0 (Nat.le_refl _) (Nat.zero_le _) rfl).lt k hk).1))⟩
theorem cloneVals_any (v : Value) (l : List GVal) (w : World) (hr : Reads w 3 v l.length (valCells l)) (hs : l.length ≤ 1000) :
    Calls Try.prog 38 #[v] w fun e w' => ∃ v', e = .returned v' ∧ Copied w 3 l.length (valCells l) v' w' := by
  obtain ⟨_, _, a, c, rfl, _, hp⟩ := hr
  obtain ⟨i0, hi, hz0, hz1, hz2⟩ := info_parts val_info
  have hfn : ∃ a', a = a' := ⟨_, rfl⟩
  cases a with
  | none =>
    have hl : l.length = 0 := by
      rcases Nat.eq_zero_or_pos l.length with h | h
      · exact h
      · obtain ⟨b, o, e, _⟩ := hp h; cases e
    refine (AnyE.slices_Clone_nil sh_clone78 _ _ _).mono ?_
    rintro e w' ⟨rfl, rfl⟩
    have : l = [] := List.eq_nil_of_length_eq_zero hl
    subst this
    exact ⟨_, rfl, .of (e := 66) (World.ownsRow_nil _ _ _ _) (Below.refl _ _)⟩
  | some p =>
    rcases Nat.eq_zero_or_pos l.length with h | h
    · have : l = [] := List.eq_nil_of_length_eq_zero h
      subst this
      exact cloneVals_zero p c w
    obtain ⟨b, o, e, hc⟩ := hp h
    cases e
    refine (AnyE.slices_Clone sh_clone78 i0 _ 3 32 hi hz0 hz1 hz2 rfl (by decide) (fun w => Try.sizeOf66 w) b o l.length c (valCells l) w (valCells_length l) (by unfold maxLen; omega) (by omega) hc (valCells_one l)).mono ?_
    rintro e w' ⟨v', rfl, ho, _, hb⟩
    exact ⟨_, rfl, .of ho hb⟩

theorem cloneInts_from (w0 : World) (v : Value) (l : List Int) (w : World) (hr : Reads w0 1 v l.length (numCells l)) (hs : l.length ≤ 1000) (hb : Below w0.heap.size w0 w) :
    Calls Try.prog 39 #[v] w fun e w' => ∃ v', e = .returned v' ∧ Copied w 1 l.length (numCells l) v' w' ∧ Below w0.heap.size w0 w' := by
  refine (cloneInts_any v l w (hr.below hb) hs).mono ?_
  rintro e w' ⟨v', rfl, hC⟩
  exact ⟨v', rfl, hC, hb.trans (hC.below.mono hb.size)⟩
theorem cloneVals_from (w0 : World) (v : Value) (l : List GVal) (w : World) (hr : Reads w0 3 v l.length (valCells l)) (hs : l.length ≤ 1000) (hb : Below w0.heap.size w0 w) :
    Calls Try.prog 38 #[v] w fun e w' => ∃ v', e = .returned v' ∧ Copied w 3 l.length (valCells l) v' w' ∧ Below w0.heap.size w0 w' := by
  refine (cloneVals_any v l w (hr.below hb) hs).mono ?_
  rintro e w' ⟨v', rfl, hC⟩
  exact ⟨v', rfl, hC, hb.trans (hC.below.mono hb.size)⟩

/-- A box of two cells, unchanged. -/
theorem box_two {w : World} {g : Nat} {x y : Value} {e : TypeId} (h : w.heap[g]? = some (.cells #[x, y] e (0, 0))) :
    w.cell? ⟨g, 0, none⟩ = some x ∧ w.cell? ⟨g, 1, none⟩ = some y ∧ w.frozen? ⟨g, 0, none⟩ = false ∧ w.frozen? ⟨g, 1, none⟩ = false := by
  refine ⟨?_, ?_, ?_, ?_⟩ <;> simp [World.cell?, World.frozen?, h]
theorem box_kept_drew {w w' : World} {g n : Nat} {o : Obj} (h : w.heap[g]? = some o) (hb : Below (w.drewN n).heap.size (w.drewN n) w') : w'.heap[g]? = some o :=
  box_kept (w := w.drewN n) h hb

theorem newer_at {B : Nat} {w : World} {o : Obj} {v : Value} (h : w.heap[B + 1]? = some o) (hn : Newer w.heap.size v) : Hid (Newer (B + 2) v) := fun k hk => by
  have h1 := hn k hk
  have h2 := (Array.getElem?_eq_some_iff.1 h).1
  omega
/-- What the second copy and the two stores leave of the first. -/
theorem copied_end {w w2 W : World} {size n : Nat} {xs : List Value} {v : Value} (hr : Reads w2 size v n xs) (hn : Newer (w.heap.size + 2) v) (hb : Below w.heap.size w w2) (x y : Value)
    (hW : W = (w2.setCell ⟨w.heap.size + 1, 0, none⟩ x).setCell ⟨w.heap.size + 1, 1, none⟩ y) : Copied w size n xs v W := by
  have hg : w2.grownBy W (some (w.heap.size + 1)) := by rw [hW]; exact grownBy_trans (grownBy_setCell _ _ _ _) (grownBy_setCell _ _ _ _)
  have hA : ReadsA w2 (some (w.heap.size + 1)) size v n xs := ⟨hr, fun hp e => by have := hn _ e; omega⟩
  refine ⟨(hA.grown hg).1, fun k hk => by have := hn k hk; omega, hb.grown hg hb.size (fun k e => by cases e; omega)⟩

set_option maxHeartbeats 4000000 in
theorem bagClone_any (v u : Value) (l : List GVal) (m : List Int) (w : World) (hv : Reads w 3 v l.length (valCells l)) (hu : Reads w 1 u m.length (numCells m)) (hl : l.length ≤ 1000) (hm : m.length ≤ 1000) :
    Calls Try.prog 24 #[.agg #[v, u]] w fun e w' => ∃ v' u', e = .returned (.agg #[v', u']) ∧ Copied w 3 l.length (valCells l) v' w' ∧ Copied w 1 m.length (numCells m) u' w' := by
  have HV := Lib.hid hv
  have HU := Lib.hid hu
  obtain ⟨_, _, a, c, rfl, _⟩ := hv
  obtain ⟨_, _, b, d, rfl, _⟩ := hu
  go_enter Try.func24, Try.ntmps24
  go_wp2_with fail
  go_region_with (first | (go_at_call 38; refine (cloneVals_from w _ l _ HV.out hl (by first | exact below_alloc_two w _ _ | exact (below_drewN (below_alloc_two w _ _) _))).mono ?_; rintro e w' ⟨v', rfl, hC, hB⟩; obtain ⟨a', c', rfl⟩ := reads_shape hC.reads; have hx : w'.heap[w.heap.size + 1]? = some (.cells #[.slice none 0 0, .slice none 0 0] 40 (0, 0)) := (by first | exact box_kept (heap_alloc_new' w _ _) hC.below | exact box_kept_drew (heap_alloc_new' w _ _) hC.below | exact box_kept (by assumption) hC.below | exact box_kept_drew (by assumption) hC.below); obtain ⟨x0, x1, x2, x3⟩ := box_two hx; have hy : w'.heap[w.heap.size]? = some (.cells #[.slice a l.length c, .slice b m.length d] 40 (0, 0)) := (by first | exact box_kept (heap_alloc_old' w _ _) hC.below | exact box_kept_drew (heap_alloc_old' w _ _) hC.below | exact box_kept (by assumption) hC.below | exact box_kept_drew (by assumption) hC.below); obtain ⟨y0, y1, y2, y3⟩ := box_two hy; have hN1 : Hid (Newer (w.heap.size + 2) (.slice a' l.length c')) := (fun k hk => by have h9 := hC.newer k hk; simp at h9; omega); have hR1 := Lib.hid hC.reads; have HB1 := Lib.hid hB; clear hC hB) | (go_at_call 39; refine (cloneInts_from w _ m _ HU.out hm (by first | exact HB1.out | exact (below_drewN HB1.out _))).mono ?_; rintro e w' ⟨v', rfl, hC, hB⟩; obtain ⟨a', c', rfl⟩ := reads_shape hC.reads; have hx : w'.heap[w.heap.size + 1]? = some (.cells #[.slice none 0 0, .slice none 0 0] 40 (0, 0)) := (by first | exact box_kept (heap_alloc_new' w _ _) hC.below | exact box_kept_drew (heap_alloc_new' w _ _) hC.below | exact box_kept (by assumption) hC.below | exact box_kept_drew (by assumption) hC.below); obtain ⟨x0, x1, x2, x3⟩ := box_two hx; have hy : w'.heap[w.heap.size]? = some (.cells #[.slice a l.length c, .slice b m.length d] 40 (0, 0)) := (by first | exact box_kept (heap_alloc_old' w _ _) hC.below | exact box_kept_drew (heap_alloc_old' w _ _) hC.below | exact box_kept (by assumption) hC.below | exact box_kept_drew (by assumption) hC.below); obtain ⟨y0, y1, y2, y3⟩ := box_two hy; have hN2 : Hid (Newer (w.heap.size + 2) (.slice a' m.length c')) := newer_at (by assumption) hC.newer; have hR2 := Lib.hid hC.reads; have hR1' := Lib.hid (Reads.below (hR1.out) hC.below); have HB2 := Lib.hid hB; clear hC hB hx hy))
  all_goals go_wp2_with fail
  all_goals refine bodyPost_ret (v := .agg #[.slice _ _ _, .slice _ _ _]) ?_ rfl ⟨_, _, rfl, copied_end hR1'.out hN1.out HB2.out _ _ rfl, copied_end hR2.out hN2.out HB2.out _ _ rfl⟩
  all_goals simp [results, Try.results24, go_sem, x0, x1]
end Go.Proofs.Ytngigmpaabmngaa

namespace Go.Proofs.Ytngigmpaabmngaa
open Go.RowKit Go.Lib Go.Shelf

theorem Reads.set {w : World} {size n B k i : Nat} {xs : List Value} {v x : Value} (hr : Reads w size v n xs) (hn : Newer B v) (hk : k < B) : Reads (w.setCell ⟨k, i, none⟩ x) size v n xs := by
  have hA : ReadsA w (some k) size v n xs := ⟨hr, fun _ e => by have := hn _ e; omega⟩
  exact (hA.grown (grownBy_setCell _ _ _ _)).1
theorem heap_alloc3 (w : World) (o o' o'' : Obj) : (((w.alloc o).alloc o').alloc o'').heap[w.heap.size]? = some o ∧ (((w.alloc o).alloc o').alloc o'').heap[w.heap.size + 1]? = some o' ∧ (((w.alloc o).alloc o').alloc o'').heap[w.heap.size + 1 + 1]? = some o'' := by
  refine ⟨(Below.heap_alloc _ _ _ (by simp; omega)).trans (heap_alloc_old' w o o'), (Below.heap_alloc _ _ _ (by simp)).trans (heap_alloc_new' w o o'), ?_⟩
  have := heap_alloc_new ((w.alloc o).alloc o') o''
  rwa [World.size_alloc, World.size_alloc] at this
theorem box_four {w : World} {g : Nat} {x y z u : Value} {e : TypeId} (h : w.heap[g]? = some (.cells #[x, y, z, u] e (0, 0))) :
    (w.cell? ⟨g, 0, none⟩ = some x ∧ w.cell? ⟨g, 1, none⟩ = some y ∧ w.cell? ⟨g, 2, none⟩ = some z ∧ w.cell? ⟨g, 3, none⟩ = some u) ∧
    w.frozen? ⟨g, 0, none⟩ = false ∧ w.frozen? ⟨g, 1, none⟩ = false ∧ w.frozen? ⟨g, 2, none⟩ = false ∧ w.frozen? ⟨g, 3, none⟩ = false := by
  refine ⟨⟨?_, ?_, ?_, ?_⟩, ?_, ?_, ?_, ?_⟩ <;> simp [World.cell?, World.frozen?, h]
/-- What a copy into a new tuple hands back. -/
structure NewTup (w : World) (t : Tup) (e : Ending) (w' : World) : Prop where
  out : ∃ v u, e = .returned (.agg #[v, .int .i64 t.lo, .int .i64 t.hi, u]) ∧ Reads w' 3 v t.vals.length (valCells t.vals) ∧ Reads w' 1 u t.lin.length (numCells t.lin) ∧ Newer w.heap.size v ∧ Newer w.heap.size u
  below : Below w.heap.size w w'

set_option maxHeartbeats 2000000 in
theorem during_any (v u : Value) (t : Tup) (w : World) (hv : Reads w 3 v t.vals.length (valCells t.vals)) (hu : Reads w 1 u t.lin.length (numCells t.lin)) (hl : t.vals.length ≤ 1000) (hm : t.lin.length ≤ 1000) :
    Calls Try.prog 13 #[.agg #[v, u], .agg #[.int .i64 t.lo, .int .i64 t.hi]] w (NewTup w t) := by
  obtain ⟨a, c, rfl⟩ := reads_shape hv
  obtain ⟨b, d, rfl⟩ := reads_shape hu
  have HV := Lib.hid hv
  have HU := Lib.hid hu
  obtain ⟨lo, hlo⟩ : ∃ x, x = t.lo := ⟨_, rfl⟩
  obtain ⟨hi, hhi⟩ : ∃ x, x = t.hi := ⟨_, rfl⟩
  rw [← hlo, ← hhi]
  have HLO := Lib.hid hlo
  have HHI := Lib.hid hhi
  clear hv hu hlo hhi
  go_enter Try.func13, Try.ntmps13
  go_wp2_with fail
  have hb1 : Below w.heap.size w (((w.alloc (.cells #[.slice a t.vals.length c, .slice b t.lin.length d] 40)).alloc (.cells #[.int .i64 lo, .int .i64 hi] 29)).alloc (.cells #[.slice none 0 0, .int .i64 0, .int .i64 0, .slice none 0 0] 32)) :=
    (below_alloc_two w _ _).alloc (by simp; omega) _
  refine (bagClone_any _ _ t.vals t.lin _ (HV.out.below hb1) (HU.out.below hb1) hl hm).mono ?_
  rintro e w1 ⟨v', u', rfl, hC1, hC2⟩
  obtain ⟨a', c', rfl⟩ := reads_shape hC1.reads
  obtain ⟨b', d', rfl⟩ := reads_shape hC2.reads
  obtain ⟨q0, q1, q2⟩ := heap_alloc3 w (.cells #[.slice a t.vals.length c, .slice b t.lin.length d] 40) (.cells #[.int .i64 lo, .int .i64 hi] 29) (.cells #[.slice none 0 0, .int .i64 0, .int .i64 0, .slice none 0 0] 32)
  obtain ⟨x0, x1, x2, x3⟩ := box_two (box_kept q0 hC1.below)
  obtain ⟨y0, y1, y2, y3⟩ := box_two (box_kept q1 hC1.below)
  obtain ⟨⟨z0, z1, z2, z3⟩, f0, f1, f2, f3⟩ := box_four (box_kept q2 hC1.below)
  clear q0 q1 q2
  have HC1 := Lib.hid hC1
  have HC2 := Lib.hid hC2
  have HB1 := Lib.hid hb1
  clear hC1 hC2 hb1
  go_wp2_with fail
  have hs : (((w.alloc (.cells #[.slice a t.vals.length c, .slice b t.lin.length d] 40)).alloc (.cells #[.int .i64 lo, .int .i64 hi] 29)).alloc (.cells #[.slice none 0 0, .int .i64 0, .int .i64 0, .slice none 0 0] 32)).heap.size = w.heap.size + 3 := by simp
  have hn1 : Newer (w.heap.size + 3) (.slice a' t.vals.length c') := by have := HC1.out.newer; rw [hs] at this; exact this
  have hn2 : Newer (w.heap.size + 3) (.slice b' t.lin.length d') := by have := HC2.out.newer; rw [hs] at this; exact this
  have hb : Below w.heap.size w w1 := HB1.out.trans (HC1.out.below.mono HB1.out.size)
  refine bodyPost_ret (v := .agg #[.slice a' t.vals.length c', .int .i64 lo, .int .i64 hi, .slice b' t.lin.length d']) ?_ rfl ⟨⟨_, _, by rw [HLO.out, HHI.out], ?_, ?_, fun k hk => by have := hn1 k hk; omega, fun k hk => by have := hn2 k hk; omega⟩, ?_⟩
  · simp [results, Try.results13, go_sem, z0, z1, z2, z3]
  · exact (((((HC1.out.reads.set hn1 (by omega)).set hn1 (by omega)).set hn1 (by omega)).set hn1 (by omega)).set hn1 (by omega)).set hn1 (by omega)
  · exact (((((HC2.out.reads.set hn2 (by omega)).set hn2 (by omega)).set hn2 (by omega)).set hn2 (by omega)).set hn2 (by omega)).set hn2 (by omega)
  · refine (((((hb.setCell ?_ _).setCell ?_ _).setCell ?_ _).setCell ?_ _).setCell ?_ _).setCell ?_ _ <;> simp <;> omega

/-- The new tuple, its four cells. -/
theorem NewTup.cells {w w' : World} {t : Tup} {e : Ending} (h : NewTup w t e w') : ∃ a c b d, e = .returned (.agg #[.slice a t.vals.length c, .int .i64 t.lo, .int .i64 t.hi, .slice b t.lin.length d]) ∧ tupE.is w' (fun k => k < w.heap.size) t [.slice a t.vals.length c, .int .i64 t.lo, .int .i64 t.hi, .slice b t.lin.length d] := by
  obtain ⟨v, u, rfl, h1, h2, h3, h4⟩ := h.out
  obtain ⟨a, c, rfl⟩ := reads_shape h1
  obtain ⟨b, d, rfl⟩ := reads_shape h2
  exact ⟨a, c, b, d, rfl, _, _, rfl, .of_vals h1 (fun k hk hl => by have := h3 k hk; omega), .of_ints h2 (fun k hk hl => by have := h4 k hk; omega)⟩

/-- A valid period. -/
def pvalid (lo hi : Int) : Bool := decide (0 ≤ lo ∧ lo < hi ∧ hi ≤ 1099511627776)
set_option maxHeartbeats 1000000 in
theorem pvalid_any (lo hi : Int) (w : World) :
    Calls Try.prog 18 #[.agg #[.int .i64 lo, .int .i64 hi]] w fun e w' => e = .returned (.bool (pvalid lo hi)) ∧ Below w.heap.size w w' := by
  go_enter Try.func18, Try.ntmps18
  go_wp2
  all_goals go_ret
  all_goals refine ⟨congrArg (fun b => Ending.returned (.bool b)) ?_, below_alloc _ _⟩
  all_goals (simp [pvalid, *]; try omega)
end Go.Proofs.Ytngigmpaabmngaa

namespace Go.Proofs.Ytngigmpaabmngaa
open Go.RowKit Go.Lib Go.Shelf

/-- A short row and a short lineage. -/
def small (t : Tup) : Bool := decide (t.vals.length ≤ 6) && decide (t.lin.length ≤ 6)
def few (l : List Tup) (m : Nat) : Bool := decide (l.length ≤ m) && l.all small

set_option maxHeartbeats 2000000 in
set_option maxRecDepth 100000 in
theorem few_any (v : Value) (l : List Tup) (m : Nat) (hm : m ≤ 1000) (w : World) (h : Tups w v l) :
    Calls Try.prog 4 #[v, .int .i64 m] w fun e w' => e = .returned (.bool (few l m)) ∧ w' = w := by
  obtain ⟨h63, a, c, rfl, hc, hp⟩ := h
  have HP := Lib.hid hp
  clear hp
  obtain ⟨n, hn⟩ : ∃ n, n = l.length := ⟨_, rfl⟩
  have HN := Lib.hid hn
  rw [← hn] at h63 hc HP ⊢
  clear hn
  go_enter Try.func4, Try.ntmps4
  go_wp2_with fail
  go_loopw [5] (fun i wr => ∃ k : Nat, k ≤ n ∧ k ≤ m + 1 ∧ i = .int .i64 k ∧ (∀ x ∈ l.take k, small x = true) ∧ wr = w) (fun i _ => n - (intOf i).toNat)
  case atStart => exact ⟨0, Nat.zero_le _, Nat.zero_le _, rfl, by simp, rfl⟩
  case round =>
    obtain ⟨k, hk, hkm, rfl, hall, rfl⟩ := hrel
    have HALL := Lib.hid hall
    clear hall
    by_cases hlt : k < n ∧ k ≤ m
    · obtain ⟨hlt1, hlt2⟩ := hlt
      obtain ⟨x, hx⟩ := lget_some l k (by rw [← HN.out]; exact hlt1)
      obtain ⟨b, o, ha, _, hcl⟩ := HP.out (by omega)
      obtain ⟨cs, ⟨v1, v2, hcs, hv1, hv2⟩, hcell⟩ := hcl k x hx
      subst ha
      have a0 : wr.cell? ⟨b, o + k * 4 + 0, none⟩ = some v1 := hcell 0 v1 (by rw [hcs]; rfl)
      have a3 : wr.cell? ⟨b, o + k * 4 + 3, none⟩ = some v2 := hcell 3 v2 (by rw [hcs]; rfl)
      rw [Nat.add_zero] at a0
      obtain ⟨b1, c1, rfl⟩ := hv1.shape
      obtain ⟨b2, c2, rfl⟩ := hv2.shape
      have g1 := hv1.1
      have g2 := hv2.1
      have HX := Lib.hid hx
      clear hx hcl hcs hv1 hv2 hcell
      by_cases hs1 : x.vals.length ≤ 6
      · by_cases hs2 : x.lin.length ≤ 6
        · go_wp2_with fail
          go_roundw
          case rel =>
            refine ⟨k + 1, by omega, by omega, by go_num, ?_, by first | rfl | trivial⟩
            rw [take_get HX.out]; intro y hy
            rcases List.mem_append.1 hy with h | h
            · exact HALL.out y h
            · simp at h; subst h; simp [small, hs1, hs2]
          case measure => simp [intOf]; omega
        · have hff : few l m = false := by
            have h1 : small x = false := by simp [small]; omega
            rw [few, Bool.and_eq_false_iff]; right
            exact List.all_eq_false.2 ⟨x, List.mem_of_getElem? HX.out, by rw [h1]; simp⟩
          have HFF := Lib.hid hff
          clear hff
          go_wp2_with fail
          go_ret
          exact ⟨by rw [HFF.out]; rfl, rfl⟩
      · have hff : few l m = false := by
          have h1 : small x = false := by simp [small]; omega
          rw [few, Bool.and_eq_false_iff]; right
          exact List.all_eq_false.2 ⟨x, List.mem_of_getElem? HX.out, by rw [h1]; simp⟩
        have HFF := Lib.hid hff
        clear hff
        go_wp2_with fail
        go_ret
        exact ⟨by rw [HFF.out]; rfl, rfl⟩
    · have hff : few l m = decide (n ≤ m) := by
        rw [few, ← HN.out]
        by_cases hnm : n ≤ m
        · have : k = n := by omega
          subst this
          have h2 : l.all small = true := by rw [List.all_eq_true]; intro y hy; exact HALL.out y (by rw [List.take_of_length_le (by rw [← HN.out]; omega)]; exact hy)
          rw [h2]; simp
        · simp [hnm]
      have HFF := Lib.hid hff
      clear hff
      by_cases hk3 : k < n
      · have hkd : decide ((k : Int) ≤ (m : Int)) = false := by simp; omega
        go_wp2_with fail
        go_ret
        exact ⟨by rw [HFF.out]; rfl, rfl⟩
      · go_wp2_with fail
        go_ret
        exact ⟨by rw [HFF.out]; rfl, rfl⟩
end Go.Proofs.Ytngigmpaabmngaa

namespace Go.Proofs.Ytngigmpaabmngaa
open Go.RowKit Go.Lib Go.Shelf

def cmpInts : List Int → List Int → Int
  | [], [] => 0
  | [], _ :: _ => -1
  | _ :: _, [] => 1
  | a :: l, b :: m => if a < b then -1 else if b < a then 1 else cmpInts l m

set_option maxHeartbeats 2000000 in
set_option maxRecDepth 100000 in
theorem cmpInts_any (v u : Value) (l m : List Int) (w : World) (hv : Reads w 1 v l.length (numCells l)) (hu : Reads w 1 u m.length (numCells m)) :
    Calls Try.prog 21 #[v, u] w fun e w' => e = .returned (.int .i64 (cmpInts l m)) ∧ Below w.heap.size w w' := by
  obtain ⟨_, h63, a, c, rfl, hc, hp⟩ := hv
  obtain ⟨_, g63, a2, c2, rfl, hc2, hp2⟩ := hu
  have HP := Lib.hid hp
  have HP2 := Lib.hid hp2
  clear hp hp2
  obtain ⟨n, hn⟩ : ∃ n, n = l.length := ⟨_, rfl⟩
  obtain ⟨n2, hn2⟩ : ∃ n, n = m.length := ⟨_, rfl⟩
  have HN := Lib.hid hn
  have HN2 := Lib.hid hn2
  rw [← hn] at h63 hc HP ⊢
  rw [← hn2] at g63 hc2 HP2 ⊢
  clear hn hn2
  go_enter Try.func21, Try.ntmps21
  go_wp2_with fail
  go_loopw [5] (fun i wr => ∃ k : Nat, k ≤ n ∧ k ≤ n2 ∧ i = .int .i64 k ∧ Hid (cmpInts (l.drop k) (m.drop k) = cmpInts l m) ∧ ∃ q, wr = w.drewN q) (fun i _ => n - (intOf i).toNat)
  case atStart => exact ⟨0, Nat.zero_le _, Nat.zero_le _, rfl, Lib.hid rfl, 0, rfl⟩
  case round =>
    obtain ⟨k, hk, hk2, rfl, HR, q, rfl⟩ := hrel
    have HB : Hid (Below w.heap.size w (w.drewN q)) := below_drewN (Below.refl _ _) _
    by_cases hlt : k < n ∧ k < n2
    · obtain ⟨hlt1, hlt2⟩ := hlt
      obtain ⟨x, hx⟩ := lget_some l k (by rw [← HN.out]; exact hlt1)
      obtain ⟨y, hy⟩ := lget_some m k (by rw [← HN2.out]; exact hlt2)
      obtain ⟨b, o, ha, hcl⟩ := HP.out (by omega)
      obtain ⟨b2, o2, ha2, hcl2⟩ := HP2.out (by omega)
      subst ha ha2
      have a0 : w.cell? ⟨b, o + k, none⟩ = some (.int .i64 x) := hcl _ _ (numCells_at l k x hx)
      have b0 : w.cell? ⟨b2, o2 + k, none⟩ = some (.int .i64 y) := hcl2 _ _ (numCells_at m k y hy)
      have HS : Hid (cmpInts (l.drop k) (m.drop k) = if x < y then -1 else if y < x then 1 else cmpInts (l.drop (k + 1)) (m.drop (k + 1))) := by rw [drop_get hx, drop_get hy]; exact Lib.hid rfl
      clear hcl hcl2 hx hy
      by_cases h1 : x < y
      · go_wp2_with fail
        go_quiet (fail)
        go_wp2_with fail
        go_ret
        exact ⟨ret_int (by rw [← HR.out, HS.out, if_pos h1]), below_drewN HB.out _⟩
      · by_cases h2 : y < x
        · go_wp2_with fail
          go_quiet (fail)
          go_wp2_with fail
          go_quiet (fail)
          go_wp2_with fail
          go_ret
          exact ⟨ret_int (by rw [← HR.out, HS.out, if_neg (by omega), if_pos h2]), below_drewN (below_drewN HB.out _) _⟩
        · go_wp2_with fail
          go_quiet (fail)
          go_wp2_with fail
          go_quiet (fail)
          go_wp2_with fail
          go_roundw
          case rel => exact ⟨k + 1, by omega, by omega, by go_num, (by show _ = _; rw [← HR.out, HS.out, if_neg (by omega), if_neg (by omega)]), _, rfl⟩
          case measure => simp [intOf]; omega
    · by_cases h1 : k < n
      · have hkn : k = n2 := by omega
        subst hkn
        have HS : Hid (cmpInts l m = 1) := by
          show _ = _
          obtain ⟨x, hx⟩ := lget_some l k (by rw [← HN.out]; exact h1)
          rw [← HR.out, drop_get hx, List.drop_of_length_le (l := m) (by rw [← HN2.out]; omega)]; rfl
        go_wp2_with fail
        go_ret
        exact ⟨ret_int (by rw [HS.out]), HB.out⟩
      · have hkn : k = n := by omega
        subst hkn
        by_cases h2 : k < n2
        · have HS : Hid (cmpInts l m = -1) := by
            show _ = _
            obtain ⟨y, hy⟩ := lget_some m k (by rw [← HN2.out]; exact h2)
            rw [← HR.out, drop_get hy, List.drop_of_length_le (l := l) (by rw [← HN.out]; omega)]; rfl
          go_wp2_with fail
          go_ret
          exact ⟨ret_int (by rw [HS.out]), HB.out⟩
        · have hkn2 : n2 = k := by omega
          subst hkn2
          have HS : Hid (cmpInts l m = 0) := by
            show _ = _
            rw [← HR.out, List.drop_of_length_le (l := l) (by rw [← HN.out]; omega), List.drop_of_length_le (l := m) (by rw [← HN2.out]; omega)]; rfl
          go_wp2_with fail
          go_ret
          exact ⟨ret_int (by rw [HS.out]), HB.out⟩
end Go.Proofs.Ytngigmpaabmngaa

namespace Go.Proofs.Ytngigmpaabmngaa
open Go.RowKit Go.Lib Go.Shelf

set_option maxHeartbeats 1000000 in
theorem refRow_any (v u : Value) (lo hi : Int) (w : World) (a b : Option Addr) (n c m d : Nat) (hv : v = .slice a n c) (hu : u = .slice b m d) :
    Calls Try.prog 11 #[.agg #[v, .int .i64 lo, .int .i64 hi, u]] w fun e w' => e = .returned (.agg #[v, u]) ∧ Below w.heap.size w w' := by
  subst hv hu
  go_enter Try.func11, Try.ntmps11
  go_wp2
  refine bodyPost_ret (v := .agg #[.slice a n c, .slice b m d]) ?_ rfl ⟨rfl, below_alloc_two w _ _⟩
  simp [results, Try.results11, go_sem]


def sameRowL (l l2 : List GVal) (m m2 : List Int) : Bool := decide (cmpRows l l2 = 0) && decide (cmpInts m m2 = 0)
set_option maxHeartbeats 2000000 in
theorem sameRow_any (v u v2 u2 : Value) (l l2 : List GVal) (m m2 : List Int) (w : World) (hv : Reads w 3 v l.length (valCells l)) (hu : Reads w 1 u m.length (numCells m)) (hv2 : Reads w 3 v2 l2.length (valCells l2)) (hu2 : Reads w 1 u2 m2.length (numCells m2)) :
    Calls Try.prog 10 #[.agg #[v, u], .agg #[v2, u2]] w fun e w' => e = .returned (.bool (sameRowL l l2 m m2)) ∧ Below w.heap.size w w' := by
  obtain ⟨a, c, rfl⟩ := reads_shape hv
  obtain ⟨b, d, rfl⟩ := reads_shape hu
  obtain ⟨a2, c2, rfl⟩ := reads_shape hv2
  obtain ⟨b2, d2, rfl⟩ := reads_shape hu2
  have HV := Lib.hid hv
  have HU := Lib.hid hu
  have HV2 := Lib.hid hv2
  have HU2 := Lib.hid hu2
  clear hv hu hv2 hu2
  obtain ⟨r, hr⟩ : ∃ r, r = cmpRows l l2 := ⟨_, rfl⟩
  obtain ⟨r2, hr2⟩ : ∃ r, r = cmpInts m m2 := ⟨_, rfl⟩
  have HR : Hid (sameRowL l l2 m m2 = (decide (r = 0) && decide (r2 = 0))) := by show _ = _; rw [hr, hr2]; rfl
  have HR1 := Lib.hid hr
  have HR2 := Lib.hid hr2
  clear hr hr2
  go_enter Try.func10, Try.ntmps10
  go_wp2_with fail
  have hb1 : Below w.heap.size w ((w.alloc (.cells #[.slice a l.length c, .slice b m.length d] 40)).alloc (.cells #[.slice a2 l2.length c2, .slice b2 m2.length d2] 40)) := below_alloc_two w _ _
  refine (cmpRows_any _ _ l l2 _ (HV.out.below hb1) (HV2.out.below hb1)).mono ?_
  rw [← HR1.out]
  rintro e w1 ⟨rfl, hb2⟩
  obtain ⟨x0, x1, x2, x3⟩ := box_two (box_kept (heap_alloc_old' w _ _) hb2)
  obtain ⟨y0, y1, y2, y3⟩ := box_two (box_kept (heap_alloc_new' w _ _) hb2)
  have HB : Hid (Below w.heap.size w w1) := hb1.trans (hb2.mono hb1.size)
  clear hb1 hb2
  by_cases h0 : r = 0
  · subst h0
    go_wp2_with fail
    refine (cmpInts_any _ _ m m2 _ (HU.out.below HB.out) (HU2.out.below HB.out)).mono ?_
    rw [← HR2.out]
    rintro e w2 ⟨rfl, hb3⟩
    have HB3 : Hid (Below w.heap.size w w2) := HB.out.trans (hb3.mono HB.out.size)
    clear hb3
    go_wp2_with fail
    go_ret
    exact ⟨ret_bool (by rw [HR.out]; by_cases h2 : r2 = 0 <;> simp [h2]), HB3.out⟩
  · have hne : (r == 0) = false := by simpa using h0
    go_wp2_with fail
    go_ret
    exact ⟨ret_bool (by rw [HR.out]; simp [h0]), HB.out⟩
end Go.Proofs.Ytngigmpaabmngaa

namespace Go.Proofs.Ytngigmpaabmngaa
open Go.RowKit Go.Lib Go.Shelf

theorem per_held : Try.prog.stoodInHeld 29 = false := by kernel_rfl
theorem per_guard : Try.prog.eqGuardType Try.prog.depth 29 = false := by kernel_rfl
theorem per_fields : Try.prog.underlying 29 = some (.struct (Try.prog.fieldsOf 29)) := by kernel_rfl
theorem per_eqIn (d : Nat) (k p k' p' : Int) (w : World) :
    (Op.equalIn (d + 2) 29 (.agg #[.int .i64 k, .int .i64 p]) (.agg #[.int .i64 k', .int .i64 p'])).run Try.prog w = .ok (k == k' && p == p') w := by
  rw [run_equalIn_struct w _ _ _ _ per_fields per_held]
  simp [go_sem]
  by_cases h1 : k = k' <;> by_cases h2 : p = p' <;> simp [*]
theorem per_eql (k p k' p' : Int) (w : World) :
    (binOp .eql 29 (.agg #[.int .i64 k, .int .i64 p]) (.agg #[.int .i64 k', .int .i64 p'])).run Try.prog w = .ok (.bool (k == k' && p == p')) w := by
  rw [run_eql_struct, per_eqIn]; rfl
theorem per_neq (k p k' p' : Int) (w : World) :
    (binOp .neq 29 (.agg #[.int .i64 k, .int .i64 p]) (.agg #[.int .i64 k', .int .i64 p'])).run Try.prog w = .ok (.bool !(k == k' && p == p')) w := by
  rw [run_neq_struct, per_eqIn]; rfl
def sameTup (a b : Tup) : Bool := (a.lo == b.lo && a.hi == b.hi) && sameRowL a.vals b.vals a.lin b.lin
def sameTups : List Tup → List Tup → Bool
  | [], [] => true
  | a :: l, b :: m => sameTup a b && sameTups l m
  | _, _ => false
end Go.Proofs.Ytngigmpaabmngaa

namespace Go.Proofs.Ytngigmpaabmngaa
open Go.RowKit Go.Lib Go.Shelf

set_option maxHeartbeats 4000000 in
set_option maxRecDepth 100000 in
theorem sameTups_len (n : Nat) (a a2 : Option Addr) (c c2 : Nat) (l m : List Tup) (w : World) (hl : l.length = n) (hm : m.length = n)
    (hp : Tups w (.slice a n c) l) (hp2 : Tups w (.slice a2 n c2) m) :
    Calls Try.prog 6 #[.slice a n c, .slice a2 n c2] w fun e w' => e = .returned (.bool (sameTups l m)) ∧ Below w.heap.size w w' := by
  have h63 : n ≤ 9223372036854775807 := hl ▸ hp.1
  have HP := Lib.hid hp
  have HP2 := Lib.hid hp2
  have HL := Lib.hid hl
  have HM := Lib.hid hm
  clear hp hp2 hl hm
  go_enter Try.func6, Try.ntmps6
  go_wp2_with fail
  go_loopw [5] (fun i wr => ∃ k : Nat, k ≤ n ∧ i = .int .i64 k ∧ Hid (sameTups (l.drop k) (m.drop k) = sameTups l m) ∧ Below w.heap.size w wr) (fun i _ => n - (intOf i).toNat)
  case atStart => exact ⟨0, Nat.zero_le _, rfl, Lib.hid rfl, Below.refl _ _⟩
  case round =>
    obtain ⟨k, hk, rfl, HR, hB⟩ := hrel
    by_cases hlt : k < n
    · obtain ⟨x, hx⟩ := lget_some l k (by rw [HL.out]; exact hlt)
      obtain ⟨y, hy⟩ := lget_some m k (by rw [HM.out]; exact hlt)
      obtain ⟨b, o, a1, n1, e1, m1, rfl, hv1, hu1, p0, p1, p2, p3⟩ := tups_at HP.out hx
      obtain ⟨b2, o2, a2, n2, e2, m2, rfl, hv2, hu2, q0, q1, q2, q3⟩ := tups_at HP2.out hy
      replace p0 := cell_keep hB p0
      replace p1 := cell_keep hB p1
      replace p2 := cell_keep hB p2
      replace p3 := cell_keep hB p3
      replace q0 := cell_keep hB q0
      replace q1 := cell_keep hB q1
      replace q2 := cell_keep hB q2
      replace q3 := cell_keep hB q3
      have HS : Hid (sameTups (l.drop k) (m.drop k) = (sameTup x y && sameTups (l.drop (k + 1)) (m.drop (k + 1)))) := by rw [drop_get hx, drop_get hy]; exact Lib.hid rfl
      have HV1 := Lib.hid hv1
      have HV2 := Lib.hid hv2
      have HU1 := Lib.hid hu1
      have HU2 := Lib.hid hu2
      have hgd := per_guard
      have heq : ∀ W : World, (binOp .neq 29 (.agg #[.int .i64 x.lo, .int .i64 x.hi]) (.agg #[.int .i64 y.lo, .int .i64 y.hi])).run Try.prog W = .ok (.bool !(x.lo == y.lo && x.hi == y.hi)) W := per_neq _ _ _ _
      clear hx hy hv1 hv2 hu1 hu2
      cases hper : (x.lo == y.lo && x.hi == y.hi)
      · have HPER := Lib.hid hper
        rw [hper, Bool.not_false] at heq
        clear hper
        have HF : Hid (sameTups l m = false) := by show _ = _; rw [← HR.out, HS.out, sameTup, HPER.out]; rfl
        go_wp2_with fail
        go_quiet (fail)
        go_wp2_with fail
        go_ret
        exact ⟨ret_bool (by rw [HF.out]), below_drewN hB _⟩
      · have HPER := Lib.hid hper
        rw [hper, Bool.not_true] at heq
        clear hper
        have HT : Hid (sameTups l m = (sameRowL x.vals y.vals x.lin y.lin && sameTups (l.drop (k + 1)) (m.drop (k + 1)))) := by show _ = _; rw [← HR.out, HS.out, sameTup, HPER.out]; rfl
        obtain ⟨r, hr⟩ : ∃ r, r = sameRowL x.vals y.vals x.lin y.lin := ⟨_, rfl⟩
        have HRR := Lib.hid hr
        rw [← hr] at HT
        clear hr
        go_wp2_with fail
        go_region_held3 (fun W => Below w.heap.size w W ∧ W.cell? ⟨b, o + k * 4, none⟩ = some (.slice a1 x.vals.length n1) ∧ W.cell? ⟨b, o + k * 4 + 1, none⟩ = some (.int .i64 x.lo) ∧ W.cell? ⟨b, o + k * 4 + 2, none⟩ = some (.int .i64 x.hi) ∧ W.cell? ⟨b, o + k * 4 + 3, none⟩ = some (.slice e1 x.lin.length m1)
            ∧ W.cell? ⟨b2, o2 + k * 4, none⟩ = some (.slice a2 y.vals.length n2) ∧ W.cell? ⟨b2, o2 + k * 4 + 1, none⟩ = some (.int .i64 y.lo) ∧ W.cell? ⟨b2, o2 + k * 4 + 2, none⟩ = some (.int .i64 y.hi) ∧ W.cell? ⟨b2, o2 + k * 4 + 3, none⟩ = some (.slice e2 y.lin.length m2))
          ((go_split_ands; refine ⟨?_, ?_, ?_, ?_, ?_, ?_, ?_, ?_, ?_⟩ <;> (first | assumption | exact Below.drew (by assumption) | exact cell_drew (by assumption) | exact below_keep (by assumption) (by assumption) | exact cell_keep (by assumption) (by assumption))))
          (first
            | (go_at_call 11; (with_reducible refine (refRow_any _ _ _ _ _ _ _ _ _ _ _ rfl rfl).mono ?_); rintro e w3 ⟨rfl, hb3⟩)
            | (go_at_call 10; go_split_ands; refine (sameRow_any _ _ _ _ x.vals y.vals x.lin y.lin _ (HV1.out.below (by assumption)).vals (HU1.out.below (by assumption)).ints (HV2.out.below (by assumption)).vals (HU2.out.below (by assumption)).ints).mono ?_; rw [← HRR.out]; rintro e w3 ⟨rfl, hb3⟩))
        go_split_ands
        cases hrb : r
        · have HF : Hid (sameTups l m = false) := by show _ = _; rw [HT.out, hrb]; rfl
          go_wp2_with fail
          go_ret
          exact ⟨ret_bool (by rw [HF.out]), by assumption⟩
        · have HF : Hid (sameTups (l.drop (k + 1)) (m.drop (k + 1)) = sameTups l m) := by show _ = _; rw [HT.out, hrb]; rfl
          go_wp2_with fail
          go_roundw
          case rel => exact ⟨k + 1, by omega, by go_num, HF, by assumption⟩
          case measure => simp [intOf]; omega
    · go_wp2_with fail
      go_ret
      exact ⟨ret_bool (by rw [← HR.out, List.drop_of_length_le (by rw [HL.out]; omega), List.drop_of_length_le (l := m) (by rw [HM.out]; omega)]; rfl), hB⟩
theorem sameTups_ne (l m : List Tup) (h : l.length ≠ m.length) : sameTups l m = false := by
  induction l generalizing m with
  | nil => cases m with
    | nil => simp at h
    | cons => rfl
  | cons x l ih => cases m with
    | nil => rfl
    | cons y m => rw [sameTups, ih m (by simpa using h), Bool.and_false]
set_option maxHeartbeats 1000000 in
theorem sameTups_any (v u : Value) (l m : List Tup) (w : World) (hp : Tups w v l) (hp2 : Tups w u m) :
    Calls Try.prog 6 #[v, u] w fun e w' => e = .returned (.bool (sameTups l m)) ∧ Below w.heap.size w w' := by
  obtain ⟨a, c, rfl⟩ := hp.shape
  obtain ⟨a2, c2, rfl⟩ := hp2.shape
  by_cases hlen : l.length = m.length
  · rw [← hlen] at hp2 ⊢
    exact sameTups_len l.length a a2 c c2 l m w rfl hlen.symm hp hp2
  · have hne : ((l.length : Int) != (m.length : Int)) = true := by simpa using fun h => hlen (by omega)
    have HF : Hid (sameTups l m = false) := sameTups_ne l m hlen
    clear hp hp2 hlen
    go_enter Try.func6, Try.ntmps6
    go_wp2_with fail
    go_ret
    exact ⟨ret_bool (by rw [HF.out]), Below.refl _ _⟩
end Go.Proofs.Ytngigmpaabmngaa

namespace Go.Proofs.Ytngigmpaabmngaa
open Go.RowKit Go.Lib

/-- One tuple from 'lo' on, cut at these points, which ascend. -/
def cutAt (vals : List GVal) (lin : List Int) (hi : Int) : Int → List Int → List Tup
  | lo, [] => [⟨vals, lo, hi, lin⟩]
  | lo, p :: ps => if hi ≤ p then [⟨vals, lo, hi, lin⟩] else if lo < p then ⟨vals, lo, p, lin⟩ :: cutAt vals lin hi p ps else cutAt vals lin hi lo ps
def splitOne (ps : List Int) (t : Tup) : List Tup := if pvalid t.lo t.hi = true then cutAt t.vals t.lin t.hi t.lo (ps.drop (ps.countP (· < t.lo + 1))) else []
def splitAt (l : List Tup) (points : List Int) : List Tup := l.flatMap (splitOne (srt points))
theorem cutAt_length (vals : List GVal) (lin : List Int) (hi : Int) (ps : List Int) : ∀ lo, (cutAt vals lin hi lo ps).length ≤ ps.length + 1 := by
  induction ps with
  | nil => intro lo; simp [cutAt]
  | cons p ps ih =>
    intro lo
    rw [cutAt]
    split
    · simp
    · split
      · have := ih p; simp; omega
      · have := ih lo; simp; omega
theorem splitOne_length (ps : List Int) (t : Tup) : (splitOne ps t).length ≤ ps.length + 1 := by
  unfold splitOne
  split
  · exact Nat.le_trans (cutAt_length _ _ _ _ _) (by rw [List.length_drop]; omega)
  · simp
theorem flatMap_len_le {α β : Type} (f : α → List β) (m : Nat) (hf : ∀ x, (f x).length ≤ m) (l : List α) : (l.flatMap f).length ≤ l.length * m := by
  induction l with
  | nil => simp
  | cons a l ih => rw [List.flatMap_cons, List.length_append, List.length_cons, Nat.add_mul, Nat.one_mul]; have := hf a; omega
theorem splitAt_length (l : List Tup) (points : List Int) : (splitAt l points).length ≤ l.length * (points.length + 1) := by
  have h : (srt points).length = points.length := List.length_mergeSort _
  rw [← h]
  exact flatMap_len_le _ _ (splitOne_length _) l
theorem splitAt_snoc (l : List Tup) (points : List Int) (k : Nat) (t : Tup) (h : l[k]? = some t) : splitAt (l.take (k + 1)) points = splitAt (l.take k) points ++ splitOne (srt points) t := by
  rw [take_get h, splitAt, List.flatMap_append]; simp [splitAt]
theorem splitAt_take_length (l : List Tup) (points : List Int) (k : Nat) : (splitAt (l.take k) points).length ≤ l.length * (points.length + 1) :=
  Nat.le_trans (splitAt_length _ _) (Nat.mul_le_mul_right _ (List.length_take_le' _ _))
theorem srt_sorted (zs : List Int) : (srt zs).Pairwise (· ≤ ·) := by
  have := List.pairwise_mergeSort (le := fun x y : Int => decide (x ≤ y)) (fun a b c h1 h2 => by simp at *; omega) (fun a b => by simp; omega) zs
  exact this.imp (fun h => by simpa using h)
end Go.Proofs.Ytngigmpaabmngaa

namespace Go.Proofs.Ytngigmpaabmngaa
open Go.RowKit Go.Lib Go.Shelf

theorem bs_any (v : Value) (zs : List Int) (x : Int) (w : World) (hr : Reads w 1 v zs.length (numCells zs)) (hs : zs.Pairwise (· ≤ ·)) (hbig : zs.length ≤ 1000000000) :
    Calls Try.prog 19 #[v, .int .i64 x] w fun e w' => e = .returned (.tuple #[.int .i64 (zs.countP (· < x) : Nat), .bool (zs.contains x)]) ∧ ∃ q, w' = w.drewN q := by
  obtain ⟨_, _, a, c, rfl, _, hp⟩ := hr
  rcases Nat.eq_zero_or_pos zs.length with hz | hz
  · have : zs = [] := List.eq_nil_of_length_eq_zero hz
    subst this
    refine (sh_slices_BinarySearch_int_empty a c x w).mono ?_
    rintro e w' ⟨rfl, rfl⟩
    exact ⟨rfl, 0, rfl⟩
  · obtain ⟨b, o, rfl, hc⟩ := hp hz
    have := sh_slices_BinarySearch_int b o zs.length c zs x w (Nat.le_refl _) (by omega) (fun j hj => by
      rw [hc j _ (numCells_at zs j _ (List.getElem?_eq_getElem hj))]; simp [List.getD, List.getElem?_eq_getElem hj]) (by rw [List.take_length]; exact hs)
    rw [List.take_length] at this
    exact this

set_option maxHeartbeats 4000000 in
set_option maxRecDepth 100000 in
theorem splitAt_any (v u : Value) (l : List Tup) (ps : List Int) (w : World) (hv : Tups w v l) (hu : Sl intE w free u ps) (hsm : ∀ t ∈ l, t.vals.length ≤ 1000 ∧ t.lin.length ≤ 1000)
    (hsz : l.length * (ps.length + 1) ≤ 1000000000) (hps : ps.length ≤ 1000000000) :
    Calls Try.prog 9 #[v, u] w (RetOwn tupE w (splitAt l ps)) := by
  obtain ⟨a, c, rfl⟩ := hv.shape
  obtain ⟨a2, c2, rfl⟩ := hu.shape
  have HV := Lib.hid hv
  have HU := Lib.hid hu
  have HSM := Lib.hid hsm
  obtain ⟨n, hn⟩ : ∃ n, n = l.length := ⟨_, rfl⟩
  have HN := Lib.hid hn
  have h63 := hv.1
  rw [← hn] at h63 hsz HV ⊢
  clear hv hu hsm hn
  go_enter Try.func9, Try.ntmps9
  go_wp2_with fail
  refine (values_any _ a2 ps.length c2 rfl _).mono ?_
  rintro e w1 ⟨rfl, rfl⟩
  go_wp2_with fail
  have hb0 : Below w.heap.size w (w.alloc (.cells #[.slice a2 ps.length c2] 30)) := below_alloc _ _
  refine (sorted_any w.heap.size (.slice a2 ps.length c2) ps (by unfold maxLen; omega) (by omega) _ (by simp [go_sem]) (HU.out.ints.below hb0)).mono ?_
  rintro e w1 ⟨v1, rfl, hS, hb1⟩
  obtain ⟨q, hq⟩ : ∃ q, q = srt ps := ⟨_, rfl⟩
  have hql : q.length = ps.length := by rw [hq]; exact List.length_mergeSort _
  have hqs : q.Pairwise (· ≤ ·) := by rw [hq]; exact srt_sorted _
  rw [← hq, ← hql] at hS
  have HQ := Lib.hid hq
  have HQL := Lib.hid hql
  have HQS := Lib.hid hqs
  have hr1 : Reads w1 1 v1 q.length (numCells q) := own_reads hS
  obtain ⟨b1, c1, rfl⟩ := reads_shape hr1
  have HR1 := Lib.hid hr1
  have hB1 : Below w.heap.size w w1 := hb0.trans (hb1.mono hb0.size)
  clear hq hql hqs hS hb1 hb0 hr1
  go_wp2_with fail
  go_loopw [18, 5] (fun i o wr => ∃ k : Nat, k ≤ n ∧ i = .int .i64 k ∧ Own tupE wr w1.heap.size o (splitAt (l.take k) ps) ∧ Below w1.heap.size w1 wr) (fun i _ _ => n - (intOf i).toNat)
  case atStart => exact ⟨0, Nat.zero_le _, rfl, Own.nil _ _ _, Below.refl _ _⟩
  case round =>
    obtain ⟨k, hk, rfl, hO, hB⟩ := hrel
    obtain ⟨wo, rfl⟩ : ∃ wo : World, wo = wr := ⟨_, rfl⟩
    obtain ⟨oa, oc, rfl⟩ := hO.shape
    by_cases hlt : k < n
    · obtain ⟨x, hx⟩ := lget_some l k (by rw [← HN.out]; exact hlt)
      obtain ⟨b, o, a3, n3, e3, m3, rfl, hv1, hu1, p0, p1, p2, p3⟩ := tups_at HV.out hx
      replace p0 := cell_keep hB (cell_keep hB1 p0)
      replace p1 := cell_keep hB (cell_keep hB1 p1)
      replace p2 := cell_keep hB (cell_keep hB1 p2)
      replace p3 := cell_keep hB (cell_keep hB1 p3)
      have HX := Lib.hid hx
      clear hx
      go_wp2_with fail
      refine (pvalid_any _ _ _).mono ?_
      rintro e w2 ⟨rfl, hb2⟩
      have hbx := box_kept (World.alloc_heap_new wo (.cells #[.slice a3 x.vals.length n3, .int .i64 x.lo, .int .i64 x.hi, .slice e3 x.lin.length m3] 32)) hb2
      have hB2 : Below wo.heap.size wo w2 := below_alloc2' hb2
      have hz2 : wo.heap.size < w2.heap.size := (Array.getElem?_eq_some_iff.1 hbx).1
      have hO2 := hO.below hB2
      have hne2 : ∀ g, (Value.slice oa (splitAt (l.take k) ps).length oc).ownBlock = some g → g < wo.heap.size := fun g hg => (hO.lt g hg).2
      have hB2' : Below w1.heap.size w1 w2 := below_keep hB hB2
      clear hb2 p0 p1 p2 p3 hO hB2
      obtain ⟨⟨p0, p1, p2, p3⟩, f0, f1, f2, f3⟩ := box_four hbx
      have HBX := Lib.hid hbx
      clear hbx
      cases hval : pvalid x.lo x.hi
      · have HT : Hid (splitAt (l.take (k + 1)) ps = splitAt (l.take k) ps) := by show _ = _; rw [splitAt_snoc l ps k x HX.out, splitOne, hval]; simp
        clear hval
        go_wp2_with fail
        go_roundw
        case rel => exact ⟨k + 1, by omega, by go_num, by rw [HT.out]; exact hO2, hB2'⟩
        case measure => simp [intOf]; omega
      · have hv' : 0 ≤ x.lo ∧ x.lo < x.hi ∧ x.hi ≤ 1099511627776 := by simpa [pvalid] using hval
        obtain ⟨hv1', hv2', hv3'⟩ := hv'
        obtain ⟨j0, hj0⟩ : ∃ j0, j0 = q.countP (· < x.lo + 1) := ⟨_, rfl⟩
        have hj0l : j0 ≤ q.length := by rw [hj0]; exact List.countP_le_length
        have HT : Hid (splitAt (l.take (k + 1)) ps = splitAt (l.take k) ps ++ cutAt x.vals x.lin x.hi x.lo (q.drop j0)) := by show _ = _; rw [splitAt_snoc l ps k x HX.out, splitOne, hval, if_pos rfl, ← HQ.out, ← hj0]
        clear hval
        go_wp2_with fail
        refine (bs_any (.slice b1 q.length c1) q (x.lo + 1) _ (HR1.out.below hB2') HQS.out (by rw [HQL.out]; exact hps)).mono ?_
        rw [← hj0]
        rintro e w3 ⟨rfl, q3, rfl⟩
        clear hj0
        have hRd : Reads w1 1 (.slice (b1.map fun x => x.add j0) (q.length - j0) (c1 - j0)) (q.length - j0) (numCells (q.drop j0)) := by
          have := HR1.out.drop1 j0 hj0l
          rwa [show (numCells q).drop j0 = numCells (q.drop j0) by simp [numCells]] at this
        have hqd : (q.drop j0).length = q.length - j0 := List.length_drop
        obtain ⟨nq, hnq⟩ : ∃ nq, nq = q.length - j0 := ⟨_, rfl⟩
        have hnqb : nq ≤ 1000000000 := by have := HQL.out; omega
        obtain ⟨qs, hqs⟩ : ∃ qs, qs = q.drop j0 := ⟨_, rfl⟩
        rw [← hqs] at HT hRd hqd
        rw [← hnq] at hRd hqd
        have hn0 : c1 = j0 → nq = 0 := fun e => by
          have h1 : q.length ≤ c1 := by obtain ⟨_, _, _, _, e, h, _⟩ := HR1.out; cases e; exact h
          omega
        obtain ⟨B1', C1', HQD, HRq, HN0⟩ : ∃ (B1' : Option Addr) (C1' : Nat), Hid (qs.length = nq) ∧ Hid (Reads w1 1 (.slice B1' nq C1') nq (numCells qs)) ∧ Hid (B1' = (if c1 = j0 then b1 else b1.map fun x => x.add j0) ∧ C1' = c1 - j0 ∧ nq = q.length - j0) := by
          by_cases hcj : c1 = j0
          · have h0 := hn0 hcj
            subst h0
            refine ⟨b1, c1 - j0, hqd, ?_, by rw [if_pos hcj], rfl, hnq⟩
            have : qs = [] := List.eq_nil_of_length_eq_zero hqd
            subst this
            exact ⟨rfl, by omega, _, _, rfl, by omega, fun h => absurd h (by omega)⟩
          · exact ⟨_, _, hqd, hRd, by rw [if_neg hcj], rfl, hnq⟩
        obtain ⟨hs1, hs2⟩ := HSM.out x (List.mem_of_getElem? HX.out)
        have hTl : ∀ acc t, acc ++ [t] = splitAt (l.take (k + 1)) ps → acc.length < 1000000000 := fun acc t h => by
          have := splitAt_take_length l ps (k + 1)
          rw [← HN.out, ← h, List.length_append] at this
          simp at this; omega
        have hTl' : ∀ acc r, acc ++ r = splitAt (l.take (k + 1)) ps → acc.length ≤ 1000000000 := fun acc r h => by
          have := splitAt_take_length l ps (k + 1)
          rw [← HN.out, ← h, List.length_append] at this
          omega
        obtain ⟨tgt, htgt⟩ : ∃ tgt, tgt = splitAt (l.take (k + 1)) ps := ⟨_, rfl⟩
        have HTG := Lib.hid htgt
        rw [← htgt] at HT hTl hTl'
        have HTL := Lib.hid hTl
        have HTL' := Lib.hid hTl'
        clear hqd hnq hqs hRd hn0 htgt hTl hTl'
        have hbs2 : w1.heap.size ≤ w2.heap.size := hB2'.size
        by_cases hcj : c1 = j0
        · have hBB : B1' = b1 := by have := HN0.out.1; rwa [if_pos hcj] at this
          have hNN := HN0.out.2.2
          subst hBB
          subst hcj
          have HNN := Lib.hid hNN
          clear hNN
          go_wp2_with fail
          rw [← HNN.out]
          go_loopw [40, 8, 5] (fun i f o w4 => ∃ (j : Nat) (fr : Int) (acc : List Tup), j ≤ nq ∧ i = .int .i64 j ∧ f = .int .i64 fr ∧ x.lo ≤ fr ∧ fr < x.hi ∧ Own tupE w4 w1.heap.size o acc ∧ Hid (acc ++ cutAt x.vals x.lin x.hi fr (qs.drop j) = tgt) ∧ w4.heap[wo.heap.size]? = some (.cells #[.slice a3 x.vals.length n3, .int .i64 x.lo, .int .i64 x.hi, .slice e3 x.lin.length m3] 32) ∧ Below w1.heap.size w1 w4 ∧ some wo.heap.size ≠ o.ownBlock) (fun i _ _ _ => nq - (intOf i).toNat)
          case atStart => exact ⟨0, x.lo, _, Nat.zero_le _, rfl, rfl, Int.le_refl _, hv2', hO2.drewN _, HT.out.symm, HBX.out, below_drewN hB2' _, fun h => by have := hne2 _ h.symm; omega⟩
          case round =>
            obtain ⟨j, fr, acc, hj, rfl, rfl, hf1, hf2, hO4, HACC, hbx, hB4, hne⟩ := hrel
            obtain ⟨ob, oc4, rfl⟩ := hO4.shape
            obtain ⟨⟨p0, p1, p2, p3⟩, f0, f1, f2, f3⟩ := box_four hbx
            have HBX4 := Lib.hid hbx
            clear hbx
            by_cases hlt4 : j < nq
            · obtain ⟨y, hy⟩ := lget_some qs j (by rw [HQD.out]; exact hlt4)
              obtain ⟨_, _, A, cA, eA, _, hcA⟩ := HRq.out
              obtain ⟨bA, oA, eB, hcB⟩ := hcA (by omega)
              injection eA with eA _ _
              subst eA eB
              have hat := cell_keep hB4 (hcB _ _ (numCells_at qs j y hy))
              have HCUT : Hid (cutAt x.vals x.lin x.hi fr (qs.drop j) = if x.hi ≤ y then [⟨x.vals, fr, x.hi, x.lin⟩] else if fr < y then ⟨x.vals, fr, y, x.lin⟩ :: cutAt x.vals x.lin x.hi y (qs.drop (j + 1)) else cutAt x.vals x.lin x.hi fr (qs.drop (j + 1))) := by rw [drop_get hy]; exact Lib.hid rfl
              clear hcA hcB hy
              by_cases hge : x.hi ≤ y
              · have HFIN : Hid (acc ++ [⟨x.vals, fr, x.hi, x.lin⟩] = tgt) := by show _ = _; rw [← HACC.out, HCUT.out, if_pos hge]
                have hlen := HTL.out _ _ HFIN.out
                go_wp2_with fail
                go_region_held3 (fun W => Below w1.heap.size w1 W ∧ W.cell? ⟨wo.heap.size, 0, none⟩ = some (.slice a3 x.vals.length n3) ∧ W.cell? ⟨wo.heap.size, 1, none⟩ = some (.int .i64 x.lo) ∧ W.cell? ⟨wo.heap.size, 2, none⟩ = some (.int .i64 x.hi) ∧ W.cell? ⟨wo.heap.size, 3, none⟩ = some (.slice e3 x.lin.length m3))
                  ((go_split_ands; refine ⟨?_, ?_, ?_, ?_, ?_⟩ <;> (first | assumption | exact Below.drew (by assumption) | exact cell_drew (by assumption) | exact below_keep (by assumption) (by assumption) | exact cell_keep (by assumption) (by assumption) | exact below_alloc_keep (by assumption) | exact cell_alloc (by assumption) | exact Below.trans (by assumption) (Pushed.below (by assumption)) | exact Pushed.cell (by assumption) hne (by assumption))))
                  (first
                    | (go_at_call 14; (with_reducible refine (tupleRow_any _ _ _ _ _ _ _ _ _ _ _ rfl rfl).mono ?_); rintro e wR ⟨rfl, hbR⟩)
                    | (go_at_call 13; refine (during_any _ _ ⟨x.vals, fr, x.hi, x.lin⟩ _ (hv1.below (below_keep (below_keep hB1 hB4.drew) hbR)).vals (hu1.below (below_keep (below_keep hB1 hB4.drew) hbR)).ints hs1 hs2).mono ?_; rintro e wD hN; obtain ⟨a4, c4, b4, d4, rfl, his⟩ := hN.cells; have hbD := hN.below; clear hN)
                    | (refine step_push rfl _ _ 22 rfl tupE Try.underlying22 w1.heap.size (.slice ob acc.length oc4) acc rfl ((hO4.drew.below hbR).below hbD) [⟨x.vals, fr, x.hi, x.lin⟩] #[.slice a4 x.vals.length c4, .int .i64 fr, .int .i64 x.hi, .slice b4 x.lin.length d4] (Els.one (tupE.mono his (fun k _ hk => Nat.lt_of_lt_of_le (hO4.drew.lt k hk.symm).2 hbR.size))) 1 1 rfl rfl (by decide) (by unfold maxLen; omega) (by show _ * 64 ≤ _; omega) (Nat.le_trans (Nat.le_trans hB4.drew.size hbR.size) hbD.size) ?_; intro g cap w5 hP hPa))
                go_split_ands
                go_wp2_with fail
                go_roundw
                case rel => exact ⟨k + 1, by omega, by go_num, by rw [← HTG.out, ← HFIN.out]; exact hP.own' (by simp), by assumption⟩
                case measure => simp [intOf]; omega
              · have hl := HTL'.out _ _ HACC.out
                by_cases hgt : fr < y
                · have HNX : Hid ((acc ++ [⟨x.vals, fr, y, x.lin⟩]) ++ cutAt x.vals x.lin x.hi y (qs.drop (j + 1)) = tgt) := by show _ = _; rw [← HACC.out, HCUT.out, if_neg hge, if_pos hgt, List.append_assoc]; rfl
                  go_wp2_with (first | (go_at_call 14; (with_reducible refine (tupleRow_any _ _ _ _ _ _ _ _ _ _ _ rfl rfl).mono ?_); rintro e wR ⟨rfl, hbR⟩) | (go_at_call 13; refine (during_any _ _ ⟨x.vals, fr, y, x.lin⟩ _ (hv1.below (below_keep (below_keep hB1 hB4) hbR)).vals (hu1.below (below_keep (below_keep hB1 hB4) hbR)).ints hs1 hs2).mono ?_; rintro e wD hN; obtain ⟨a4, c4, b4, d4, rfl, his⟩ := hN.cells; have hbD := hN.below; clear hN) | (at_builtin; (refine wpList_push rfl _ _ 22 rfl tupE Try.underlying22 w1.heap.size (.slice ob acc.length oc4) acc rfl ((hO4.below hbR).below hbD) [⟨x.vals, fr, y, x.lin⟩] #[.slice a4 x.vals.length c4, .int .i64 fr, .int .i64 y, .slice b4 x.lin.length d4] (Els.one (tupE.mono his (fun k _ hk => Nat.lt_of_lt_of_le (hO4.lt k hk.symm).2 hbR.size))) 1 1 rfl rfl (by decide) (by unfold maxLen; omega) (by show _ * 64 ≤ _; omega) (Nat.le_trans (Nat.le_trans hB4.size hbR.size) hbD.size) ?_; intro g cap w5 hP hPa)))
                  go_roundw
                  case rel => exact ⟨j + 1, y, _, by omega, by go_num, rfl, by omega, by omega, hP.own' (by simp), HNX, hP.block hne (box_kept (box_kept HBX4.out hbR) hbD), hB4.trans (((hbR.mono hB4.size).trans (hbD.mono (Nat.le_trans hB4.size hbR.size))).trans hP.below), hP.ne' hne (box_kept (box_kept HBX4.out hbR) hbD)⟩
                  case measure => simp [intOf]; omega
                · have HNX : Hid (acc ++ cutAt x.vals x.lin x.hi fr (qs.drop (j + 1)) = tgt) := by show _ = _; rw [← HACC.out, HCUT.out, if_neg hge, if_neg hgt]
                  go_wp2_with fail
                  go_roundw
                  case rel => exact ⟨j + 1, fr, _, by omega, by go_num, rfl, hf1, hf2, hO4, HNX, HBX4.out, hB4, hne⟩
                  case measure => simp [intOf]; omega
            · have HFIN : Hid (acc ++ [⟨x.vals, fr, x.hi, x.lin⟩] = tgt) := by show _ = _; rw [← HACC.out, List.drop_of_length_le (by rw [HQD.out]; omega)]; rfl
              have hlen := HTL.out _ _ HFIN.out
              go_wp2_with fail
              go_region_held3 (fun W => Below w1.heap.size w1 W ∧ W.cell? ⟨wo.heap.size, 0, none⟩ = some (.slice a3 x.vals.length n3) ∧ W.cell? ⟨wo.heap.size, 1, none⟩ = some (.int .i64 x.lo) ∧ W.cell? ⟨wo.heap.size, 2, none⟩ = some (.int .i64 x.hi) ∧ W.cell? ⟨wo.heap.size, 3, none⟩ = some (.slice e3 x.lin.length m3))
                ((go_split_ands; refine ⟨?_, ?_, ?_, ?_, ?_⟩ <;> (first | assumption | exact Below.drew (by assumption) | exact cell_drew (by assumption) | exact below_keep (by assumption) (by assumption) | exact cell_keep (by assumption) (by assumption) | exact below_alloc_keep (by assumption) | exact cell_alloc (by assumption) | exact Below.trans (by assumption) (Pushed.below (by assumption)) | exact Pushed.cell (by assumption) hne (by assumption))))
                (first
                  | (go_at_call 14; (with_reducible refine (tupleRow_any _ _ _ _ _ _ _ _ _ _ _ rfl rfl).mono ?_); rintro e wR ⟨rfl, hbR⟩)
                  | (go_at_call 13; refine (during_any _ _ ⟨x.vals, fr, x.hi, x.lin⟩ _ (hv1.below (below_keep (below_keep hB1 hB4.drew) hbR)).vals (hu1.below (below_keep (below_keep hB1 hB4.drew) hbR)).ints hs1 hs2).mono ?_; rintro e wD hN; obtain ⟨a4, c4, b4, d4, rfl, his⟩ := hN.cells; have hbD := hN.below; clear hN)
                  | (refine step_push rfl _ _ 22 rfl tupE Try.underlying22 w1.heap.size (.slice ob acc.length oc4) acc rfl ((hO4.drew.below hbR).below hbD) [⟨x.vals, fr, x.hi, x.lin⟩] #[.slice a4 x.vals.length c4, .int .i64 fr, .int .i64 x.hi, .slice b4 x.lin.length d4] (Els.one (tupE.mono his (fun k _ hk => Nat.lt_of_lt_of_le (hO4.drew.lt k hk.symm).2 hbR.size))) 1 1 rfl rfl (by decide) (by unfold maxLen; omega) (by show _ * 64 ≤ _; omega) (Nat.le_trans (Nat.le_trans hB4.drew.size hbR.size) hbD.size) ?_; intro g cap w5 hP hPa))
              go_split_ands
              go_wp2_with fail
              go_roundw
              case rel => exact ⟨k + 1, by omega, by go_num, by rw [← HTG.out, ← HFIN.out]; exact hP.own' (by simp), by assumption⟩
              case measure => simp [intOf]; omega
        · have hBB : B1' = b1.map fun x => x.add j0 := by have := HN0.out.1; rwa [if_neg hcj] at this
          have hNN := HN0.out.2.2
          have HBB := Lib.hid hBB
          have HNN := Lib.hid hNN
          clear hBB hNN
          go_wp2_with fail
          rw [← HBB.out, ← HNN.out]
          go_loopw [40, 8, 5] (fun i f o w4 => ∃ (j : Nat) (fr : Int) (acc : List Tup), j ≤ nq ∧ i = .int .i64 j ∧ f = .int .i64 fr ∧ x.lo ≤ fr ∧ fr < x.hi ∧ Own tupE w4 w1.heap.size o acc ∧ Hid (acc ++ cutAt x.vals x.lin x.hi fr (qs.drop j) = tgt) ∧ w4.heap[wo.heap.size]? = some (.cells #[.slice a3 x.vals.length n3, .int .i64 x.lo, .int .i64 x.hi, .slice e3 x.lin.length m3] 32) ∧ Below w1.heap.size w1 w4 ∧ some wo.heap.size ≠ o.ownBlock) (fun i _ _ _ => nq - (intOf i).toNat)
          case atStart => exact ⟨0, x.lo, _, Nat.zero_le _, rfl, rfl, Int.le_refl _, hv2', hO2.drewN _, HT.out.symm, HBX.out, below_drewN hB2' _, fun h => by have := hne2 _ h.symm; omega⟩
          case round =>
            obtain ⟨j, fr, acc, hj, rfl, rfl, hf1, hf2, hO4, HACC, hbx, hB4, hne⟩ := hrel
            obtain ⟨ob, oc4, rfl⟩ := hO4.shape
            obtain ⟨⟨p0, p1, p2, p3⟩, f0, f1, f2, f3⟩ := box_four hbx
            have HBX4 := Lib.hid hbx
            clear hbx
            by_cases hlt4 : j < nq
            · obtain ⟨y, hy⟩ := lget_some qs j (by rw [HQD.out]; exact hlt4)
              obtain ⟨_, _, A, cA, eA, _, hcA⟩ := HRq.out
              obtain ⟨bA, oA, eB, hcB⟩ := hcA (by omega)
              injection eA with eA _ _
              subst eA eB
              have hat := cell_keep hB4 (hcB _ _ (numCells_at qs j y hy))
              have HCUT : Hid (cutAt x.vals x.lin x.hi fr (qs.drop j) = if x.hi ≤ y then [⟨x.vals, fr, x.hi, x.lin⟩] else if fr < y then ⟨x.vals, fr, y, x.lin⟩ :: cutAt x.vals x.lin x.hi y (qs.drop (j + 1)) else cutAt x.vals x.lin x.hi fr (qs.drop (j + 1))) := by rw [drop_get hy]; exact Lib.hid rfl
              clear hcA hcB hy
              by_cases hge : x.hi ≤ y
              · have HFIN : Hid (acc ++ [⟨x.vals, fr, x.hi, x.lin⟩] = tgt) := by show _ = _; rw [← HACC.out, HCUT.out, if_pos hge]
                have hlen := HTL.out _ _ HFIN.out
                go_wp2_with fail
                go_region_held3 (fun W => Below w1.heap.size w1 W ∧ W.cell? ⟨wo.heap.size, 0, none⟩ = some (.slice a3 x.vals.length n3) ∧ W.cell? ⟨wo.heap.size, 1, none⟩ = some (.int .i64 x.lo) ∧ W.cell? ⟨wo.heap.size, 2, none⟩ = some (.int .i64 x.hi) ∧ W.cell? ⟨wo.heap.size, 3, none⟩ = some (.slice e3 x.lin.length m3))
                  ((go_split_ands; refine ⟨?_, ?_, ?_, ?_, ?_⟩ <;> (first | assumption | exact Below.drew (by assumption) | exact cell_drew (by assumption) | exact below_keep (by assumption) (by assumption) | exact cell_keep (by assumption) (by assumption) | exact below_alloc_keep (by assumption) | exact cell_alloc (by assumption) | exact Below.trans (by assumption) (Pushed.below (by assumption)) | exact Pushed.cell (by assumption) hne (by assumption))))
                  (first
                    | (go_at_call 14; (with_reducible refine (tupleRow_any _ _ _ _ _ _ _ _ _ _ _ rfl rfl).mono ?_); rintro e wR ⟨rfl, hbR⟩)
                    | (go_at_call 13; refine (during_any _ _ ⟨x.vals, fr, x.hi, x.lin⟩ _ (hv1.below (below_keep (below_keep hB1 hB4.drew) hbR)).vals (hu1.below (below_keep (below_keep hB1 hB4.drew) hbR)).ints hs1 hs2).mono ?_; rintro e wD hN; obtain ⟨a4, c4, b4, d4, rfl, his⟩ := hN.cells; have hbD := hN.below; clear hN)
                    | (refine step_push rfl _ _ 22 rfl tupE Try.underlying22 w1.heap.size (.slice ob acc.length oc4) acc rfl ((hO4.drew.below hbR).below hbD) [⟨x.vals, fr, x.hi, x.lin⟩] #[.slice a4 x.vals.length c4, .int .i64 fr, .int .i64 x.hi, .slice b4 x.lin.length d4] (Els.one (tupE.mono his (fun k _ hk => Nat.lt_of_lt_of_le (hO4.drew.lt k hk.symm).2 hbR.size))) 1 1 rfl rfl (by decide) (by unfold maxLen; omega) (by show _ * 64 ≤ _; omega) (Nat.le_trans (Nat.le_trans hB4.drew.size hbR.size) hbD.size) ?_; intro g cap w5 hP hPa))
                go_split_ands
                go_wp2_with fail
                go_roundw
                case rel => exact ⟨k + 1, by omega, by go_num, by rw [← HTG.out, ← HFIN.out]; exact hP.own' (by simp), by assumption⟩
                case measure => simp [intOf]; omega
              · have hl := HTL'.out _ _ HACC.out
                by_cases hgt : fr < y
                · have HNX : Hid ((acc ++ [⟨x.vals, fr, y, x.lin⟩]) ++ cutAt x.vals x.lin x.hi y (qs.drop (j + 1)) = tgt) := by show _ = _; rw [← HACC.out, HCUT.out, if_neg hge, if_pos hgt, List.append_assoc]; rfl
                  go_wp2_with (first | (go_at_call 14; (with_reducible refine (tupleRow_any _ _ _ _ _ _ _ _ _ _ _ rfl rfl).mono ?_); rintro e wR ⟨rfl, hbR⟩) | (go_at_call 13; refine (during_any _ _ ⟨x.vals, fr, y, x.lin⟩ _ (hv1.below (below_keep (below_keep hB1 hB4) hbR)).vals (hu1.below (below_keep (below_keep hB1 hB4) hbR)).ints hs1 hs2).mono ?_; rintro e wD hN; obtain ⟨a4, c4, b4, d4, rfl, his⟩ := hN.cells; have hbD := hN.below; clear hN) | (at_builtin; (refine wpList_push rfl _ _ 22 rfl tupE Try.underlying22 w1.heap.size (.slice ob acc.length oc4) acc rfl ((hO4.below hbR).below hbD) [⟨x.vals, fr, y, x.lin⟩] #[.slice a4 x.vals.length c4, .int .i64 fr, .int .i64 y, .slice b4 x.lin.length d4] (Els.one (tupE.mono his (fun k _ hk => Nat.lt_of_lt_of_le (hO4.lt k hk.symm).2 hbR.size))) 1 1 rfl rfl (by decide) (by unfold maxLen; omega) (by show _ * 64 ≤ _; omega) (Nat.le_trans (Nat.le_trans hB4.size hbR.size) hbD.size) ?_; intro g cap w5 hP hPa)))
                  go_roundw
                  case rel => exact ⟨j + 1, y, _, by omega, by go_num, rfl, by omega, by omega, hP.own' (by simp), HNX, hP.block hne (box_kept (box_kept HBX4.out hbR) hbD), hB4.trans (((hbR.mono hB4.size).trans (hbD.mono (Nat.le_trans hB4.size hbR.size))).trans hP.below), hP.ne' hne (box_kept (box_kept HBX4.out hbR) hbD)⟩
                  case measure => simp [intOf]; omega
                · have HNX : Hid (acc ++ cutAt x.vals x.lin x.hi fr (qs.drop (j + 1)) = tgt) := by show _ = _; rw [← HACC.out, HCUT.out, if_neg hge, if_neg hgt]
                  go_wp2_with fail
                  go_roundw
                  case rel => exact ⟨j + 1, fr, _, by omega, by go_num, rfl, hf1, hf2, hO4, HNX, HBX4.out, hB4, hne⟩
                  case measure => simp [intOf]; omega
            · have HFIN : Hid (acc ++ [⟨x.vals, fr, x.hi, x.lin⟩] = tgt) := by show _ = _; rw [← HACC.out, List.drop_of_length_le (by rw [HQD.out]; omega)]; rfl
              have hlen := HTL.out _ _ HFIN.out
              go_wp2_with fail
              go_region_held3 (fun W => Below w1.heap.size w1 W ∧ W.cell? ⟨wo.heap.size, 0, none⟩ = some (.slice a3 x.vals.length n3) ∧ W.cell? ⟨wo.heap.size, 1, none⟩ = some (.int .i64 x.lo) ∧ W.cell? ⟨wo.heap.size, 2, none⟩ = some (.int .i64 x.hi) ∧ W.cell? ⟨wo.heap.size, 3, none⟩ = some (.slice e3 x.lin.length m3))
                ((go_split_ands; refine ⟨?_, ?_, ?_, ?_, ?_⟩ <;> (first | assumption | exact Below.drew (by assumption) | exact cell_drew (by assumption) | exact below_keep (by assumption) (by assumption) | exact cell_keep (by assumption) (by assumption) | exact below_alloc_keep (by assumption) | exact cell_alloc (by assumption) | exact Below.trans (by assumption) (Pushed.below (by assumption)) | exact Pushed.cell (by assumption) hne (by assumption))))
                (first
                  | (go_at_call 14; (with_reducible refine (tupleRow_any _ _ _ _ _ _ _ _ _ _ _ rfl rfl).mono ?_); rintro e wR ⟨rfl, hbR⟩)
                  | (go_at_call 13; refine (during_any _ _ ⟨x.vals, fr, x.hi, x.lin⟩ _ (hv1.below (below_keep (below_keep hB1 hB4.drew) hbR)).vals (hu1.below (below_keep (below_keep hB1 hB4.drew) hbR)).ints hs1 hs2).mono ?_; rintro e wD hN; obtain ⟨a4, c4, b4, d4, rfl, his⟩ := hN.cells; have hbD := hN.below; clear hN)
                  | (refine step_push rfl _ _ 22 rfl tupE Try.underlying22 w1.heap.size (.slice ob acc.length oc4) acc rfl ((hO4.drew.below hbR).below hbD) [⟨x.vals, fr, x.hi, x.lin⟩] #[.slice a4 x.vals.length c4, .int .i64 fr, .int .i64 x.hi, .slice b4 x.lin.length d4] (Els.one (tupE.mono his (fun k _ hk => Nat.lt_of_lt_of_le (hO4.drew.lt k hk.symm).2 hbR.size))) 1 1 rfl rfl (by decide) (by unfold maxLen; omega) (by show _ * 64 ≤ _; omega) (Nat.le_trans (Nat.le_trans hB4.drew.size hbR.size) hbD.size) ?_; intro g cap w5 hP hPa))
              go_split_ands
              go_wp2_with fail
              go_roundw
              case rel => exact ⟨k + 1, by omega, by go_num, by rw [← HTG.out, ← HFIN.out]; exact hP.own' (by simp), by assumption⟩
              case measure => simp [intOf]; omega
    · have HT : Hid (splitAt (l.take k) ps = splitAt l ps) := by show _ = _; rw [List.take_of_length_le (by rw [← HN.out]; omega)]
      go_wp2_with fail
      go_ret
      exact ⟨_, rfl, by rw [← HT.out]; exact hO.mono hB1.size, hB1.trans (hB.mono hB1.size)⟩
end Go.Proofs.Ytngigmpaabmngaa
