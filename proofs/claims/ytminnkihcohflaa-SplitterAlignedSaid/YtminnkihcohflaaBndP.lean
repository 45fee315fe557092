/- The end points of valid periods: what they come to. Of no program but for the form of a tuple. No condition. -/
import Derived.Test.YtminnkihcohflaaRSplP
import Derived.Lib.SlicesCompact
import Derived.Lib.RowBridge
namespace Go.Proofs.Ytminnkihcohflaa
open Go.RowKit Go.Lib

def ends (t : Tup) : List Int := if pvalid t.lo t.hi = true then [t.lo, t.hi] else []
def allEnds (l : List Tup) : List Int := l.flatMap ends
theorem ends_length (t : Tup) : (ends t).length ≤ 2 := by unfold ends; split <;> simp
theorem allEnds_length (l : List Tup) : (allEnds l).length ≤ l.length * 2 := flatMap_len_le _ _ ends_length l
theorem allEnds_snoc (l : List Tup) (k : Nat) (t : Tup) (h : l[k]? = some t) : allEnds (l.take (k + 1)) = allEnds (l.take k) ++ ends t := by
  rw [take_get h, allEnds, List.flatMap_append]; simp [allEnds]
theorem allEnds_take_length (l : List Tup) (k : Nat) : (allEnds (l.take k)).length ≤ l.length * 2 := Nat.le_trans (allEnds_length _) (Nat.mul_le_mul_right _ (List.length_take_le' _ _))
def bnds (l : List Tup) : List Int := Lib.compact (srt (allEnds l))
theorem keeps_first (d : Array Int) : ∀ j, j < d.size → ∃ i, i ≤ j ∧ Lib.keeps d i = true ∧ d[i]! = d[j]! := by
  intro j
  induction j with
  | zero => intro _; exact ⟨0, Nat.le_refl _, by simp [Lib.keeps], rfl⟩
  | succ j ih =>
    intro hj
    by_cases e : d[j + 1]! = d[j]!
    · obtain ⟨i, h1, h2, h3⟩ := ih (by omega)
      exact ⟨i, by omega, h2, by rw [h3, e]⟩
    · exact ⟨j + 1, Nat.le_refl _, Lib.keeps_pos (by simpa using e), rfl⟩
theorem compact_mem (zs : List Int) (x : Int) : x ∈ Lib.compact zs ↔ x ∈ zs := by
  unfold Lib.compact Lib.compactUpTo
  rw [List.mem_map]
  constructor
  · rintro ⟨i, hi, rfl⟩
    have h1 := List.mem_range.1 (List.mem_filter.1 hi).1
    rw [getElem!_pos zs.toArray i (by simpa using h1)]
    simp
  · intro hx
    obtain ⟨j, hj, rfl⟩ := List.getElem_of_mem hx
    obtain ⟨i, h1, h2, h3⟩ := keeps_first zs.toArray j (by simpa using hj)
    refine ⟨i, List.mem_filter.2 ⟨List.mem_range.2 (by omega), h2⟩, ?_⟩
    rw [h3, getElem!_pos zs.toArray j (by simpa using hj)]
    simp
theorem bnds_mem (l : List Tup) (x : Int) : x ∈ bnds l ↔ x ∈ allEnds l := by rw [bnds, compact_mem, srt_mem]
theorem bnds_length (l : List Tup) : (bnds l).length ≤ l.length * 2 := by
  have h : (srt (allEnds l)).length = (allEnds l).length := List.length_mergeSort _
  exact Nat.le_trans (Lib.compact_length_le _) (by rw [h]; exact allEnds_length l)
/-- The definition's. -/
def refBnd (l : List Tup) : List Int := l.foldl (fun o t => if pvalid t.lo t.hi = true then mergeL o [t.lo, t.hi] else o) []
theorem refBnd_snoc (l : List Tup) (k : Nat) (t : Tup) (h : l[k]? = some t) : refBnd (l.take (k + 1)) = if pvalid t.lo t.hi = true then mergeL (refBnd (l.take k)) [t.lo, t.hi] else refBnd (l.take k) := by
  rw [take_get h, refBnd, List.foldl_append]; rfl
theorem refBnd_length (l : List Tup) : (refBnd l).length ≤ l.length * 2 := by
  suffices h : ∀ o, (l.foldl (fun o t => if pvalid t.lo t.hi = true then mergeL o [t.lo, t.hi] else o) o).length ≤ o.length + l.length * 2 by simpa [refBnd] using h []
  induction l with
  | nil => intro o; simp
  | cons t l ih =>
    intro o
    rw [List.foldl_cons]
    refine Nat.le_trans (ih _) ?_
    split
    · have := mergeL_length o [t.lo, t.hi]; simp at *; omega
    · simp; omega
theorem refBnd_mem (l : List Tup) (x : Int) : x ∈ refBnd l ↔ x ∈ allEnds l := by
  suffices h : ∀ o, x ∈ (l.foldl (fun o t => if pvalid t.lo t.hi = true then mergeL o [t.lo, t.hi] else o) o) ↔ x ∈ o ∨ x ∈ allEnds l by simpa [refBnd] using h []
  induction l with
  | nil => intro o; simp [allEnds]
  | cons t l ih =>
    intro o
    have e : allEnds (t :: l) = ends t ++ allEnds l := rfl
    rw [List.foldl_cons, ih, e, List.mem_append, ends]
    split
    · rw [mergeL_mem, or_assoc]
    · simp
theorem refBnd_asc (l : List Tup) : (refBnd l).Pairwise (· < ·) := by
  suffices h : ∀ o : List Int, o.Pairwise (· < ·) → (l.foldl (fun o t => if pvalid t.lo t.hi = true then mergeL o [t.lo, t.hi] else o) o).Pairwise (· < ·) from h [] List.Pairwise.nil
  induction l with
  | nil => intro o h; exact h
  | cons t l ih =>
    intro o h
    rw [List.foldl_cons]
    refine ih _ ?_
    split
    · exact mergeL_asc _ _
    · exact h
end Go.Proofs.Ytminnkihcohflaa
