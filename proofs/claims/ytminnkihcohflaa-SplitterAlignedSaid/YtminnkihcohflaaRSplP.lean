/- The definition's splitting of tuples, in plain terms; it is the program's. No condition. -/
import Derived.Test.YtminnkihcohflaaMrgP
namespace Go.Proofs.Ytminnkihcohflaa
open Go.RowKit Go.Lib

def refCut (vals : List GVal) (lin : List Int) (hi : Int) : Int → List Int → List Tup
  | lo, [] => [⟨vals, lo, hi, lin⟩]
  | lo, p :: ps => if lo < p ∧ p < hi then ⟨vals, lo, p, lin⟩ :: refCut vals lin hi p ps else refCut vals lin hi lo ps
def refOne (ps : List Int) (t : Tup) : List Tup := if pvalid t.lo t.hi = true then refCut t.vals t.lin t.hi t.lo ps else []
def refSplit (l : List Tup) (points : List Int) : List Tup := l.flatMap (refOne (mergeL points []))
def rset (hi : Int) : Int → List Int → List Int
  | _, [] => []
  | lo, p :: ps => if lo < p ∧ p < hi then p :: rset hi p ps else rset hi lo ps
theorem refCut_pieces (vals : List GVal) (lin : List Int) (hi : Int) (ps : List Int) : ∀ lo, refCut vals lin hi lo ps = pieces vals lin hi lo (rset hi lo ps) := by
  induction ps with
  | nil => intro lo; rfl
  | cons p ps ih =>
    intro lo
    rw [refCut, rset]
    split
    · rw [pieces, ih]
    · exact ih lo
theorem rset_mem (hi : Int) (ps : List Int) : ∀ lo, ps.Pairwise (· < ·) → ∀ x, x ∈ rset hi lo ps ↔ x ∈ ps ∧ lo < x ∧ x < hi := by
  induction ps with
  | nil => intro lo _ x; simp [rset]
  | cons p ps ih =>
    intro lo hs x
    rw [List.pairwise_cons] at hs
    rw [rset]
    by_cases h1 : lo < p ∧ p < hi
    · rw [if_pos h1]
      simp only [List.mem_cons, ih p hs.2]
      constructor
      · rintro (rfl | ⟨h3, h4, h5⟩)
        · exact ⟨.inl rfl, h1⟩
        · exact ⟨.inr h3, by omega, h5⟩
      · rintro ⟨rfl | h3, h4, h5⟩
        · exact .inl rfl
        · exact .inr ⟨h3, hs.1 x h3, h5⟩
    · rw [if_neg h1, ih lo hs.2]
      simp only [List.mem_cons]
      constructor
      · rintro ⟨h3, h4, h5⟩; exact ⟨.inr h3, h4, h5⟩
      · rintro ⟨rfl | h3, h4, h5⟩
        · exact absurd ⟨h4, h5⟩ h1
        · exact ⟨h3, h4, h5⟩
theorem rset_asc (hi : Int) (ps : List Int) : ∀ lo, ps.Pairwise (· < ·) → (rset hi lo ps).Pairwise (· < ·) := by
  induction ps with
  | nil => intro lo _; simp [rset]
  | cons p ps ih =>
    intro lo hs
    have hs' := List.pairwise_cons.1 hs
    rw [rset]
    split
    · rw [List.pairwise_cons]
      exact ⟨fun x hx => ((rset_mem hi ps p hs'.2 x).1 hx).2.1, ih p hs'.2⟩
    · exact ih lo hs'.2
theorem refSplit_eq (l : List Tup) (ps : List Int) : refSplit l ps = splitAt l ps := by
  refine flatMap_congr' fun t _ => ?_
  rw [refOne, splitOne_inner, refCut_pieces]
  have : rset t.hi t.lo (mergeL ps []) = inner t.lo t.hi ps := asc_ext _ _ (rset_asc _ _ _ (mergeL_asc _ _)) (inner_asc _ _ _) (fun x => by
    rw [rset_mem _ _ _ (mergeL_asc _ _), inner_mem, mergeL_mem]; simp)
  rw [this]
theorem refCut_length (vals : List GVal) (lin : List Int) (hi : Int) (ps : List Int) : ∀ lo, (refCut vals lin hi lo ps).length ≤ ps.length + 1 := by
  induction ps with
  | nil => intro lo; simp [refCut]
  | cons p ps ih =>
    intro lo
    rw [refCut]
    split
    · have := ih p; simp; omega
    · have := ih lo; simp; omega
theorem refOne_length (ps : List Int) (t : Tup) : (refOne ps t).length ≤ ps.length + 1 := by
  unfold refOne
  split
  · exact refCut_length _ _ _ _ _
  · simp
theorem refSplit_length (l : List Tup) (points : List Int) : (refSplit l points).length ≤ l.length * (points.length + 1) := by
  refine Nat.le_trans (flatMap_len_le _ _ (refOne_length _) l) (Nat.mul_le_mul_left _ (Nat.succ_le_succ ?_))
  simpa using mergeL_length points []
theorem refSplit_snoc (l : List Tup) (points : List Int) (k : Nat) (t : Tup) (h : l[k]? = some t) : refSplit (l.take (k + 1)) points = refSplit (l.take k) points ++ refOne (mergeL points []) t := by
  rw [take_get h, refSplit, List.flatMap_append]; simp [refSplit]
theorem refSplit_take_length (l : List Tup) (points : List Int) (k : Nat) : (refSplit (l.take k) points).length ≤ l.length * (points.length + 1) :=
  Nat.le_trans (refSplit_length _ _) (Nat.mul_le_mul_right _ (List.length_take_le' _ _))
end Go.Proofs.Ytminnkihcohflaa
