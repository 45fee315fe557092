/- Splitting tuples at points: what it comes to. Of no program but for the form of a tuple. No condition. -/
import Derived.Test.YtminnkihcohflaaSplI
namespace Go.Proofs.Ytminnkihcohflaa
open Go.RowKit Go.Lib

/-- One tuple from 'lo' on, cut at these points, which ascend. -/
def cutAt (vals : List GVal) (lin : List Int) (hi : Int) : Int → List Int → List Tup
  | lo, [] => [⟨vals, lo, hi, lin⟩]
  | lo, p :: ps => if hi ≤ p then [⟨vals, lo, hi, lin⟩] else if lo < p then ⟨vals, lo, p, lin⟩ :: cutAt vals lin hi p ps else cutAt vals lin hi lo ps
def splitOne (ps : List Int) (t : Tup) : List Tup := if pvalid t.lo t.hi = true then cutAt t.vals t.lin t.hi t.lo (ps.drop (ps.countP (· < t.lo + 1))) else []
def splitAt (l : List Tup) (points : List Int) : List Tup := l.flatMap (splitOne (srt points))
theorem cutAt_length (vals : List GVal) (lin : List Int) (hi : Int) (ps : List Int) : ∀ lo, (cutAt vals lin hi lo ps).length ≤ ps.length + 1 := by
  induction ps with
  | nil => intro lo; simp [cutAt]
  | cons p ps ih =>
    intro lo
    rw [cutAt]
    split
    · simp
    · split
      · have := ih p; simp; omega
      · have := ih lo; simp; omega
theorem splitOne_length (ps : List Int) (t : Tup) : (splitOne ps t).length ≤ ps.length + 1 := by
  unfold splitOne
  split
  · exact Nat.le_trans (cutAt_length _ _ _ _ _) (by rw [List.length_drop]; omega)
  · simp
theorem flatMap_len_le {α β : Type} (f : α → List β) (m : Nat) (hf : ∀ x, (f x).length ≤ m) (l : List α) : (l.flatMap f).length ≤ l.length * m := by
  induction l with
  | nil => simp
  | cons a l ih => rw [List.flatMap_cons, List.length_append, List.length_cons, Nat.add_mul, Nat.one_mul]; have := hf a; omega
theorem splitAt_length (l : List Tup) (points : List Int) : (splitAt l points).length ≤ l.length * (points.length + 1) := by
  have h : (srt points).length = points.length := List.length_mergeSort _
  rw [← h]
  exact flatMap_len_le _ _ (splitOne_length _) l
theorem splitAt_snoc (l : List Tup) (points : List Int) (k : Nat) (t : Tup) (h : l[k]? = some t) : splitAt (l.take (k + 1)) points = splitAt (l.take k) points ++ splitOne (srt points) t := by
  rw [take_get h, splitAt, List.flatMap_append]; simp [splitAt]
theorem splitAt_take_length (l : List Tup) (points : List Int) (k : Nat) : (splitAt (l.take k) points).length ≤ l.length * (points.length + 1) :=
  Nat.le_trans (splitAt_length _ _) (Nat.mul_le_mul_right _ (List.length_take_le' _ _))
theorem srt_sorted (zs : List Int) : (srt zs).Pairwise (· ≤ ·) := by
  have := List.pairwise_mergeSort (le := fun x y : Int => decide (x ≤ y)) (fun a b c h1 h2 => by simp at *; omega) (fun a b => by simp; omega) zs
  exact this.imp (fun h => by simpa using h)
end Go.Proofs.Ytminnkihcohflaa
