/- The definition's merge of lineages: what it comes to. Of no program. No condition. -/
import Derived.Test.YtminnkihcohflaaSplQ
namespace Go.Proofs.Ytminnkihcohflaa
open Go.RowKit Go.Lib

/-- How many leading numbers are smaller. -/
def lead (x : Int) : List Int → Nat
  | [] => 0
  | y :: l => if y < x then lead x l + 1 else 0
theorem lead_le (x : Int) (l : List Int) : lead x l ≤ l.length := by
  induction l with
  | nil => simp [lead]
  | cons y l ih => rw [lead]; split <;> simp <;> omega
theorem lead_eq (x : Int) (l : List Int) (k : Nat) (hk : k ≤ l.length) (h1 : ∀ i y, i < k → l[i]? = some y → y < x) (h2 : ∀ y, l[k]? = some y → ¬ y < x) : lead x l = k := by
  induction l generalizing k with
  | nil => simp at hk; subst hk; rfl
  | cons y l ih =>
    rw [lead]
    cases k with
    | zero => rw [if_neg (h2 y rfl)]
    | succ k =>
      rw [if_pos (h1 0 y (by omega) rfl), ih k (by simpa using hk) (fun i z hi hz => h1 (i + 1) z (by omega) (by simpa using hz)) (fun z hz => h2 z (by simpa using hz))]
/-- One number put in its place, if it is not there. -/
def ins (l : List Int) (x : Int) : List Int := if l[lead x l]? = some x then l else l.take (lead x l) ++ [x] ++ l.drop (lead x l)
def mergeL (a b : List Int) : List Int := (a ++ b).foldl ins []
theorem lead_split (x : Int) (l : List Int) (hs : l.Pairwise (· < ·)) : (∀ y ∈ l.take (lead x l), y < x) ∧ (∀ y ∈ l.drop (lead x l), x ≤ y) := by
  induction l with
  | nil => simp
  | cons a l ih =>
    rw [List.pairwise_cons] at hs
    obtain ⟨h1, h2⟩ := ih hs.2
    rw [lead]
    by_cases ha : a < x
    · rw [if_pos ha, List.take_succ_cons, List.drop_succ_cons]
      refine ⟨fun y hy => ?_, h2⟩
      rcases List.mem_cons.1 hy with rfl | hy
      · exact ha
      · exact h1 y hy
    · rw [if_neg ha, List.take_zero, List.drop_zero]
      refine ⟨by simp, fun y hy => ?_⟩
      rcases List.mem_cons.1 hy with rfl | hy
      · omega
      · have := hs.1 y hy; omega
theorem ins_mem (l : List Int) (x y : Int) : y ∈ ins l x ↔ y ∈ l ∨ y = x := by
  unfold ins
  split
  · rename_i h
    have := List.mem_of_getElem? h
    constructor
    · exact .inl
    · rintro (h | rfl) <;> assumption
  · have h := List.take_append_drop (lead x l) l
    have : y ∈ l ↔ y ∈ l.take (lead x l) ∨ y ∈ l.drop (lead x l) := by rw [← List.mem_append, h]
    rw [this]
    simp only [List.mem_append, List.mem_cons, List.not_mem_nil, or_false]
    constructor
    · rintro ((h | h) | h)
      · exact .inl (.inl h)
      · exact .inr h
      · exact .inl (.inr h)
    · rintro ((h | h) | h)
      · exact .inl (.inl h)
      · exact .inr h
      · exact .inl (.inr h)
theorem ins_asc (l : List Int) (x : Int) (hs : l.Pairwise (· < ·)) : (ins l x).Pairwise (· < ·) := by
  obtain ⟨h1, h2⟩ := lead_split x l hs
  unfold ins
  split
  · exact hs
  · rename_i hne
    have h3 : ∀ y ∈ l.drop (lead x l), x < y := by
      intro y hy
      have hle := h2 y hy
      by_cases e : y = x
      · exfalso
        subst e
        have hd : (l.drop (lead y l)).Pairwise (· < ·) := hs.sublist (List.drop_sublist _ _)
        cases hq : l.drop (lead y l) with
        | nil => rw [hq] at hy; cases hy
        | cons z r =>
          rw [hq] at hy hd h2
          have hz : l[lead y l]? = some z := by rw [← Nat.add_zero (lead y l), ← List.getElem?_drop, hq]; rfl
          rw [List.pairwise_cons] at hd
          rcases List.mem_cons.1 hy with e | hr
          · exact hne (by rw [hz, ← e])
          · have := hd.1 y hr
            have := h2 z (List.mem_cons_self ..)
            omega
      · omega
    rw [List.append_assoc, List.pairwise_append]
    refine ⟨hs.sublist (List.take_sublist _ _), ?_, ?_⟩
    · rw [List.singleton_append, List.pairwise_cons]
      exact ⟨h3, hs.sublist (List.drop_sublist _ _)⟩
    · intro a ha b hb
      rw [List.singleton_append] at hb
      have := h1 a ha
      rcases List.mem_cons.1 hb with rfl | hb
      · exact this
      · have := h3 b hb; omega
theorem ins_length (l : List Int) (x : Int) : (ins l x).length ≤ l.length + 1 := by
  unfold ins
  split
  · omega
  · have := lead_le x l
    simp; omega
theorem foldIns_asc (xs : List Int) : ∀ l, l.Pairwise (· < ·) → (xs.foldl ins l).Pairwise (· < ·) := by
  induction xs with
  | nil => intro l h; exact h
  | cons x xs ih => intro l h; exact ih _ (ins_asc l x h)
theorem foldIns_mem (xs : List Int) : ∀ l y, y ∈ xs.foldl ins l ↔ y ∈ l ∨ y ∈ xs := by
  induction xs with
  | nil => intro l y; simp
  | cons x xs ih => intro l y; rw [List.foldl_cons, ih, ins_mem, List.mem_cons, or_assoc]
theorem foldIns_length (xs : List Int) : ∀ l, (xs.foldl ins l).length ≤ l.length + xs.length := by
  induction xs with
  | nil => intro l; simp
  | cons x xs ih => intro l; rw [List.foldl_cons]; have := ih (ins l x); have := ins_length l x; simp; omega
theorem mergeL_asc (a b : List Int) : (mergeL a b).Pairwise (· < ·) := foldIns_asc _ _ List.Pairwise.nil
theorem mergeL_mem (a b : List Int) (y : Int) : y ∈ mergeL a b ↔ y ∈ a ∨ y ∈ b := by rw [mergeL, foldIns_mem]; simp
theorem mergeL_length (a b : List Int) : (mergeL a b).length ≤ a.length + b.length := by have := foldIns_length (a ++ b) []; rw [List.length_append] at this; simpa [mergeL] using this
end Go.Proofs.Ytminnkihcohflaa
