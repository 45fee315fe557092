/- Values in plain Lean: quoted texts: doubling of quotes and its undoing. No condition. -/
import Derived.Test.YthjgnpicnpfmjaaDoorValP
import Derived.Lib.SplitLaws
namespace Go.Proofs.YthjgnpicnpfmjaaDoor
open Go.Lib

/-- Every quote twice. -/
def dbl2 : List UInt8 → List UInt8
  | [] => []
  | c :: r => if c = 39 then 39 :: 39 :: dbl2 r else c :: dbl2 r
/-- Every pair of quotes, from the left, replaced. -/
def pairs (new : List UInt8) : List UInt8 → List UInt8
  | [] => []
  | [c] => [c]
  | c :: d :: r => if c = 39 ∧ d = 39 then new ++ pairs new r else c :: pairs new (d :: r)
/-- Every pair of quotes is one; a single one is a fault. -/
def undbl : List UInt8 → Option (List UInt8)
  | [] => some []
  | [c] => if c = 39 then none else some [c]
  | c :: d :: r => if c = 39 then (if d = 39 then (undbl r).map (39 :: ·) else none) else (undbl (d :: r)).map (c :: ·)

theorem index_pair_hit (r : List UInt8) : index (39 :: 39 :: r) [39, 39] = ((0 : Nat) : Int) := by
  rw [index]; simp [List.isPrefixOf]
theorem index_pair_miss {c : UInt8} {r : List UInt8} (h : ¬ (c = 39 ∧ r.head? = some 39)) : index (c :: r) [39, 39] = if index r [39, 39] == -1 then -1 else index r [39, 39] + 1 := by
  rw [index, if_neg]
  intro e
  cases r with
  | nil => simp [List.isPrefixOf] at e
  | cons d r =>
    simp [List.isPrefixOf] at e
    exact h ⟨e.1.symm, by simp [e.2]⟩
theorem count_pair_miss {c : UInt8} {r : List UInt8} (h : ¬ (c = 39 ∧ r.head? = some 39)) : count (c :: r) [39, 39] = count r [39, 39] := by
  have hi := index_pair_miss h
  by_cases hm : index r [39, 39] = -1
  · rw [count_miss hm, count_miss (by rw [hi, hm]; rfl)]
  · have hge := index_ge r [39, 39]
    obtain ⟨i, hI⟩ : ∃ i : Nat, index r [39, 39] = i := ⟨(index r [39, 39]).toNat, by omega⟩
    have hI' : index (c :: r) [39, 39] = ((i + 1 : Nat) : Int) := by
      rw [hi, if_neg (by simpa using hm), hI]; rfl
    rw [count_hit (by simp) hI, count_hit (by simp) hI']
    simp
theorem replaceK_pair_miss {c : UInt8} {r new : List UInt8} (h : ¬ (c = 39 ∧ r.head? = some 39)) : replaceK [39, 39] new (count r [39, 39]) (c :: r) = c :: replaceK [39, 39] new (count r [39, 39]) r := by
  cases hk : count r [39, 39] with
  | zero => simp [replaceK]
  | succ k =>
    obtain ⟨i, hI⟩ := index_of_count (s := r) (old := [39, 39]) (by omega)
    have hI' : index (c :: r) [39, 39] = ((i + 1 : Nat) : Int) := by
      rw [index_pair_miss h, if_neg (by rw [hI]; simp), hI]; rfl
    rw [replaceK_hit _ _ _ _ i hI, replaceK_hit _ _ _ _ (i + 1) hI']
    simp
theorem replaceK_pairs (new : List UInt8) (n : Nat) : ∀ l : List UInt8, l.length ≤ n → replaceK [39, 39] new (count l [39, 39]) l = pairs new l := by
  induction n with
  | zero =>
    intro l hl
    have : l = [] := List.length_eq_zero_iff.1 (by omega)
    subst this
    rfl
  | succ n ih =>
    intro l hl
    cases l with
    | nil => rfl
    | cons c r =>
      cases r with
      | nil =>
        have h : ¬ (c = 39 ∧ ([] : List UInt8).head? = some 39) := fun e => by cases e.2
        rw [count_pair_miss h, replaceK_pair_miss h, ih [] (by simp)]
        rfl
      | cons d r =>
        by_cases h : c = 39 ∧ d = 39
        · obtain ⟨rfl, rfl⟩ := h
          have hi := index_pair_hit r
          rw [count_hit (by simp) hi, Nat.add_comm, replaceK_hit _ _ _ _ 0 hi]
          have := ih r (by simp at hl; omega)
          simp only [List.take_zero, List.nil_append, Nat.zero_add, List.length_cons, List.length_nil, List.drop_succ_cons, List.drop_zero]
          rw [this, pairs, if_pos ⟨rfl, rfl⟩]
        · have h' : ¬ (c = 39 ∧ (d :: r).head? = some 39) := fun e => h ⟨e.1, by simpa using e.2⟩
          rw [count_pair_miss h', replaceK_pair_miss h', ih (d :: r) (by simpa using hl), pairs, if_neg h]
theorem replaceAll_pairs (new l : List UInt8) (h : new ≠ [39, 39]) : replaceAll l [39, 39] new = pairs new l := by
  have e : replaceAll l [39, 39] new = replaceK [39, 39] new (count l [39, 39]) l := by
    have : ¬ (([39, 39] : List UInt8) == new) = true := by simpa using fun e => h e.symm
    simp [replaceAll, replace, replaceNum, this]
  rw [e, replaceK_pairs new l.length l (Nat.le_refl _)]
theorem pairs_le (new : List UInt8) (hn : new.length ≤ 2) (n : Nat) : ∀ l : List UInt8, l.length ≤ n → (pairs new l).length ≤ l.length := by
  induction n with
  | zero =>
    intro l hl
    have : l = [] := List.length_eq_zero_iff.1 (by omega)
    subst this
    simp [pairs]
  | succ n ih =>
    intro l hl
    match l with
    | [] => simp [pairs]
    | [c] => simp [pairs]
    | c :: d :: r =>
      rw [pairs]
      split
      · have := ih r (by simp at hl; omega)
        simp; omega
      · have := ih (d :: r) (by simpa using hl)
        simp at this ⊢; omega
theorem undbl_cases (n : Nat) : ∀ l : List UInt8, l.length ≤ n → (undbl l = none → (39 : UInt8) ∈ pairs [] l) ∧ (∀ m, undbl l = some m → (39 : UInt8) ∉ pairs [] l ∧ pairs [39] l = m ∧ dbl2 m = l ∧ m.length ≤ l.length) := by
  induction n with
  | zero =>
    intro l hl
    have : l = [] := List.length_eq_zero_iff.1 (by omega)
    subst this
    refine ⟨(fun h => by cases h), fun m h => ?_⟩
    cases h
    simp [pairs, dbl2]
  | succ n ih =>
    intro l hl
    match l with
    | [] =>
      refine ⟨(fun h => by cases h), fun m h => ?_⟩
      cases h
      simp [pairs, dbl2]
    | [c] =>
      by_cases hc : c = 39
      · subst hc
        refine ⟨fun _ => by simp [pairs], fun m h => ?_⟩
        simp [undbl] at h
      · refine ⟨fun h => ?_, fun m h => ?_⟩
        · simp [undbl, hc] at h
        · simp [undbl, hc] at h
          subst h
          simp [pairs, dbl2, hc]
          exact fun e => hc e.symm
    | c :: d :: r =>
      by_cases hc : c = 39
      · by_cases hd : d = 39
        · subst hc; subst hd
          obtain ⟨h1, h2⟩ := ih r (by simp at hl; omega)
          refine ⟨fun h => ?_, fun m h => ?_⟩
          · have : undbl r = none := by simpa [undbl] using h
            simpa [pairs] using h1 this
          · have : ∃ q, undbl r = some q ∧ 39 :: q = m := by simpa [undbl] using h
            obtain ⟨q, hq, rfl⟩ := this
            obtain ⟨a, b, e, g⟩ := h2 q hq
            refine ⟨by simpa [pairs] using a, by simp [pairs, b], by simp [dbl2, e], by simp; omega⟩
        · subst hc
          refine ⟨fun _ => by simp [pairs, hd], fun m h => ?_⟩
          simp [undbl, hd] at h
      · obtain ⟨h1, h2⟩ := ih (d :: r) (by simpa using hl)
        refine ⟨fun h => ?_, fun m h => ?_⟩
        · have : undbl (d :: r) = none := by simpa [undbl, hc] using h
          have := h1 this
          rw [pairs, if_neg (fun e => hc e.1)]
          exact List.mem_cons_of_mem _ this
        · have : ∃ q, undbl (d :: r) = some q ∧ c :: q = m := by simpa [undbl, hc] using h
          obtain ⟨q, hq, rfl⟩ := this
          obtain ⟨a, b, e, g⟩ := h2 q hq
          refine ⟨?_, ?_, ?_, by simp at g ⊢; omega⟩
          · rw [pairs, if_neg (fun e => hc e.1)]
            intro hm
            rcases List.mem_cons.1 hm with h | h
            · exact hc h.symm
            · exact a h
          · rw [pairs, if_neg (fun e => hc e.1), b]
          · rw [dbl2, if_neg hc, e]
theorem undbl_none {l : List UInt8} (h : undbl l = none) : (39 : UInt8) ∈ pairs [] l := (undbl_cases _ l (Nat.le_refl _)).1 h
theorem undbl_some {l m : List UInt8} (h : undbl l = some m) : (39 : UInt8) ∉ pairs [] l ∧ pairs [39] l = m ∧ dbl2 m = l ∧ m.length ≤ l.length := (undbl_cases _ l (Nat.le_refl _)).2 m h
theorem undbl_dbl (m : List UInt8) : undbl (dbl2 m) = some m := by
  induction m with
  | nil => rfl
  | cons c m ih =>
    by_cases hc : c = 39
    · subst hc; simp [dbl2, undbl, ih]
    · rw [dbl2, if_neg hc]
      cases hm : dbl2 m with
      | nil =>
        rw [hm] at ih
        simp [undbl] at ih
        subst ih
        simp [undbl, hc]
      | cons d r =>
        rw [hm] at ih
        simp [undbl, hc, ih]
theorem contains_one (l : List UInt8) (c : UInt8) : Lib.contains l [c] = l.contains c := by
  unfold Lib.contains
  rw [index_one]
  induction l with
  | nil => rfl
  | cons b l ih =>
    have hge := indexByte_ge l c
    by_cases h : b = c
    · subst h; simp [indexByte]
    · have h' : (c == b) = false := by simpa using fun e => h e.symm
      rw [List.contains_cons, h', ← ih]
      have hb : (b == c) = false := by simpa using h
      by_cases hm : indexByte l c = -1
      · simp [indexByte, hb, hm]
      · simp [indexByte, hb, hm]; omega
theorem dbl2_length (l : List UInt8) : (dbl2 l).length ≤ 2 * l.length := by
  induction l with
  | nil => simp [dbl2]
  | cons c l ih => by_cases h : c = 39 <;> simp [dbl2, h] <;> omega
/-- The library's ReplaceAll at a quote. -/
theorem replaceAll_dbl (s : List UInt8) : replaceAll s [39] [39, 39] = dbl2 s := by
  have h : replaceAll s [39] [39, 39] = replaceK [39] [39, 39] (count s [39]) s := by
    simp [replaceAll, replace, replaceNum]
  rw [h]
  clear h
  induction s with
  | nil => rw [count_one]; simp [replaceK, dbl2]
  | cons c s ih =>
    by_cases h : c = 39
    · subst h
      rw [count_cons_eq, Nat.add_comm, replaceK_hit _ _ _ _ 0 (by rw [index_one]; simp [indexByte])]
      simp [dbl2, ih]
    · rw [count_cons_ne _ _ _ h]
      have hi : index (c :: s) [39] = if index s [39] == -1 then -1 else index s [39] + 1 := by
        rw [index_one, index_one, indexByte]; simp [h]
      have hd : dbl2 (c :: s) = c :: dbl2 s := by simp [dbl2, h]
      rw [hd, ← ih]
      cases hk : count s [39] with
      | zero => simp [replaceK]
      | succ k =>
        obtain ⟨i, hI⟩ := index_of_count (s := s) (old := [39]) (by omega)
        rw [replaceK_hit _ _ _ _ i hI, replaceK_hit _ _ _ _ (i + 1) (by rw [hi, hI]; simp)]
        simp
theorem count_q_le (s : List UInt8) : count s [39] ≤ s.length := by rw [count_one]; exact List.count_le_length
end Go.Proofs.YthjgnpicnpfmjaaDoor
