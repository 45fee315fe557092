/- Aligned pieces that overlap have equal periods. Of no program but for the form of a tuple. No condition. -/
import Derived.Test.YtminnkihcohflaaBndP
import Derived.Test.YtminnkihcohflaaBldC
namespace Go.Proofs.Ytminnkihcohflaa
open Go.RowKit Go.Lib

theorem pieces_ends (vals : List GVal) (lin : List Int) (hi : Int) (ps : List Int) : ∀ lo, (∀ x ∈ ps, lo < x) → ps.Pairwise (· < ·) → ∀ t ∈ pieces vals lin hi lo ps, (t.lo = lo ∨ t.lo ∈ ps) ∧ (t.hi = hi ∨ t.hi ∈ ps) ∧ (lo ≤ t.lo) ∧ ∀ x ∈ ps, ¬ (t.lo < x ∧ x < t.hi) := by
  induction ps with
  | nil =>
    intro lo _ _ t ht
    simp [pieces] at ht
    subst ht
    exact ⟨.inl rfl, .inl rfl, Int.le_refl _, by simp⟩
  | cons p ps ih =>
    intro lo hgt hs t ht
    have hp := hgt p (List.mem_cons_self ..)
    rw [List.pairwise_cons] at hs
    rw [pieces] at ht
    rcases List.mem_cons.1 ht with rfl | ht
    · refine ⟨.inl rfl, .inr (List.mem_cons_self ..), Int.le_refl _, fun x hx => ?_⟩
      rcases List.mem_cons.1 hx with rfl | hx
      · simp
      · have := hs.1 x hx; simp; omega
    · obtain ⟨h1, h2, h3, h4⟩ := ih p hs.1 hs.2 t ht
      refine ⟨.inr ?_, h2.imp id (List.mem_cons_of_mem _), by omega, fun x hx => ?_⟩
      · rcases h1 with h1 | h1
        · rw [h1]; exact List.mem_cons_self ..
        · exact List.mem_cons_of_mem _ h1
      · rcases List.mem_cons.1 hx with rfl | hx
        · omega
        · exact h4 x hx
theorem pieces_within (vals : List GVal) (lin : List Int) (hi : Int) (ps : List Int) : ∀ lo, lo ≤ hi → (∀ x ∈ ps, lo < x ∧ x < hi) → ps.Pairwise (· < ·) → ∀ t ∈ pieces vals lin hi lo ps, lo ≤ t.lo ∧ t.hi ≤ hi := by
  induction ps with
  | nil =>
    intro lo _ _ _ t ht
    simp [pieces] at ht
    subst ht
    exact ⟨Int.le_refl _, Int.le_refl _⟩
  | cons p ps ih =>
    intro lo hle hgt hs t ht
    have hp := hgt p (List.mem_cons_self ..)
    rw [List.pairwise_cons] at hs
    rw [pieces] at ht
    rcases List.mem_cons.1 ht with rfl | ht
    · exact ⟨Int.le_refl _, by have := hp.2; simp; omega⟩
    · obtain ⟨h1, h2⟩ := ih p (by omega) (fun x hx => ⟨hs.1 x hx, (hgt x (List.mem_cons_of_mem _ hx)).2⟩) hs.2 t ht
      exact ⟨by omega, h2⟩
/-- A piece ends at points or where its tuple does, and has no point inside. -/
theorem splitAt_piece {l : List Tup} {ps : List Int} {t : Tup} (ht : t ∈ splitAt l ps) : (t.lo ∈ allEnds l ∨ t.lo ∈ ps) ∧ (t.hi ∈ allEnds l ∨ t.hi ∈ ps) ∧ ∀ x ∈ ps, ¬ (t.lo < x ∧ x < t.hi) := by
  obtain ⟨x, hx, hxt⟩ := List.mem_flatMap.1 ht
  rw [splitOne_inner] at hxt
  split at hxt
  · rename_i hv
    have hv' : 0 ≤ x.lo ∧ x.lo < x.hi ∧ x.hi ≤ 1099511627776 := by simpa [pvalid] using hv
    have hin : ∀ y ∈ inner x.lo x.hi ps, x.lo < y ∧ y < x.hi := fun y hy => ((inner_mem _ _ _ _).1 hy).2
    obtain ⟨h1, h2, _, h4⟩ := pieces_ends _ _ _ _ _ (fun y hy => (hin y hy).1) (inner_asc _ _ _) t hxt
    obtain ⟨h5, h6⟩ := pieces_within _ _ _ _ _ (by omega) hin (inner_asc _ _ _) t hxt
    have he : x.lo ∈ allEnds l ∧ x.hi ∈ allEnds l := by
      constructor <;> exact List.mem_flatMap.2 ⟨x, hx, by rw [ends, if_pos hv]; simp⟩
    refine ⟨?_, ?_, fun y hy hin' => ?_⟩
    · rcases h1 with h1 | h1
      · rw [h1]; exact .inl he.1
      · exact .inr ((inner_mem _ _ _ _).1 h1).1
    · rcases h2 with h2 | h2
      · rw [h2]; exact .inl he.2
      · exact .inr ((inner_mem _ _ _ _).1 h2).1
    · exact h4 y ((inner_mem _ _ _ _).2 ⟨hy, by omega, by omega⟩) hin'
  · cases hxt
theorem allEnds_append (a b : List Tup) : allEnds (a ++ b) = allEnds a ++ allEnds b := by simp [allEnds]
theorem aligned (a b : List Tup) (s t : Tup) (hs : s ∈ splitAt a (bnds (a ++ b))) (ht : t ∈ splitAt b (bnds (a ++ b))) (h1 : s.lo < t.hi) (h2 : t.lo < s.hi) : s.lo = t.lo ∧ s.hi = t.hi := by
  obtain ⟨s1, s2, s3⟩ := splitAt_piece hs
  obtain ⟨t1, t2, t3⟩ := splitAt_piece ht
  have ha : ∀ x, x ∈ allEnds a → x ∈ bnds (a ++ b) := fun x hx => by rw [bnds_mem, allEnds_append]; exact List.mem_append_left _ hx
  have hb : ∀ x, x ∈ allEnds b → x ∈ bnds (a ++ b) := fun x hx => by rw [bnds_mem, allEnds_append]; exact List.mem_append_right _ hx
  have s1 := s1.elim (ha _) id
  have s2 := s2.elim (ha _) id
  have t1 := t1.elim (hb _) id
  have t2 := t2.elim (hb _) id
  have a1 := s3 _ t1
  have a2 := s3 _ t2
  have a3 := t3 _ s1
  have a4 := t3 _ s2
  have hsv : s.lo < s.hi ∨ s.hi ≤ s.lo := by omega
  have htv : t.lo < t.hi ∨ t.hi ≤ t.lo := by omega
  omega
theorem pieces_pos (vals : List GVal) (lin : List Int) (hi : Int) (ps : List Int) (lo : Int) : 1 ≤ (pieces vals lin hi lo ps).length := by
  cases ps <;> simp [pieces]
theorem splitAt_longer (l : List Tup) (ps : List Int) (h : ∀ t ∈ l, pvalid t.lo t.hi = true) : l.length ≤ (splitAt l ps).length := by
  induction l with
  | nil => simp
  | cons t l ih =>
    have e : splitAt (t :: l) ps = splitOne (srt ps) t ++ splitAt l ps := rfl
    rw [e, List.length_append, splitOne_inner, if_pos (h t (List.mem_cons_self ..)), List.length_cons]
    have h1 := pieces_pos t.vals t.lin t.hi (inner t.lo t.hi ps) t.lo
    have h2 := ih (fun x hx => h x (List.mem_cons_of_mem _ hx))
    omega
theorem tupOf_valid (x : U5) : pvalid (tupOf x).lo (tupOf x).hi = true := by
  have h : pvalid (gper x.x0 x.x1).1 (gper x.x0 x.x1).2 = true := by
    unfold gper pvalid
    dsimp only
    rw [decide_eq_true_eq]
    split <;> omega
  exact h
theorem tupsOf_valid (l : List U5) (m : Nat) : ∀ t ∈ tupsOf l m, pvalid t.lo t.hi = true := by
  intro t ht
  obtain ⟨x, _, rfl⟩ := List.mem_map.1 ht
  exact tupOf_valid x
theorem tupsOf_small (l : List U5) (m : Nat) : ∀ t ∈ tupsOf l m, t.vals.length ≤ 1000 ∧ t.lin.length ≤ 1000 := by
  intro t ht
  obtain ⟨x, _, rfl⟩ := List.mem_map.1 ht
  simp [tupOf, gtup]
end Go.Proofs.Ytminnkihcohflaa
