/- The order of values in plain Lean: antisymmetric, transitive. No condition. -/
import Derived.Test.YthjgnpicnpfmjaaDoorCmpR
import Derived.Test.YthjgnpicnpfmjaaDoorValS
namespace Go.Proofs.YthjgnpicnpfmjaaDoor
open Go.RowKit

/-- Three signs as those of three comparisons in a row. -/
def Sgn3 (x y z : Int) : Prop := (x = -1 ∨ x = 0 ∨ x = 1) ∧ (y = -1 ∨ y = 0 ∨ y = 1) ∧ (z = -1 ∨ z = 0 ∨ z = 1) ∧ (x = 0 → z = y) ∧ (y = 0 → z = x) ∧ (x = -1 → y = -1 → z = -1)
def or2 (x y : Int) : Int := if x = 0 then y else x
theorem Sgn3.or {x y z x' y' z' : Int} (h : Sgn3 x y z) (h' : Sgn3 x' y' z') : Sgn3 (or2 x x') (or2 y y') (or2 z z') := by
  unfold Sgn3 at *
  unfold or2
  obtain ⟨h1, h2, h3, h4, h5, h6⟩ := h
  obtain ⟨k1, k2, k3, k4, k5, k6⟩ := h'
  refine ⟨?_, ?_, ?_, ?_, ?_, ?_⟩ <;> (repeat' split) <;> omega
theorem sgn_int (a b c : Int) : Sgn3 (cmpI a b) (cmpI b c) (cmpI a c) := by
  unfold Sgn3 cmpI
  refine ⟨?_, ?_, ?_, ?_, ?_, ?_⟩ <;> (split <;> (try split) <;> (try split) <;> (try split) <;> (try split) <;> (try split) <;> omega)
theorem cb_swap (a b : List UInt8) : Lib.compareBytes b a = - Lib.compareBytes a b := by
  induction a generalizing b with
  | nil => cases b <;> simp [Lib.compareBytes]
  | cons x a ih =>
    cases b with
    | nil => simp [Lib.compareBytes]
    | cons y b =>
      rw [Lib.compareBytes, Lib.compareBytes, ih b]
      by_cases h1 : x < y
      · have h2 : ¬ y < x := fun h => absurd (UInt8.lt_trans h1 h) (UInt8.lt_irrefl _)
        simp [h1, h2]
      · by_cases h2 : y < x
        · simp [h1, h2]
        · simp [h1, h2]
theorem sgn_bytes (a b c : List UInt8) : Sgn3 (Lib.compareBytes a b) (Lib.compareBytes b c) (Lib.compareBytes a c) := by
  induction a generalizing b c with
  | nil =>
    cases b with
    | nil => cases c <;> simp [Lib.compareBytes, Sgn3]
    | cons y b =>
      cases c with
      | nil => simp [Lib.compareBytes, Sgn3]
      | cons z c =>
        have := (bytesLess_cmp (y :: b) (z :: c)).2.2
        have h1 : Lib.compareBytes [] (y :: b) = -1 := by simp [Lib.compareBytes]
        have h2 : Lib.compareBytes [] (z :: c) = -1 := by simp [Lib.compareBytes]
        rw [h1, h2]
        unfold Sgn3
        omega
  | cons x a ih =>
    cases b with
    | nil =>
      cases c with
      | nil => simp [Lib.compareBytes, Sgn3]
      | cons z c =>
        have := (bytesLess_cmp (x :: a) (z :: c)).2.2
        have h1 : Lib.compareBytes (x :: a) [] = 1 := by simp [Lib.compareBytes]
        have h2 : Lib.compareBytes [] (z :: c) = -1 := by simp [Lib.compareBytes]
        rw [h1, h2]
        unfold Sgn3
        omega
    | cons y b =>
      cases c with
      | nil =>
        have := (bytesLess_cmp (x :: a) (y :: b)).2.2
        have h1 : Lib.compareBytes (x :: a) [] = 1 := by simp [Lib.compareBytes]
        have h2 : Lib.compareBytes (y :: b) [] = 1 := by simp [Lib.compareBytes]
        rw [h1, h2]
        unfold Sgn3
        omega
      | cons z c =>
        have hi := ih b c
        have e : ∀ (p q : UInt8) (l m : List UInt8), Lib.compareBytes (p :: l) (q :: m) = or2 (cmpI p.toNat q.toNat) (Lib.compareBytes l m) := by
          intro p q l m
          rw [Lib.compareBytes, or2, cmpI]
          by_cases h1 : p < q
          · have h1' : (p.toNat : Int) < (q.toNat : Int) := by have := UInt8.lt_iff_toNat_lt.1 h1; omega
            simp [h1, h1']
          · by_cases h2 : q < p
            · have h2' : (q.toNat : Int) < (p.toNat : Int) := by have := UInt8.lt_iff_toNat_lt.1 h2; omega
              have h1' : ¬ (p.toNat : Int) < (q.toNat : Int) := by omega
              simp [h1, h2, h1', h2']
            · have h1' : ¬ (p.toNat : Int) < (q.toNat : Int) := by have := mt UInt8.lt_iff_toNat_lt.2 h1; omega
              have h2' : ¬ (q.toNat : Int) < (p.toNat : Int) := by have := mt UInt8.lt_iff_toNat_lt.2 h2; omega
              simp [h1, h2, h1', h2']
        rw [e, e, e]
        exact (sgn_int _ _ _).or hi
theorem cmpG_or2 (a b : GVal) : cmpG a b = or2 (cmpI a.kind b.kind) (or2 (cmpI a.n b.n) (Lib.compareBytes a.s.data.toList b.s.data.toList)) := by
  rw [← cmpG_or]
  simp only [orL, or2]
  split
  · split
    · split
      · rename_i h; rw [h]
      · rfl
    · rfl
  · rfl
theorem sgn_val (a b c : GVal) : Sgn3 (cmpG a b) (cmpG b c) (cmpG a c) := by
  rw [cmpG_or2, cmpG_or2, cmpG_or2]
  exact (sgn_int _ _ _).or ((sgn_int _ _ _).or (sgn_bytes _ _ _))
theorem cmpI_swap (a b : Int) : cmpI b a = - cmpI a b := by unfold cmpI; split <;> split <;> (try split) <;> omega
theorem cmpG_swap (a b : GVal) : cmpG b a = - cmpG a b := by
  rw [cmpG_or2, cmpG_or2, cmpI_swap a.kind b.kind, cmpI_swap a.n b.n, cb_swap a.s.data.toList b.s.data.toList]
  unfold or2
  split <;> split <;> (try split) <;> (try split) <;> omega
theorem cmpG_same (a b : GVal) : (cmpG a b == 0) = sameG a b := by
  have h := (sgn_val a b b).1
  unfold cmpG at *
  split at h
  · rename_i hl
    rw [if_pos hl]
    have : sameG a b = false := by
      cases hs : sameG a b with
      | false => rfl
      | true =>
        simp only [sameG, Bool.and_eq_true, beq_iff_eq] at hs
        simp only [lessG, hs.1.1, hs.1.2, hs.2] at hl
        simp [bytesLess_irrefl] at hl
    rw [this]; rfl
  · rename_i hl
    rw [if_neg hl]
    cases hs : sameG a b <;> simp
theorem gv_ext {a b : GVal} (h : sameG a b = true) : a = b := by
  obtain ⟨k1, n1, s1⟩ := a
  obtain ⟨k2, n2, s2⟩ := b
  simp only [sameG, Bool.and_eq_true, beq_iff_eq] at h
  obtain ⟨⟨rfl, rfl⟩, h3⟩ := h
  have : s1 = s2 := by
    rw [Lib.toList_data, Lib.toList_data] at h3
    rw [← bytes_mk s1, h3, bytes_mk]
  rw [this]
theorem cmpG_zero {a b : GVal} : cmpG a b = 0 ↔ a = b := by
  constructor
  · intro h
    refine gv_ext ?_
    rw [← cmpG_same, h]; rfl
  · rintro rfl
    have := cmpG_same a a
    rw [sameG_refl] at this
    simpa using this
theorem cmpRows_zero (l m : List GVal) : cmpRows l m = 0 ↔ l = m := by
  induction l generalizing m with
  | nil => cases m <;> simp [cmpRows]
  | cons a l ih =>
    cases m with
    | nil => simp [cmpRows]
    | cons b m =>
      rw [cmpRows]
      by_cases h : cmpG a b = 0
      · rw [if_pos h, ih]
        have := cmpG_zero.1 h
        simp [this]
      · rw [if_neg h]
        have h2 : ¬ a = b := fun e => h (cmpG_zero.2 e)
        simp [h, h2]
theorem cmpRows_swap (l m : List GVal) : cmpRows m l = - cmpRows l m := by
  induction l generalizing m with
  | nil => cases m <;> simp [cmpRows]
  | cons a l ih =>
    cases m with
    | nil => simp [cmpRows]
    | cons b m =>
      rw [cmpRows, cmpRows, cmpG_swap a b]
      by_cases h : cmpG a b = 0
      · rw [if_pos h, if_pos (by omega), ih]
      · rw [if_neg h, if_neg (by omega)]
end Go.Proofs.YthjgnpicnpfmjaaDoor
