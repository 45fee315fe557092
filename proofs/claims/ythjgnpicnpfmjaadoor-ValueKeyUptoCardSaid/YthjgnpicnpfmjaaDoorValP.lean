/- Values in plain Lean: numerals: the text of a number, which texts are one. No condition. -/
import Derived.Lib.ParseIntBTie
import Derived.Lib.ItoaLen
import Derived.Lib.Replace
namespace Go.Proofs.YthjgnpicnpfmjaaDoor
open Go.Lib

def digB (c : UInt8) : Bool := decide (48 ≤ c.toNat ∧ c.toNat ≤ 57)
/-- What digits spell. -/
def natFrom (acc : Nat) (l : List UInt8) : Nat := l.foldl (fun a c => a * 10 + (c.toNat - 48)) acc
def hasMinus (l : List UInt8) : Bool := l.head? == some 45
/-- What stands behind the sign. -/
def digitsOf (l : List UInt8) : List UInt8 := if hasMinus l then l.drop 1 else l
/-- An optional minus and digits. -/
def numForm (l : List UInt8) : Bool := !(digitsOf l).isEmpty && (digitsOf l).all digB
/-- No leading zero. -/
def canon (d : List UInt8) : Bool := decide (d.length ≤ 1) || d.head? != some 48
/-- The number whose text this is, if it is one of 64 bits. -/
def numOf (l : List UInt8) : Option Int :=
  if canon (digitsOf l) = true ∧ ¬ (hasMinus l = true ∧ digitsOf l = [48]) ∧ natFrom 0 (digitsOf l) ≤ 9223372036854775808 ∧ (natFrom 0 (digitsOf l) = 9223372036854775808 → hasMinus l = true) then
    some (if hasMinus l then -(natFrom 0 (digitsOf l) : Int) else natFrom 0 (digitsOf l)) else none

theorem natFrom_cons (acc : Nat) (c : UInt8) (r : List UInt8) : natFrom acc (c :: r) = natFrom (acc * 10 + (c.toNat - 48)) r := by unfold natFrom; rw [List.foldl_cons]
theorem natFrom_nil (acc : Nat) : natFrom acc [] = acc := by unfold natFrom; rw [List.foldl_nil]
theorem head_app (a b : List UInt8) (h : a ≠ []) : (a ++ b).head? = a.head? := by
  cases a with
  | nil => exact absurd rfl h
  | cons _ _ => rfl
theorem natFrom_snoc (a : List UInt8) (c : UInt8) : ∀ acc, natFrom acc (a ++ [c]) = natFrom acc a * 10 + (c.toNat - 48) := by
  intro acc
  unfold natFrom
  rw [List.foldl_append, List.foldl_cons, List.foldl_nil]
theorem natFrom_ge (l : List UInt8) : ∀ acc, acc ≤ natFrom acc l := by
  induction l with
  | nil => intro acc; rw [natFrom_nil]; exact Nat.le_refl _
  | cons c r ih => intro acc; have := ih (acc * 10 + (c.toNat - 48)); rw [natFrom_cons]; omega
theorem dig_byte (u : Nat) (h : u < 10) : (UInt8.ofNat (48 + u)).toNat = 48 + u := by simp; omega
theorem natFrom_dec (u : Nat) : natFrom 0 (decDigits u) = u := by
  induction u using Nat.strongRecOn with
  | _ u ih =>
    by_cases h : u < 10
    · rw [decDigits, dif_pos h]; rw [natFrom_cons, natFrom_nil, dig_byte u h]; omega
    · rw [decDigits, dif_neg h, natFrom_snoc, ih (u / 10) (by omega), dig_byte _ (Nat.mod_lt _ (by omega))]; omega
theorem dec_all (u : Nat) : (decDigits u).all digB = true := by
  induction u using Nat.strongRecOn with
  | _ u ih =>
    by_cases h : u < 10
    · rw [decDigits, dif_pos h]; simp only [List.all_cons, List.all_nil, digB]; rw [dig_byte u h]; simp; omega
    · rw [decDigits, dif_neg h, List.all_append, ih (u / 10) (by omega)]
      simp only [List.all_cons, List.all_nil, digB]; rw [dig_byte _ (Nat.mod_lt _ (by omega))]; simp; omega
theorem dec_ne (u : Nat) : decDigits u ≠ [] := by
  intro h
  have h1 := decDigits_length u
  have h2 := nDigits_pos u
  rw [h] at h1; simp at h1; omega
theorem dec_head (u : Nat) (h0 : u ≠ 0) : (decDigits u).head? ≠ some 48 := by
  induction u using Nat.strongRecOn with
  | _ u ih =>
    by_cases h : u < 10
    · rw [decDigits, dif_pos h]
      intro e
      have e1 : UInt8.ofNat (48 + u) = 48 := by simpa using e
      have e2 := congrArg UInt8.toNat e1
      rw [dig_byte u h] at e2
      have : (48 : UInt8).toNat = 48 := rfl
      omega
    · rw [decDigits, dif_neg h]
      have hn := dec_ne (u / 10)
      rw [head_app _ _ hn]
      exact ih (u / 10) (by omega) (by omega)
theorem dec_canon (u : Nat) : canon (decDigits u) = true := by
  by_cases h : u = 0
  · subst h; rw [decDigits, dif_pos (by omega)]; rfl
  · have := dec_head u h
    simp [canon, this]
theorem dec_minus (u : Nat) : hasMinus (decDigits u) = false := by
  have h1 := dec_all u
  have h2 := dec_ne u
  cases h : decDigits u with
  | nil => exact absurd h h2
  | cons c r =>
    rw [h] at h1
    simp [digB] at h1
    simp only [hasMinus, List.head?_cons, beq_eq_false_iff_ne, ne_eq, Option.some.injEq]
    intro e
    subst e
    have : (45 : UInt8).toNat = 45 := rfl
    omega
theorem all_snoc (p : UInt8 → Bool) (a : List UInt8) (c : UInt8) (h : (a ++ [c]).all p = true) : a.all p = true ∧ p c = true := by
  simpa [List.all_append] using h
theorem natFrom_pos (d : List UInt8) (hd : d.all digB = true) (hn : d ≠ []) (hh : d.head? ≠ some 48) : 1 ≤ natFrom 0 d := by
  cases d with
  | nil => exact absurd rfl hn
  | cons c r =>
    have h1 := natFrom_ge r (0 * 10 + (c.toNat - 48))
    rw [natFrom_cons]
    simp only [List.all_cons, Bool.and_eq_true, digB, decide_eq_true_eq] at hd
    have : c.toNat ≠ 48 := fun e => hh (by rw [List.head?_cons, show c = 48 from UInt8.toNat_inj.1 (by rw [e]; rfl)])
    omega
theorem dec_natFrom (n : Nat) : ∀ d : List UInt8, d.length = n → d.all digB = true → d ≠ [] → canon d = true → decDigits (natFrom 0 d) = d := by
  induction n with
  | zero => intro d hl _ hn; exact absurd (List.length_eq_zero_iff.1 hl) hn
  | succ n ih =>
    intro d hl ha hn hc
    obtain ⟨a, c, rfl⟩ : ∃ a c, d = a ++ [c] := ⟨d.dropLast, d.getLast hn, (List.dropLast_concat_getLast hn).symm⟩
    obtain ⟨ha1, hcd⟩ := all_snoc digB a c ha
    simp only [digB, decide_eq_true_eq] at hcd
    have hr : c.toNat - 48 < 10 := by omega
    have hce : UInt8.ofNat (48 + (c.toNat - 48)) = c := UInt8.toNat_inj.1 (by rw [dig_byte _ hr]; omega)
    rw [natFrom_snoc]
    by_cases hz : a = []
    · subst hz
      rw [show natFrom 0 [] * 10 + (c.toNat - 48) = c.toNat - 48 by rw [natFrom_nil]; omega, decDigits, dif_pos hr, hce]; rfl
    · have hhead : a.head? ≠ some 48 := by
        intro e
        simp only [canon, Bool.or_eq_true, decide_eq_true_eq, bne_iff_ne, ne_eq] at hc
        rcases hc with h | h
        · have : 0 < a.length := List.length_pos_iff.2 hz
          rw [List.length_append, List.length_singleton] at h; omega
        · exact h (by rw [head_app _ _ hz]; exact e)
      have h1 := natFrom_pos a ha1 hz hhead
      rw [decDigits, dif_neg (by omega), show (natFrom 0 a * 10 + (c.toNat - 48)) / 10 = natFrom 0 a by omega, show (natFrom 0 a * 10 + (c.toNat - 48)) % 10 = c.toNat - 48 by omega, hce]
      rw [ih a (by simpa using hl) ha1 hz (by simp [canon, hhead])]
theorem digitsOf_minus (r : List UInt8) : digitsOf (45 :: r) = r := rfl
theorem itoa_numOf (n : Int) (h0 : -9223372036854775808 ≤ n) (h1 : n ≤ 9223372036854775807) : numOf (itoa n) = some n ∧ numForm (itoa n) = true := by
  by_cases h : n < 0
  · obtain ⟨u, rfl⟩ : ∃ u : Nat, n = -(u : Int) := ⟨n.natAbs, by omega⟩
    rw [itoa_neg u (by omega)]
    have e : hasMinus (45 :: decDigits u) = true := rfl
    refine ⟨?_, ?_⟩
    · unfold numOf
      have h48 : ¬ (true = true ∧ decDigits u = [48]) := fun h => by
        have := natFrom_dec u
        rw [h.2] at this
        have e2 : natFrom 0 [48] = 0 := by decide
        omega
      rw [digitsOf_minus, e, natFrom_dec, if_pos ⟨dec_canon u, h48, by omega, fun _ => rfl⟩]
      rfl
    · unfold numForm
      rw [digitsOf_minus, dec_all]
      have := dec_ne u
      cases h : decDigits u with
      | nil => exact absurd h this
      | cons _ _ => rfl
  · obtain ⟨u, rfl⟩ : ∃ u : Nat, n = u := ⟨n.toNat, by omega⟩
    rw [itoa_nonneg]
    have e := dec_minus u
    have e2 : digitsOf (decDigits u) = decDigits u := by simp [digitsOf, e]
    refine ⟨?_, ?_⟩
    · unfold numOf
      rw [e2, e, natFrom_dec, if_pos ⟨dec_canon u, fun h => (by cases h.1), by omega, fun h => (by omega)⟩]
      simp
    · unfold numForm
      rw [e2, dec_all]
      have := dec_ne u
      cases h : decDigits u with
      | nil => exact absurd h this
      | cons _ _ => rfl
theorem minus_cons {l : List UInt8} (h : hasMinus l = true) : l = 45 :: digitsOf l := by
  cases l with
  | nil => cases h
  | cons c r =>
    simp [hasMinus] at h
    subst h; rfl
theorem numOf_itoa (l : List UInt8) (hf : numForm l = true) (n : Int) (h : numOf l = some n) : itoa n = l ∧ -9223372036854775808 ≤ n ∧ n ≤ 9223372036854775807 := by
  unfold numOf at h
  split at h
  · rename_i hc
    obtain ⟨hc1, hc2, hc3, hc4⟩ := hc
    cases h
    simp only [numForm, Bool.and_eq_true, Bool.not_eq_true', List.isEmpty_eq_false_iff] at hf
    have hd := dec_natFrom _ _ rfl hf.2 hf.1 hc1
    cases hm : hasMinus l with
    | true =>
      simp only [if_pos]
      have hl := minus_cons hm
      by_cases hz : natFrom 0 (digitsOf l) = 0
      · exfalso
        rw [hz] at hd
        exact hc2 ⟨hm, by rw [← hd]; rw [decDigits, dif_pos (by omega)]; rfl⟩
      · rw [itoa_neg _ (by omega), hd]
        exact ⟨hl.symm, by omega, by omega⟩
    | false =>
      simp only [Bool.false_eq_true, if_false]
      have e2 : digitsOf l = l := by simp [digitsOf, hm]
      rw [itoa_nonneg, hd]
      have : natFrom 0 (digitsOf l) ≠ 9223372036854775808 := fun e => by rw [hc4 e] at hm; cases hm
      exact ⟨e2, by omega, by omega⟩
  · cases h
theorem parse10_dig (l : List UInt8) : ∀ acc, l.all digB = true → natFrom acc l < 18446744073709551616 → parseUint10 acc l = .ok (natFrom acc l) := by
  induction l with
  | nil => intro acc _ _; rw [natFrom_nil]; rfl
  | cons c r ih =>
    intro acc ha hlt
    simp only [List.all_cons, Bool.and_eq_true, digB, decide_eq_true_eq] at ha
    have hg := natFrom_ge r (acc * 10 + (c.toNat - 48))
    rw [natFrom_cons] at hlt
    rw [parseUint10, if_pos ha.1, if_neg (by omega), if_neg (by omega), natFrom_cons]
    exact ih _ ha.2 hlt
theorem atoi_numOf (l : List UInt8) (hf : numForm l = true) (n : Int) (h : numOf l = some n) : atoiAll l = .ok n := by
  unfold numOf at h
  split at h
  · rename_i hc
    obtain ⟨hc1, hc2, hc3, hc4⟩ := hc
    cases h
    simp only [numForm, Bool.and_eq_true, Bool.not_eq_true', List.isEmpty_eq_false_iff] at hf
    have hp := parse10_dig _ 0 hf.2 (by omega)
    have hmag : parseMag (digitsOf l) = .ok (natFrom 0 (digitsOf l)) := by rw [parseMag, if_neg hf.1, hp]
    cases hm : hasMinus l with
    | true =>
      rw [minus_cons hm, atoiAll_minus, digitsOf_minus, hmag]
      simp only [signed]
      rw [if_neg (by omega)]
      simp
    | false =>
      have e2 : digitsOf l = l := by simp [digitsOf, hm]
      have : natFrom 0 (digitsOf l) ≠ 9223372036854775808 := fun e => by rw [hc4 e] at hm; cases hm
      rw [e2] at hmag hf this hc3 ⊢
      cases l with
      | nil => exact absurd rfl hf.1
      | cons c r =>
        have hc0 : digB c = true := by have := hf.2; simp at this; exact this.1
        simp only [digB, decide_eq_true_eq] at hc0
        rw [atoiAll_plain c r (by omega) (by omega), hmag]
        simp only [signless]
        rw [if_neg (by omega)]
        simp
  · cases h
/-- What the program makes of a numeral. -/
theorem num_none (l : List UInt8) (h : numOf l = none) (n : Int) (hn : atoiAll l = .ok n) : itoa n ≠ l := by
  intro e
  have hb := atoiAll_bounds hn
  have := (itoa_numOf n hb.1 hb.2).1
  rw [e, h] at this
  cases this

/-- The definition's loop over the digits: the number so far; whether it fits. -/
def refStep (x : Nat × Bool) (c : UInt8) : Nat × Bool := if 922337203685477580 < x.1 then (x.1, false) else (x.1 * 10 + (c.toNat - 48), x.2)
theorem refStep_inv (d : List UInt8) : ∀ (u : Nat) (f : Bool) (m : Nat), d.all digB = true → (f = true → u = m ∧ u ≤ 9223372036854775809) → (f = false → 922337203685477580 < u ∧ u ≤ 9223372036854775809 ∧ 9223372036854775810 ≤ m) →
    ((d.foldl refStep (u, f)).2 = true → (d.foldl refStep (u, f)).1 = natFrom m d ∧ (d.foldl refStep (u, f)).1 ≤ 9223372036854775809) ∧ ((d.foldl refStep (u, f)).2 = false → (d.foldl refStep (u, f)).1 ≤ 9223372036854775809 ∧ 9223372036854775810 ≤ natFrom m d) := by
  induction d with
  | nil =>
    intro u f m _ h1 h2
    rw [natFrom_nil, List.foldl_nil]
    refine ⟨fun e => ?_, fun e => ?_⟩
    · have := h1 e; exact ⟨this.1, this.2⟩
    · have := h2 e; exact ⟨this.2.1, this.2.2⟩
  | cons c r ih =>
    intro u f m ha h1 h2
    simp only [List.all_cons, Bool.and_eq_true, digB, decide_eq_true_eq] at ha
    rw [List.foldl_cons, natFrom_cons]
    cases f with
    | true =>
      obtain ⟨rfl, hu⟩ := h1 rfl
      by_cases hb : 922337203685477580 < u
      · rw [refStep, if_pos hb]
        exact ih u false _ ha.2 (fun e => by cases e) (fun _ => ⟨hb, hu, by omega⟩)
      · rw [refStep, if_neg hb]
        exact ih _ true _ ha.2 (fun _ => ⟨rfl, by omega⟩) (fun e => by cases e)
    | false =>
      obtain ⟨hb, hu, hm⟩ := h2 rfl
      rw [refStep, if_pos hb]
      exact ih u false _ ha.2 (fun e => by cases e) (fun _ => ⟨hb, hu, by omega⟩)
def refNum (d : List UInt8) : Nat × Bool := d.foldl refStep (0, true)
theorem refNum_fits {d : List UInt8} (ha : d.all digB = true) (h : (refNum d).2 = true) : (refNum d).1 = natFrom 0 d ∧ (refNum d).1 ≤ 9223372036854775809 :=
  (refStep_inv d 0 true 0 ha (fun _ => ⟨rfl, by omega⟩) (fun e => by cases e)).1 h
theorem refNum_big {d : List UInt8} (ha : d.all digB = true) (h : (refNum d).2 = false) : (refNum d).1 ≤ 9223372036854775809 ∧ 9223372036854775810 ≤ natFrom 0 d :=
  (refStep_inv d 0 true 0 ha (fun _ => ⟨rfl, by omega⟩) (fun e => by cases e)).2 h
theorem refNum_le (d : List UInt8) (ha : d.all digB = true) : (refNum d).1 ≤ 9223372036854775809 := by
  cases h : (refNum d).2 with
  | true => exact (refNum_fits ha h).2
  | false => exact (refNum_big ha h).1
end Go.Proofs.YthjgnpicnpfmjaaDoor
