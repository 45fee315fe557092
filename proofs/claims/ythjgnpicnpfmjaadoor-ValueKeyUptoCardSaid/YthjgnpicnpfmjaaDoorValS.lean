/- Values in plain Lean: valid values, their texts, the value of a text, keys. No condition. -/
import Derived.Test.YthjgnpicnpfmjaaDoorValQ
import Derived.Test.YthjgnpicnpfmjaaDoorSplE
import Derived.Test.YthjgnpicnpfmjaaDoorNumP
namespace Go.Proofs.YthjgnpicnpfmjaaDoor
open Go.Lib

def gtxt (m : List UInt8) : GVal := ⟨2, 0, ⟨m.toArray⟩⟩
def gtrue : GVal := ⟨3, 1, ⟨#[]⟩⟩
def gfalse : GVal := ⟨3, 0, ⟨#[]⟩⟩
def validG (v : GVal) : Bool :=
  if v.kind = 0 then v.n == 0 && v.s.data.toList.isEmpty else if v.kind = 1 then v.s.data.toList.isEmpty
  else if v.kind = 2 then v.n == 0 && decide (v.s.size ≤ 200) else if v.kind = 3 then (v.n == 0 || v.n == 1) && v.s.data.toList.isEmpty else false
def sNull : List UInt8 := [110, 117, 108, 108]
def sTrue : List UInt8 := [116, 114, 117, 101]
def sFalse : List UInt8 := [102, 97, 108, 115, 101]
/-- The text of a value. -/
def fmtG (v : GVal) : List UInt8 :=
  if validG v = true then (if v.kind = 0 then sNull else if v.kind = 1 then itoa v.n else if v.kind = 3 then (if v.n = 1 then sTrue else sFalse) else 39 :: (dbl2 v.s.data.toList ++ [39])) else []
/-- What stands between the quotes. -/
def unquo (l : List UInt8) : Option (List UInt8) := if l.length < 2 ∨ l.head? ≠ some 39 ∨ l.getLast? ≠ some 39 then none else undbl ((l.drop 1).take (l.length - 2))
/-- The value of a text; the error's number. -/
def parseG (l : List UInt8) : GVal × Int :=
  if l = sNull then (gnull, 0) else if l = sFalse then (gfalse, 0) else if l = sTrue then (gtrue, 0)
  else if numForm l = true then (match numOf l with | some n => (gint n, 0) | none => (gnull, 10))
  else match unquo l with | none => (gnull, 5) | some m => if 200 < m.length then (gnull, 4) else (gtxt m, 0)
def keyOf (v : GVal) : List UInt8 := itoa v.kind ++ [44] ++ itoa v.n ++ [44] ++ itoa v.s.size ++ [58] ++ v.s.data.toList
def keyL (l : List GVal) : List UInt8 := l.flatMap keyOf

theorem bytes_nil {s : ByteArray} (h : s.data.toList = []) : s = ⟨#[]⟩ := by
  obtain ⟨⟨l⟩⟩ := s
  simp at h
  subst h; rfl
theorem bytes_mk (s : ByteArray) : (ByteArray.mk s.data.toList.toArray) = s := by
  obtain ⟨⟨l⟩⟩ := s; rfl
theorem quo_num (l : List UInt8) : numForm (39 :: l) = false := by
  simp [numForm, digitsOf, hasMinus, digB]
theorem quo_unquo (m : List UInt8) : unquo (39 :: (m ++ [39])) = undbl m := by
  unfold unquo
  have h : ¬ ((39 :: (m ++ [39]) : List UInt8).length < 2 ∨ (39 :: (m ++ [39]) : List UInt8).head? ≠ some 39 ∨ (39 :: (m ++ [39]) : List UInt8).getLast? ≠ some 39) := by
    simp [List.getLast?_cons, List.getLast?_append]
  rw [if_neg h]
  simp
theorem parse_fmt (v : GVal) (h : validG v = true) (hn : In64 v.n) : parseG (fmtG v) = (v, 0) := by
  obtain ⟨k, n, s⟩ := v
  unfold fmtG
  rw [if_pos h]
  unfold validG at h
  dsimp only at h hn ⊢
  by_cases h0 : k = 0
  · subst h0
    simp only [if_true, Bool.and_eq_true, beq_iff_eq, List.isEmpty_iff] at h
    obtain ⟨rfl, h2⟩ := h
    rw [bytes_nil h2]; rfl
  · rw [if_neg h0] at h ⊢
    by_cases h1 : k = 1
    · subst h1
      simp only [if_true, List.isEmpty_iff] at h
      obtain ⟨hi1, hi2⟩ := itoa_numOf n hn.1 hn.2
      simp only [if_true]
      have e1 : itoa n ≠ sNull := fun e => by rw [e] at hi2; exact absurd hi2 (by decide)
      have e2 : itoa n ≠ sFalse := fun e => by rw [e] at hi2; exact absurd hi2 (by decide)
      have e3 : itoa n ≠ sTrue := fun e => by rw [e] at hi2; exact absurd hi2 (by decide)
      unfold parseG
      rw [if_neg e1, if_neg e2, if_neg e3, if_pos hi2, hi1, bytes_nil h]; rfl
    · rw [if_neg h1] at h ⊢
      by_cases h2 : k = 2
      · subst h2
        simp only [if_true, Bool.and_eq_true, beq_iff_eq, decide_eq_true_eq] at h
        obtain ⟨rfl, h2⟩ := h
        rw [if_neg (by omega)]
        have e1 : (39 :: (dbl2 s.data.toList ++ [39]) : List UInt8) ≠ sNull := fun e => by have := List.head_eq_of_cons_eq e; exact absurd this (by decide)
        have e2 : (39 :: (dbl2 s.data.toList ++ [39]) : List UInt8) ≠ sFalse := fun e => by have := List.head_eq_of_cons_eq e; exact absurd this (by decide)
        have e3 : (39 :: (dbl2 s.data.toList ++ [39]) : List UInt8) ≠ sTrue := fun e => by have := List.head_eq_of_cons_eq e; exact absurd this (by decide)
        unfold parseG
        have hl : ¬ 200 < s.data.toList.length := by
          have : s.data.toList.length = s.size := (Lib.size_eq s).symm
          omega
        rw [if_neg e1, if_neg e2, if_neg e3, if_neg (by rw [quo_num]; simp), quo_unquo, undbl_dbl]
        simp only
        rw [if_neg hl, gtxt, bytes_mk]
      · rw [if_neg h2] at h
        by_cases h3 : k = 3
        · subst h3
          simp only [if_true, Bool.and_eq_true, Bool.or_eq_true, beq_iff_eq, List.isEmpty_iff] at h
          obtain ⟨h4, h5⟩ := h
          rw [bytes_nil h5]
          rcases h4 with rfl | rfl <;> rfl
        · rw [if_neg h3] at h; cases h
theorem unquo_some {l m : List UInt8} (h : unquo l = some m) : 39 :: (dbl2 m ++ [39]) = l := by
  unfold unquo at h
  split at h
  · cases h
  · rename_i hc
    have hc1 : ¬ l.length < 2 := fun e => hc (.inl e)
    have hc2 : l.head? = some 39 := by
      by_cases e : l.head? = some 39
      · exact e
      · exact absurd (.inr (.inl e)) hc
    have hc3 : l.getLast? = some 39 := by
      by_cases e : l.getLast? = some 39
      · exact e
      · exact absurd (.inr (.inr e)) hc
    rw [(undbl_some h).2.2.1]
    cases l with
    | nil => simp at hc1
    | cons c r =>
      simp at hc2
      subst hc2
      have hr : r ≠ [] := by intro e; subst e; simp at hc1
      have hl : r.getLast? = some 39 := by
        rw [List.getLast?_cons_of_ne_nil hr] at hc3
        exact hc3
      rw [List.getLast?_eq_some_getLast hr] at hl
      have hl' : r.getLast hr = 39 := by simpa using hl
      have := List.dropLast_concat_getLast hr
      rw [hl'] at this
      have e : ((39 :: r : List UInt8).drop 1).take ((39 :: r : List UInt8).length - 2) = r.dropLast := by
        rw [List.dropLast_eq_take]; simp
      rw [e, this]
theorem fmt_parse (l : List UInt8) (v : GVal) (h : parseG l = (v, 0)) : validG v = true ∧ fmtG v = l ∧ In64 v.n := by
  unfold parseG at h
  split at h
  · rename_i e; cases h; subst e; refine ⟨rfl, rfl, by decide⟩
  split at h
  · rename_i e; cases h; subst e; refine ⟨rfl, rfl, by decide⟩
  split at h
  · rename_i e; cases h; subst e; refine ⟨rfl, rfl, by decide⟩
  split at h
  · rename_i hf
    cases hn : numOf l with
    | none => rw [hn] at h; cases h
    | some n =>
      rw [hn] at h; cases h
      obtain ⟨h1, h2, h3⟩ := numOf_itoa l hf n hn
      exact ⟨rfl, h1, h2, h3⟩
  · cases hu : unquo l with
    | none => rw [hu] at h; cases h
    | some m =>
      rw [hu] at h
      simp only at h
      split at h
      · cases h
      · rename_i hl
        cases h
        have hv : validG (gtxt m) = true := by simp [validG, gtxt, ByteArray.size]; omega
        refine ⟨hv, ?_, by simp [gtxt, In64]⟩
        unfold fmtG
        rw [if_pos hv]
        simpa [gtxt] using unquo_some hu
/-- The errors' numbers. -/
theorem parse_err (l : List UInt8) : (parseG l).2 = 0 ∨ (parseG l).1 = gnull ∧ ((parseG l).2 = 4 ∨ (parseG l).2 = 5 ∨ (parseG l).2 = 10) := by
  unfold parseG
  split
  · exact .inl rfl
  split
  · exact .inl rfl
  split
  · exact .inl rfl
  split
  · split
    · exact .inl rfl
    · exact .inr ⟨rfl, .inr (.inr rfl)⟩
  · split
    · exact .inr ⟨rfl, .inr (.inl rfl)⟩
    · split
      · exact .inr ⟨rfl, .inl rfl⟩
      · exact .inl rfl

theorem sep_inj (c : UInt8) : ∀ (a b x y : List UInt8), c ∉ a → c ∉ b → a ++ c :: x = b ++ c :: y → a = b ∧ x = y := by
  intro a
  induction a with
  | nil =>
    intro b x y _ hb h
    cases b with
    | nil => simp at h; exact ⟨rfl, h⟩
    | cons d b => simp at h; exact absurd h.1 (fun e => hb (by simp [e]))
  | cons d a ih =>
    intro b x y ha hb h
    cases b with
    | nil => simp at h; exact absurd h.1.symm (fun e => ha (by simp [e]))
    | cons e b =>
      simp at h
      obtain ⟨h1, h2⟩ := ih b x y (fun hm => ha (List.mem_cons_of_mem _ hm)) (fun hm => hb (List.mem_cons_of_mem _ hm)) h.2
      exact ⟨by rw [h.1, h1], h2⟩
theorem dec_not (u : Nat) (c : UInt8) (hc : digB c = false) : c ∉ decDigits u := fun h => by
  have := List.all_eq_true.1 (dec_all u) c h
  rw [hc] at this; cases this
theorem itoa_not (n : Int) (c : UInt8) (hc : digB c = false) (h45 : c ≠ 45) : c ∉ itoa n := by
  unfold itoa
  split
  · intro h
    rcases List.mem_cons.1 h with h | h
    · exact h45 h
    · exact dec_not _ c hc h
  · exact dec_not _ c hc
theorem dec_inj {a b : Nat} (h : decDigits a = decDigits b) : a = b := by rw [← natFrom_dec a, h, natFrom_dec]
theorem itoa_inj {a b : Int} (h : itoa a = itoa b) : a = b := by
  unfold itoa at h
  split at h <;> split at h
  · simp at h; have := dec_inj h; omega
  · exfalso; have h2 := dec_minus b.toNat; rw [← h] at h2; cases h2
  · exfalso; have h2 := dec_minus a.toNat; rw [h] at h2; cases h2
  · have := dec_inj h; omega
theorem key_step (u v : GVal) (x y : List UInt8) (h : keyOf u ++ x = keyOf v ++ y) : u = v ∧ x = y := by
  obtain ⟨k1, n1, s1⟩ := u
  obtain ⟨k2, n2, s2⟩ := v
  simp only [keyOf, List.append_assoc, List.singleton_append] at h
  obtain ⟨h1, h⟩ := sep_inj 44 _ _ _ _ (itoa_not _ _ (by decide) (by decide)) (itoa_not _ _ (by decide) (by decide)) h
  obtain ⟨h2, h⟩ := sep_inj 44 _ _ _ _ (itoa_not _ _ (by decide) (by decide)) (itoa_not _ _ (by decide) (by decide)) h
  obtain ⟨h3, h⟩ := sep_inj 58 _ _ _ _ (itoa_not _ _ (by decide) (by decide)) (itoa_not _ _ (by decide) (by decide)) h
  have e1 := itoa_inj h1
  have e2 := itoa_inj h2
  have e3 : s1.size = s2.size := by have := itoa_inj h3; omega
  have hl : s1.data.toList.length = s2.data.toList.length := by rw [← Lib.size_eq, ← Lib.size_eq]; exact e3
  obtain ⟨h4, h5⟩ := List.append_inj h hl
  subst e1; subst e2
  refine ⟨?_, h5⟩
  have : s1 = s2 := by rw [← bytes_mk s1, h4, bytes_mk]
  rw [this]
theorem key_ne (v : GVal) : keyOf v ≠ [] := by
  intro h
  simp [keyOf] at h
theorem key_inj (a b : List GVal) : keyL a = keyL b ↔ a = b := by
  constructor
  · induction a generalizing b with
    | nil =>
      intro h
      cases b with
      | nil => rfl
      | cons v b =>
        simp only [keyL, List.flatMap_nil, List.flatMap_cons] at h
        exact absurd (List.append_eq_nil_iff.1 h.symm).1 (key_ne v)
    | cons u a ih =>
      intro h
      cases b with
      | nil =>
        simp only [keyL, List.flatMap_nil, List.flatMap_cons] at h
        exact absurd (List.append_eq_nil_iff.1 h).1 (key_ne u)
      | cons v b =>
        simp only [keyL, List.flatMap_cons] at h
        obtain ⟨rfl, h2⟩ := key_step u v _ _ h
        rw [ih b h2]
  · intro h; rw [h]
end Go.Proofs.YthjgnpicnpfmjaaDoor
