/- The lexer in plain words, with no program in sight: classes of bytes, tokens, scanning, formatting. No condition. -/
import Derived.Lib.Replace
namespace Go.Proofs.YtbabencadnlmlaaDoor

def isSpace (c : UInt8) : Bool := decide (c.toNat = 32 ∨ c.toNat = 9 ∨ c.toNat = 10 ∨ c.toNat = 13)
def isUpper (c : UInt8) : Bool := decide (65 ≤ c.toNat ∧ c.toNat ≤ 90)
def isLower (c : UInt8) : Bool := decide (97 ≤ c.toNat ∧ c.toNat ≤ 122)
def isDigit (c : UInt8) : Bool := decide (48 ≤ c.toNat ∧ c.toNat ≤ 57)
def isInner (c : UInt8) : Bool := decide ((97 ≤ c.toNat ∧ c.toNat ≤ 122) ∨ (48 ≤ c.toNat ∧ c.toNat ≤ 57) ∨ c.toNat = 95)
def signs : List UInt8 := [40, 41, 44, 46, 42, 43, 45, 61, 60, 62, 59]
def isSign (c : UInt8) : Bool := signs.contains c

/-- How many bytes of a class stand at the head of a list. -/
def runLen (p : UInt8 → Bool) (l : List UInt8) : Nat := (l.takeWhile p).length
theorem runLen_le (p : UInt8 → Bool) (l : List UInt8) : runLen p l ≤ l.length := by
  unfold runLen; exact (List.takeWhile_sublist p).length_le
theorem take_runLen (p : UInt8 → Bool) (l : List UInt8) : l.take (runLen p l) = l.takeWhile p := by
  unfold runLen
  exact (List.prefix_iff_eq_take.1 (List.takeWhile_prefix p)).symm
theorem runLen_cons_yes (p : UInt8 → Bool) (c : UInt8) (l : List UInt8) (h : p c = true) : runLen p (c :: l) = runLen p l + 1 := by simp [runLen, List.takeWhile_cons, h]
theorem runLen_cons_no (p : UInt8 → Bool) (c : UInt8) (l : List UInt8) (h : p c = false) : runLen p (c :: l) = 0 := by simp [runLen, List.takeWhile_cons, h]
theorem runLen_nil (p : UInt8 → Bool) : runLen p [] = 0 := rfl
theorem runLen_all (p : UInt8 → Bool) (l : List UInt8) : runLen p l = l.length ↔ l.all p = true := by
  induction l with
  | nil => simp [runLen]
  | cons c l ih => cases h : p c <;> simp [runLen, List.takeWhile_cons, h] <;> simpa [runLen] using ih

structure Tok where
  kind : Int
  pos : Int
  text : List UInt8

/-- What follows an opening quote: the content, and how many bytes it takes with its closing quote. -/
def unq : List UInt8 → Option (List UInt8 × Nat)
  | [] => none
  | [c] => if c.toNat = 39 then some ([], 1) else none
  | c :: d :: r => if c.toNat = 39 then (if d.toNat = 39 then (unq r).map fun x => (39 :: x.1, x.2 + 2) else some ([], 1)) else (unq (d :: r)).map fun x => (c :: x.1, x.2 + 1)

inductive LexRes where
  | tok (kind : Nat) (text : List UInt8) (len : Nat)
  | trunc
  | bad

def lexTok : List UInt8 → LexRes
  | [] => .bad
  | c :: r =>
    if isUpper c then .tok 1 ((c :: r).take (runLen isUpper (c :: r))) (runLen isUpper (c :: r))
    else if isLower c then .tok 2 ((c :: r).take (runLen isInner (c :: r))) (runLen isInner (c :: r))
    else if isDigit c then .tok 3 ((c :: r).take (runLen isDigit (c :: r))) (runLen isDigit (c :: r))
    else if c.toNat = 39 then (match unq r with | none => .trunc | some x => .tok 4 x.1 (x.2 + 1))
    else if isSign c then .tok 5 [c] 1 else .bad

def shortT (k : Int) (n : Nat) : Bool := if k = 3 then decide (n ≤ 19) else if k = 4 then decide (n ≤ 200) else decide (n ≤ 20)

structure ScanRes where
  toks : List Tok
  at_ : Nat
  err : Nat

def scanF : Nat → List UInt8 → Nat → List Tok → ScanRes
  | 0, _, _, _ => ⟨[], 0, 0⟩
  | _ + 1, [], pos, acc => ⟨acc ++ [⟨6, pos, []⟩], 0, 0⟩
  | f + 1, c :: r, pos, acc =>
    if isSpace c then scanF f r (pos + 1) acc else
    match lexTok (c :: r) with
    | .bad => ⟨[], pos, 5⟩
    | .trunc => ⟨[], pos, 2⟩
    | .tok k t n => if shortT k t.length && decide (acc.length < 1000) then scanF f ((c :: r).drop n) (pos + n) (acc ++ [⟨k, pos, t⟩]) else ⟨[], pos, 4⟩

def scan (s : List UInt8) : ScanRes := if 4000 < s.length then ⟨[], 0, 4⟩ else scanF (s.length + 1) s 0 []

theorem scanF_space (f : Nat) (c : UInt8) (r : List UInt8) (pos : Nat) (acc : List Tok) (h : isSpace c = true) : scanF (f + 1) (c :: r) pos acc = scanF f r (pos + 1) acc := by
  rw [scanF, if_pos h]
theorem scanF_end (f pos : Nat) (acc : List Tok) : scanF (f + 1) [] pos acc = ⟨acc ++ [⟨6, pos, []⟩], 0, 0⟩ := rfl
/-- Over the spaces at the head. -/
theorem scanF_run (l : List UInt8) : ∀ (f pos : Nat) (acc : List Tok), l.length < f →
    ∃ g, (l.drop (runLen isSpace l)).length < g ∧ scanF f l pos acc = scanF g (l.drop (runLen isSpace l)) (pos + runLen isSpace l) acc := by
  induction l with
  | nil => intro f pos acc h; exact ⟨f, by simpa using h, rfl⟩
  | cons c l ih =>
    intro f pos acc h
    cases hc : isSpace c
    · exact ⟨f, by simpa [runLen_cons_no _ _ _ hc] using h, by simp [runLen_cons_no _ _ _ hc]⟩
    · obtain ⟨f, rfl⟩ : ∃ f', f = f' + 1 := ⟨f - 1, by simp at h; omega⟩
      obtain ⟨g, h1, h2⟩ := ih f (pos + 1) acc (by simpa using h)
      refine ⟨g, by simpa [runLen_cons_yes _ _ _ hc] using h1, ?_⟩
      rw [scanF_space _ _ _ _ _ hc, h2, runLen_cons_yes _ _ _ hc]
      rw [List.drop_succ_cons, Nat.add_right_comm, Nat.add_assoc]
theorem drop_runLen_no (p : UInt8 → Bool) (l : List UInt8) : ∀ c r, l.drop (runLen p l) = c :: r → p c = false := by
  induction l with
  | nil => intro c r h; simp at h
  | cons d l ih =>
    intro c r h
    cases hd : p d
    · rw [runLen_cons_no _ _ _ hd] at h; simp at h; rw [← h.1]; exact hd
    · rw [runLen_cons_yes _ _ _ hd] at h; simp at h; exact ih c r h

/-- A valid token. -/
def validT (k : Int) (t : List UInt8) : Bool :=
  if k = 1 then !t.isEmpty && t.all isUpper && decide (t.length ≤ 20)
  else if k = 2 then (match t with | [] => false | c :: _ => isLower c) && t.all isInner && decide (t.length ≤ 20)
  else if k = 3 then !t.isEmpty && t.all isDigit && decide (t.length ≤ 19)
  else if k = 4 then decide (t.length ≤ 200)
  else if k = 5 then (match t with | [c] => isSign c | _ => false)
  else if k = 6 then t.isEmpty else false

/-- Quotes doubled. -/
def dbl : List UInt8 → List UInt8
  | [] => []
  | c :: l => if c = 39 then 39 :: 39 :: dbl l else c :: dbl l
theorem dbl_append (l m : List UInt8) : dbl (l ++ m) = dbl l ++ dbl m := by
  induction l with
  | nil => rfl
  | cons c l ih => by_cases h : c = 39 <;> simp [dbl, h, ih]
theorem dbl_length (l : List UInt8) : (dbl l).length ≤ 2 * l.length ∧ l.length ≤ (dbl l).length := by
  induction l with
  | nil => simp [dbl]
  | cons c l ih => by_cases h : c = 39 <;> simp [dbl, h] <;> omega

def fmtText (t : Tok) : List UInt8 := if t.kind = 4 then [39] ++ dbl t.text ++ [39] else t.text
def fmtStep (acc : List UInt8) (t : Tok) : List UInt8 := if t.kind = 6 then acc else (if acc.isEmpty then acc else acc ++ [32]) ++ fmtText t
def fmtL (l : List Tok) : List UInt8 := if l.all (fun t => validT t.kind t.text) then l.foldl fmtStep [] else []

/-- The library's ReplaceAll at a quote. -/
theorem replaceK_quote (s : List UInt8) : Lib.replaceK [39] [39, 39] (Lib.count s [39]) s = dbl s := by
  induction s with
  | nil => rw [Lib.count_one]; simp [Lib.replaceK, dbl]
  | cons c s ih =>
    by_cases h : c = 39
    · subst h
      rw [Lib.count_cons_eq, Nat.add_comm, Lib.replaceK_hit _ _ _ _ 0 (by rw [Lib.index_one]; simp [Lib.indexByte])]
      simp [dbl, ih]
    · rw [Lib.count_cons_ne _ _ _ h]
      have hi : Lib.index (c :: s) [39] = if Lib.index s [39] == -1 then -1 else Lib.index s [39] + 1 := by
        rw [Lib.index_one, Lib.index_one, Lib.indexByte]; simp [h]
      have hd : dbl (c :: s) = c :: dbl s := by simp [dbl, h]
      rw [hd, ← ih]
      cases hk : Lib.count s [39] with
      | zero => simp [Lib.replaceK]
      | succ k =>
        obtain ⟨i, hI⟩ := Lib.index_of_count (s := s) (old := [39]) (by omega)
        rw [Lib.replaceK_hit _ _ _ _ i hI, Lib.replaceK_hit _ _ _ _ (i + 1) (by rw [hi, hI]; simp)]
        simp
theorem replaceAll_quote (s : List UInt8) : Lib.replaceAll s [39] [39, 39] = dbl s := by
  have h : Lib.replaceAll s [39] [39, 39] = Lib.replaceK [39] [39, 39] (Lib.count s [39]) s := by
    simp [Lib.replaceAll, Lib.replace, Lib.replaceNum]
  rw [h, replaceK_quote]
theorem count_quote_le (s : List UInt8) : Lib.count s [39] ≤ s.length := by rw [Lib.count_one]; exact List.count_le_length
/-- The library's IndexByte among the signs. -/
theorem indexByte_mem (l : List UInt8) (c : UInt8) : decide (0 ≤ Lib.indexByte l c) = l.contains c := by
  induction l with
  | nil => rfl
  | cons b l ih =>
    have hge := Lib.indexByte_ge l c
    by_cases h : b = c
    · subst h; simp [Lib.indexByte]
    · have h' : (c == b) = false := by simpa using fun e => h e.symm
      rw [List.contains_cons, h', ← ih]
      have hb : (b == c) = false := by simpa using h
      by_cases hm : Lib.indexByte l c = -1
      · simp [Lib.indexByte, hb, hm]
      · simp [Lib.indexByte, hb, hm]; omega
theorem runLen_dec (p : UInt8 → Bool) (l : List UInt8) : decide (runLen p l = l.length) = l.all p := by
  rw [Bool.eq_iff_iff]; simp [runLen_all]
theorem valid1 (l : List UInt8) (h : l ≠ []) : validT 1 l = (decide (runLen isUpper l = l.length) && shortT 1 l.length) := by
  rw [runLen_dec]; cases l <;> simp_all [validT, shortT]
theorem valid2 (c : UInt8) (l : List UInt8) : validT 2 (c :: l) = (isLower c && (decide (runLen isInner (c :: l) = (c :: l).length) && shortT 2 (c :: l).length)) := by
  rw [runLen_dec]; simp [validT, shortT, Bool.and_assoc]
theorem valid3 (l : List UInt8) (h : l ≠ []) : validT 3 l = (decide (runLen isDigit l = l.length) && shortT 3 l.length) := by
  rw [runLen_dec]; cases l <;> simp_all [validT, shortT]
theorem valid4 (l : List UInt8) : validT 4 l = shortT 4 l.length := by simp [validT, shortT]
theorem valid5 (l : List UInt8) (h : l.length ≠ 1) : validT 5 l = false := by
  match l with
  | [] => rfl
  | [_] => simp at h
  | _ :: _ :: _ => rfl
theorem valid5_one (c : UInt8) : validT 5 [c] = isSign c := rfl
theorem valid6 (l : List UInt8) : validT 6 l = l.isEmpty := by simp [validT]
theorem validT_nil (k : Int) (h1 : k ≠ 4) (h2 : k ≠ 6) : validT k [] = false := by
  simp [validT, h1, h2]
theorem validT_other (k : Int) (l : List UInt8) (h1 : k ≠ 1) (h2 : k ≠ 2) (h3 : k ≠ 3) (h4 : k ≠ 4) (h5 : k ≠ 5) (h6 : k ≠ 6) : validT k l = false := by
  simp [validT, h1, h2, h3, h4, h5, h6]
theorem unq_nil : unq [] = none := rfl
theorem unq_plain (c : UInt8) (r : List UInt8) (h : c.toNat ≠ 39) : unq (c :: r) = (unq r).map fun x => (c :: x.1, x.2 + 1) := by
  cases r with
  | nil => simp [unq, h]
  | cons d r => rw [unq, if_neg h]
theorem unq_close (c : UInt8) (r : List UInt8) (h : c.toNat = 39) (hr : ∀ d q, r = d :: q → d.toNat ≠ 39) : unq (c :: r) = some ([], 1) := by
  cases r with
  | nil => simp [unq, h]
  | cons d r => rw [unq, if_pos h, if_neg (hr d r rfl)]
theorem unq_dbl (c d : UInt8) (r : List UInt8) (h : c.toNat = 39) (hd : d.toNat = 39) : unq (c :: d :: r) = (unq r).map fun x => (39 :: x.1, x.2 + 2) := by
  rw [unq, if_pos h, if_pos hd]
theorem byte_39 (c : UInt8) (h : c.toNat = 39) : c = 39 := UInt8.toNat_inj.1 (by rw [h]; rfl)
theorem unq_len (l : List UInt8) : ∀ x, unq l = some x → x.1.length + 1 ≤ x.2 ∧ x.2 ≤ l.length := by
  match l with
  | [] => intro x h; cases h
  | [c] => intro x h; by_cases hc : c.toNat = 39 <;> simp [unq, hc] at h; subst h; simp
  | c :: d :: r =>
    intro x h
    rw [unq] at h
    split at h
    · split at h
      · obtain ⟨y, hy, rfl⟩ := Option.map_eq_some_iff.1 h
        have := unq_len r y hy
        simp; omega
      · cases h; simp
    · obtain ⟨y, hy, rfl⟩ := Option.map_eq_some_iff.1 h
      have := unq_len (d :: r) y hy
      simp at *; omega
theorem lexTok_len (l : List UInt8) (k : Nat) (t : List UInt8) (n : Nat) (h : lexTok l = .tok k t n) : 1 ≤ n ∧ n ≤ l.length ∧ t.length ≤ n := by
  cases l with
  | nil => cases h
  | cons c r =>
    rw [lexTok] at h
    split at h
    · rename_i hc; cases h; have := runLen_le isUpper (c :: r); rw [runLen_cons_yes _ _ _ hc] at *; simp at *; omega
    · split at h
      · rename_i hc; cases h; have := runLen_le isInner (c :: r)
        rw [runLen_cons_yes _ _ _ (by simp [isLower, isInner] at *; omega)] at *; simp at *; omega
      · split at h
        · rename_i hc; cases h; have := runLen_le isDigit (c :: r); rw [runLen_cons_yes _ _ _ hc] at *; simp at *; omega
        · split at h
          · cases hu : unq r with
            | none => rw [hu] at h; cases h
            | some x => rw [hu] at h; cases h; have := unq_len r x hu; simp; omega
          · split at h
            · cases h; simp
            · cases h
theorem takeWhile_all (p : UInt8 → Bool) (l : List UInt8) : (l.take (runLen p l)).all p = true := by
  rw [take_runLen]; simp [List.all_eq_true]
theorem take_runLen_cons (p : UInt8 → Bool) (c : UInt8) (l : List UInt8) (h : p c = true) : (c :: l).take (runLen p (c :: l)) = c :: l.take (runLen p l) := by
  rw [runLen_cons_yes _ _ _ h]; rfl
theorem lexTok_valid (l : List UInt8) (k : Nat) (t : List UInt8) (n : Nat) (h : lexTok l = .tok k t n) : validT k t = shortT k t.length ∧ 1 ≤ k ∧ k ≤ 5 := by
  cases l with
  | nil => cases h
  | cons c r =>
    rw [lexTok] at h
    split at h
    · rename_i hc; cases h
      have ha := takeWhile_all isUpper (c :: r)
      rw [take_runLen_cons _ _ _ hc] at *
      refine ⟨?_, by omega, by omega⟩
      simp only [validT, shortT, ha]; simp
    · split at h
      · rename_i hc; cases h
        have hi : isInner c = true := by simp [isLower, isInner] at *; omega
        have ha := takeWhile_all isInner (c :: r)
        rw [take_runLen_cons _ _ _ hi] at *
        refine ⟨?_, by omega, by omega⟩
        simp only [validT, shortT, ha, hc]; simp
      · split at h
        · rename_i hc; cases h
          have ha := takeWhile_all isDigit (c :: r)
          rw [take_runLen_cons _ _ _ hc] at *
          refine ⟨?_, by omega, by omega⟩
          simp only [validT, shortT, ha]; simp
        · split at h
          · cases hu : unq r with
            | none => rw [hu] at h; cases h
            | some x => rw [hu] at h; cases h; exact ⟨by simp [validT, shortT], by omega, by omega⟩
          · split at h
            · rename_i hs; cases h; exact ⟨by simp [validT, shortT, hs], by decide, by decide⟩
            · cases h
def signAt (c : UInt8) : Int := Lib.indexByte signs c
theorem signAt_sign (c : UInt8) : decide (0 ≤ signAt c) = isSign c := indexByte_mem signs c
end Go.Proofs.YtbabencadnlmlaaDoor
