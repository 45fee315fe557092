/- Plain laws of scanning: what a successful scan looks like; scanning what was formatted; white space; limits. No program in sight. No condition. -/
import Derived.Test.YtbabencadnlmlaaDoorLexP
namespace Go.Proofs.YtbabencadnlmlaaDoor

/-- Tokens as a scan hands them out, from a position on. -/
def Good (lo : Nat) : List Tok → Prop
  | [] => True
  | t :: ts => (lo : Int) ≤ t.pos ∧ (∃ k : Nat, t.kind = k ∧ 1 ≤ k ∧ k ≤ 5) ∧ validT t.kind t.text = true ∧ ∃ p : Nat, t.pos = p ∧ Good (p + 1) ts

theorem isSpace_lexTok (c : UInt8) (r : List UInt8) (h : isSpace c = true) : lexTok (c :: r) = .bad := by
  have h' : c.toNat = 32 ∨ c.toNat = 9 ∨ c.toNat = 10 ∨ c.toNat = 13 := by simpa [isSpace] using h
  have h1 : isUpper c = false := by simp [isUpper]; omega
  have h2 : isLower c = false := by simp [isLower]; omega
  have h3 : isDigit c = false := by simp [isDigit]; omega
  have h4 : isSign c = false := by
    have hc : ∀ n : Nat, c.toNat = n → c = UInt8.ofNat n := fun n e => by rw [← e]; simp
    rcases h' with e | e | e | e <;> rw [hc _ e] <;> decide
  rw [lexTok, if_neg (by simp [h1]), if_neg (by simp [h2]), if_neg (by simp [h3]), if_neg (by omega), if_neg (by simp [h4])]

theorem scanF_ok (f : Nat) : ∀ (l : List UInt8) (pos : Nat) (acc : List Tok), l.length < f → acc.length ≤ 1000 →
    ((scanF f l pos acc).err ≠ 0 ∧ (scanF f l pos acc).toks = [] ∨
     ∃ ts, scanF f l pos acc = ⟨acc ++ ts ++ [⟨6, (pos + l.length : Nat), []⟩], 0, 0⟩ ∧ Good pos ts ∧ acc.length + ts.length ≤ 1000) := by
  induction f with
  | zero => intro l pos acc h; omega
  | succ f ih =>
    intro l pos acc h ha
    cases l with
    | nil => exact .inr ⟨[], by simp [scanF], trivial, by simpa using ha⟩
    | cons c r =>
      rw [scanF]
      by_cases hs : isSpace c = true
      · rw [if_pos hs]
        rcases ih r (pos + 1) acc (by simpa using h) ha with h1 | ⟨ts, h1, h2, h3⟩
        · exact .inl h1
        · refine .inr ⟨ts, by rw [h1, show pos + 1 + r.length = pos + (c :: r).length by simp; omega], ?_, h3⟩
          cases ts with
          | nil => trivial
          | cons t ts => exact ⟨by have := h2.1; omega, h2.2⟩
      · rw [if_neg hs]
        rcases hL : lexTok (c :: r) with ⟨k, t, n⟩ | _ | _
        · simp only
          by_cases hc : (shortT k t.length && decide (acc.length < 1000)) = true
          · rw [if_pos hc]
            simp at hc
            have hl := lexTok_len _ _ _ _ hL
            have hv := lexTok_valid _ _ _ _ hL
            have hdl : ((c :: r).drop n).length = (c :: r).length - n := List.length_drop
            rcases ih ((c :: r).drop n) (pos + n) (acc ++ [⟨k, pos, t⟩]) (by omega) (by simp; omega) with h1 | ⟨ts, h1, h2, h3⟩
            · exact .inl h1
            · refine .inr ⟨⟨k, pos, t⟩ :: ts, ?_, ⟨by simp, ⟨k, rfl, hv.2.1, hv.2.2⟩, by rw [hv.1]; exact hc.1, pos, rfl, ?_⟩, by simp at h3 ⊢; omega⟩
              · rw [h1]
                have : pos + n + ((c :: r).drop n).length = pos + (c :: r).length := by omega
                rw [this]; simp
              · cases ts with
                | nil => trivial
                | cons t' ts => exact ⟨by have := h2.1; omega, h2.2⟩
          · rw [if_neg hc]; exact .inl ⟨by simp, rfl⟩
        · exact .inl ⟨by simp, rfl⟩
        · exact .inl ⟨by simp, rfl⟩

theorem scan_ok (l : List UInt8) : ((scan l).err ≠ 0 ∧ (scan l).toks = []) ∨
    ∃ ts, scan l = ⟨ts ++ [⟨6, l.length, []⟩], 0, 0⟩ ∧ Good 0 ts ∧ ts.length ≤ 1000 ∧ l.length ≤ 4000 := by
  unfold scan
  split
  · exact .inl ⟨by simp, rfl⟩
  · rcases scanF_ok (l.length + 1) l 0 [] (by omega) (by simp) with h | ⟨ts, h1, h2, h3⟩
    · exact .inl h
    · exact .inr ⟨ts, by simpa using h1, h2, by simpa using h3, by omega⟩

/-! ### Scanning what was formatted -/

theorem runLen_app (p : UInt8 → Bool) (t r : List UInt8) (h : t.all p = true) (hr : ∀ c q, r = c :: q → p c = false) : runLen p (t ++ r) = t.length := by
  induction t with
  | nil => cases r with
    | nil => rfl
    | cons c q => exact runLen_cons_no _ _ _ (hr c q rfl)
  | cons c t ih =>
    simp at h
    rw [List.cons_append, runLen_cons_yes _ _ _ h.1, ih (by simpa using h.2), List.length_cons]
theorem unq_app (t r : List UInt8) (hr : ∀ c q, r = c :: q → c.toNat ≠ 39) : unq (dbl t ++ 39 :: r) = some (t, (dbl t).length + 1) := by
  induction t with
  | nil => exact unq_close 39 r rfl hr
  | cons c t ih =>
    by_cases h : c = 39
    · subst h
      have : dbl (39 :: t) = 39 :: 39 :: dbl t := by simp [dbl]
      rw [this, List.cons_append, List.cons_append, unq_dbl _ _ _ rfl rfl, ih]; simp
    · have : dbl (c :: t) = c :: dbl t := by simp [dbl, h]
      rw [this, List.cons_append, unq_plain _ _ (fun e => h (byte_39 c e)), ih]; simp

theorem space_not (c : UInt8) (h : isSpace c = true) : isUpper c = false ∧ isInner c = false ∧ isDigit c = false ∧ c.toNat ≠ 39 := by
  have h' : c.toNat = 32 ∨ c.toNat = 9 ∨ c.toNat = 10 ∨ c.toNat = 13 := by simpa [isSpace] using h
  refine ⟨?_, ?_, ?_, by omega⟩
  · simp [isUpper]; omega
  · simp [isInner]; omega
  · simp [isDigit]; omega

/-- A valid token, formatted, behind it the end or white space: it is scanned again. -/
theorem lexTok_fmt (t : Tok) (k : Nat) (hk : t.kind = k) (h1 : 1 ≤ k) (h5 : k ≤ 5) (hv : validT t.kind t.text = true) (r : List UInt8) (hr : ∀ c q, r = c :: q → isSpace c = true) :
    lexTok (fmtText t ++ r) = .tok k t.text (fmtText t).length := by
  have hup : ∀ c q, r = c :: q → isUpper c = false := fun c q e => (space_not c (hr c q e)).1
  have hin : ∀ c q, r = c :: q → isInner c = false := fun c q e => (space_not c (hr c q e)).2.1
  have hdi : ∀ c q, r = c :: q → isDigit c = false := fun c q e => (space_not c (hr c q e)).2.2.1
  have hqu : ∀ c q, r = c :: q → c.toNat ≠ 39 := fun c q e => (space_not c (hr c q e)).2.2.2
  rw [hk] at hv
  rcases (by omega : k = 1 ∨ k = 2 ∨ k = 3 ∨ k = 4 ∨ k = 5) with e | e | e | e | e <;> subst e
  · have hf : fmtText t = t.text := if_neg (by rw [hk]; decide)
    rw [hf]
    simp [validT] at hv
    have hall : t.text.all isUpper = true := by simpa using hv.1.2
    cases htx : t.text with
    | nil => simp [htx] at hv
    | cons c q =>
      rw [htx] at hall
      have hc : isUpper c = true := by simp at hall; exact hall.1
      have hl := runLen_app isUpper (c :: q) r hall hup
      rw [List.cons_append] at hl ⊢
      rw [lexTok, if_pos hc, hl, ← List.cons_append, List.take_left]
  · have hf : fmtText t = t.text := if_neg (by rw [hk]; decide)
    rw [hf]
    cases htx : t.text with
    | nil => simp [htx, validT] at hv
    | cons c q =>
      rw [htx] at hv
      simp [validT] at hv
      have hall : (c :: q).all isInner = true := by simp; exact hv.1.2
      have hc : isLower c = true := hv.1.1
      have hcu : isUpper c = false := by simp [isLower] at hc; simp [isUpper]; omega
      have hl := runLen_app isInner (c :: q) r hall hin
      rw [List.cons_append] at hl ⊢
      rw [lexTok, if_neg (by simp [hcu]), if_pos hc, hl, ← List.cons_append, List.take_left]
  · have hf : fmtText t = t.text := if_neg (by rw [hk]; decide)
    rw [hf]
    simp [validT] at hv
    have hall : t.text.all isDigit = true := by simpa using hv.1.2
    cases htx : t.text with
    | nil => simp [htx] at hv
    | cons c q =>
      rw [htx] at hall
      have hc : isDigit c = true := by simp at hall; exact hall.1
      have hcu : isUpper c = false := by simp [isDigit] at hc; simp [isUpper]; omega
      have hcl : isLower c = false := by simp [isDigit] at hc; simp [isLower]; omega
      have hl := runLen_app isDigit (c :: q) r hall hdi
      rw [List.cons_append] at hl ⊢
      rw [lexTok, if_neg (by simp [hcu]), if_neg (by simp [hcl]), if_pos hc, hl, ← List.cons_append, List.take_left]
  · have hf : fmtText t = [39] ++ dbl t.text ++ [39] := if_pos hk
    have e : fmtText t ++ r = 39 :: (dbl t.text ++ 39 :: r) := by rw [hf]; simp
    have hl : (fmtText t).length = (dbl t.text).length + 1 + 1 := by rw [hf]; simp
    rw [e, lexTok, if_neg (by decide), if_neg (by decide), if_neg (by decide), if_pos (by decide), unq_app _ _ hqu, hl]
  · have hf : fmtText t = t.text := if_neg (by rw [hk]; decide)
    rw [hf]
    match htx : t.text, hv with
    | [c], hv =>
      have hs : isSign c = true := hv
      have hc : c ∈ signs := by simpa [isSign] using hs
      have hcl : isUpper c = false ∧ isLower c = false ∧ isDigit c = false ∧ c.toNat ≠ 39 := by
        have hd : ∀ c ∈ signs, isUpper c = false ∧ isLower c = false ∧ isDigit c = false ∧ c.toNat ≠ 39 := by decide
        exact hd c hc
      rw [List.cons_append, List.nil_append, lexTok, if_neg (by simp [hcl.1]), if_neg (by simp [hcl.2.1]), if_neg (by simp [hcl.2.2.1]), if_neg hcl.2.2.2, if_pos hs]; rfl

/-- Kinds and texts. -/
def kt (t : Tok) : Int × List UInt8 := (t.kind, t.text)
def render (ps : List (List UInt8 × Tok)) : List UInt8 := ps.flatMap fun x => x.1 ++ fmtText x.2

theorem validT_short (k : Int) (t : List UInt8) (h : validT k t = true) (h1 : 1 ≤ k) (h5 : k ≤ 5) : shortT k t.length = true := by
  rcases (by omega : k = 1 ∨ k = 2 ∨ k = 3 ∨ k = 4 ∨ k = 5) with e | e | e | e | e <;> subst e
  · simp [validT, shortT] at *; omega
  · simp [validT, shortT] at *; omega
  · simp [validT, shortT] at *; omega
  · simp [validT, shortT] at *; omega
  · match t, h with
    | [c], _ => rfl
theorem scanF_ws (ws : List UInt8) (hws : ∀ c ∈ ws, isSpace c = true) : ∀ (l : List UInt8) (f pos : Nat) (acc : List Tok), (ws ++ l).length < f →
    ∃ g, l.length < g ∧ scanF f (ws ++ l) pos acc = scanF g l (pos + ws.length) acc := by
  induction ws with
  | nil => intro l f pos acc h; exact ⟨f, h, rfl⟩
  | cons c ws ih =>
    intro l f pos acc h
    obtain ⟨f, rfl⟩ : ∃ f', f = f' + 1 := ⟨f - 1, by simp at h; omega⟩
    obtain ⟨g, h1, h2⟩ := ih (fun c hc => hws c (List.mem_cons_of_mem _ hc)) l f (pos + 1) acc (by simp at h ⊢; omega)
    refine ⟨g, h1, ?_⟩
    rw [List.cons_append, scanF_space _ _ _ _ _ (hws c (List.mem_cons_self ..)), h2, List.length_cons, Nat.add_right_comm, Nat.add_assoc]

theorem scanF_render (ps : List (List UInt8 × Tok)) (wend : List UInt8) (hend : ∀ c ∈ wend, isSpace c = true) : ∀ (f pos : Nat) (acc : List Tok),
    (∀ x ∈ ps, (∀ c ∈ x.1, isSpace c = true) ∧ (∃ k : Nat, x.2.kind = k ∧ 1 ≤ k ∧ k ≤ 5) ∧ validT x.2.kind x.2.text = true) →
    (∀ x ∈ ps.drop 1, x.1 ≠ []) → (render ps ++ wend).length < f → acc.length + ps.length ≤ 1000 →
    ∃ ts, scanF f (render ps ++ wend) pos acc = ⟨acc ++ ts ++ [⟨6, (pos + (render ps ++ wend).length : Nat), []⟩], 0, 0⟩ ∧ ts.map kt = ps.map (fun x => kt x.2) := by
  induction ps with
  | nil =>
    intro f pos acc _ _ hf _
    obtain ⟨g, h1, h2⟩ := scanF_ws wend hend [] f pos acc (by simpa [render] using hf)
    obtain ⟨g, rfl⟩ : ∃ g', g = g' + 1 := ⟨g - 1, by simp at h1; omega⟩
    refine ⟨[], ?_, rfl⟩
    rw [List.append_nil] at h2
    have e : render [] ++ wend = wend := rfl
    rw [e, h2, scanF_end]; simp
  | cons x ps ih =>
    intro f pos acc hx hne hf hacc
    obtain ⟨hws, ⟨k, hk, hk1, hk5⟩, hv⟩ := hx x (List.mem_cons_self ..)
    have e : render (x :: ps) ++ wend = x.1 ++ (fmtText x.2 ++ (render ps ++ wend)) := by simp [render]
    rw [e] at hf ⊢
    obtain ⟨g, h1, h2⟩ := scanF_ws x.1 hws (fmtText x.2 ++ (render ps ++ wend)) f pos acc hf
    obtain ⟨g, rfl⟩ : ∃ g', g = g' + 1 := ⟨g - 1, by omega⟩
    have hrest : ∀ c q, render ps ++ wend = c :: q → isSpace c = true := by
      intro c q hcq
      cases ps with
      | nil => exact hend c (by rw [show render [] ++ wend = wend from rfl] at hcq; rw [hcq]; exact List.mem_cons_self ..)
      | cons y ps =>
        have hy := hne y (by simp)
        have hyw := (hx y (by simp)).1
        cases hy1 : y.1 with
        | nil => exact absurd hy1 hy
        | cons d ws =>
          simp [render, hy1] at hcq
          rw [← hcq.1]
          exact hyw d (by rw [hy1]; exact List.mem_cons_self ..)
    have hL := lexTok_fmt x.2 k hk hk1 hk5 hv (render ps ++ wend) hrest
    have hlen := lexTok_len _ _ _ _ hL
    have hsh : shortT k x.2.text.length = true := by rw [← hk]; exact validT_short _ _ hv (by omega) (by omega)
    cases hcr : fmtText x.2 ++ (render ps ++ wend) with
    | nil => rw [hcr] at hlen; simp only [List.length_nil] at hlen; omega
    | cons c r =>
      have hns : isSpace c = false := by
        cases hs : isSpace c with
        | false => rfl
        | true => rw [hcr, isSpace_lexTok c r hs] at hL; cases hL
      have hdrop : (c :: r).drop (fmtText x.2).length = render ps ++ wend := by rw [← hcr]; exact List.drop_left
      have hl2 : (c :: r).length = (fmtText x.2).length + (render ps ++ wend).length := by rw [← hcr, List.length_append]
      obtain ⟨ts, h3, h4⟩ := ih g (pos + x.1.length + (fmtText x.2).length) (acc ++ [⟨k, (pos + x.1.length : Nat), x.2.text⟩])
        (fun y hy => hx y (List.mem_cons_of_mem _ hy)) (fun y hy => hne y (by simp; exact List.mem_of_mem_drop hy)) (by rw [hcr] at h1; omega) (by simp at hacc ⊢; omega)
      refine ⟨⟨k, (pos + x.1.length : Nat), x.2.text⟩ :: ts, ?_, by simp [h4, kt, hk]⟩
      rw [hcr] at h2
      rw [h2, scanF, if_neg (by simp [hns]), ← hcr, hL, hcr]
      simp only [hsh, Bool.true_and]
      rw [if_pos (by simp at hacc ⊢; omega), hdrop, h3]
      have : pos + x.1.length + (fmtText x.2).length + (render ps ++ wend).length = pos + (x.1 ++ c :: r).length := by rw [List.length_append (as := x.1), hl2]; omega
      rw [this]; simp only [List.append_assoc, List.cons_append, List.nil_append]

/-! ### The limits -/

def parens (k : Nat) : List UInt8 := (List.replicate k [40, 32]).flatten
theorem parens_length (k : Nat) : (parens k).length = 2 * k := by
  induction k with
  | zero => rfl
  | succ k ih => rw [parens, List.replicate_succ, List.flatten_cons, List.length_append]; simp [parens] at ih ⊢; omega
theorem scanF_parens (k : Nat) : ∀ (f pos : Nat) (acc : List Tok), 2 * k < f →
    (acc.length + k ≤ 1000 → ∃ ts, scanF f (parens k) pos acc = ⟨acc ++ ts ++ [⟨6, (pos + 2 * k : Nat), []⟩], 0, 0⟩ ∧ ts.length = k) ∧
    (acc.length ≤ 1000 → 1000 < acc.length + k → scanF f (parens k) pos acc = ⟨[], pos + 2 * (1000 - acc.length), 4⟩) := by
  induction k with
  | zero =>
    intro f pos acc h
    obtain ⟨f, rfl⟩ : ∃ f', f = f' + 1 := ⟨f - 1, by omega⟩
    exact ⟨fun _ => ⟨[], by simp [parens, scanF], rfl⟩, fun h1 h2 => by omega⟩
  | succ k ih =>
    intro f pos acc h
    obtain ⟨f, rfl⟩ : ∃ f', f = f' + 2 := ⟨f - 2, by omega⟩
    have e : parens (k + 1) = 40 :: 32 :: parens k := rfl
    have hL : lexTok (40 :: 32 :: parens k) = .tok 5 [40] 1 := rfl
    have step : acc.length < 1000 → scanF (f + 2) (parens (k + 1)) pos acc = scanF f (parens k) (pos + 1 + 1) (acc ++ [⟨5, pos, [40]⟩]) := by
      intro ha
      rw [e, scanF, if_neg (by decide), hL]
      simp only
      rw [if_pos (by simp [shortT]; exact ha)]
      exact scanF_space f 32 (parens k) (pos + 1) _ rfl
    constructor
    · intro ha
      obtain ⟨ts, h1, h2⟩ := (ih f (pos + 1 + 1) (acc ++ [⟨5, pos, [40]⟩]) (by omega)).1 (by simp; omega)
      refine ⟨⟨5, pos, [40]⟩ :: ts, ?_, by simp [h2]⟩
      rw [step (by omega), h1]
      have : pos + 1 + 1 + 2 * k = pos + 2 * (k + 1) := by omega
      rw [this]; simp
    · intro ha hb
      by_cases hlt : acc.length < 1000
      · rw [step hlt, (ih f (pos + 1 + 1) (acc ++ [(⟨5, (pos : Int), [40]⟩ : Tok)]) (by omega)).2 (by simp; omega) (by simp; omega)]
        have : pos + 1 + 1 + 2 * (1000 - (acc ++ [(⟨5, pos, [40]⟩ : Tok)]).length) = pos + 2 * (1000 - acc.length) := by simp; omega
        rw [this]
      · rw [e, scanF, if_neg (by decide), hL]
        simp only
        rw [if_neg (by simp; intro _; omega)]
        have : 1000 - acc.length = 0 := by omega
        rw [this]; rfl
end Go.Proofs.YtbabencadnlmlaaDoor
