/- A part of the proofs: Lvp, ValP, ValQ, ValS, ShNum, ShBlw, Key, Nrp, ShSe, Evs, Lvw, MapS, Rky, ShSt, Cmt. No condition beside sizes and tables that read as laid. -/
import Derived.Test.YtngigmpaabmngaaGreatDoorMgAb
import Derived.Lib.ParseIntBTie
import Derived.Lib.ItoaLen
import Derived.Lib.Replace
import Derived.Lib.SplitLaws
import Derived.Test.YtngigmpaabmngaaGreatDoorMgAa
import Derived.Shelf.Strings.Builder1
import Derived.Shelf.Strings.Builder2
import Derived.Shelf.Small.Strs
import Derived.Shelf.Strings.BuilderF
import Derived.Shelf.Strings.BuilderK
import Derived.Shelf.Strconv.Itoa0
import Derived.Shelf.Strconv.Itoa1
import Derived.Shelf.LaysM
import Derived.Shelf.Strconv.Itoa2
import Derived.Shelf.Strconv.Itoa3
import Derived.Shelf.Strconv.Itoa4
import Derived.Shelf.Strconv.ParseIntEmpty
import Derived.Shelf.Strconv.Clone
import Derived.Shelf.Strconv.SyntaxError
import Derived.Shelf.LaysC
import Derived.Shelf.Strconv.ToError
import Derived.Shelf.Strconv.Lower
import Derived.Shelf.Strconv.ParseUint10
import Derived.Shelf.Strconv.ParseUint10Empty
import Derived.Shelf.Strconv.ParseUint10Any
import Derived.Shelf.Strconv.ParseInt10
import Derived.Shelf.Strconv.RangeError
import Derived.Shelf.Strconv.ToErrorRange
import Derived.Shelf.Strconv.ParseUintEmpty
import Derived.Shelf.Strconv.ParseUint10b64
import Derived.Shelf.Strconv.ParseUint10b32
import Derived.Shelf.Strconv.ParseUint10b16
import Derived.Shelf.Strconv.ParseUint10b8
import Derived.Shelf.Strconv.ParseUint10At
import Derived.Shelf.Strconv.ParseInt10At64
import Derived.Shelf.Strconv.ParseInt10At32
import Derived.Shelf.Strconv.ParseInt10At16
import Derived.Shelf.Strconv.ParseInt10At8
import Derived.Shelf.Strconv.ParseInt10All
import Derived.Shelf.Strconv.ParseIntPublic10
import Derived.Shelf.Strconv.ErrVarParseInt
import Derived.Shelf.Strings.Search1
import Derived.Shelf.Strings.Search2
import Derived.Shelf.Strings.Search3
import Derived.Shelf.Strings.Count
import Derived.Shelf.Strings.Shaped
import Derived.Shelf.Strings.Prefix
import Derived.Shelf.Strings.Split
import Derived.Shelf.Strings.Replace
import Derived.Shelf.Strings.SplitShaped
import Derived.Shelf.Unicode.DecodeSlow
import Derived.Test.YtngigmpaabmngaaGreatDoorProg
import Derived.Lib.SmallJoins
import Derived.Lib.AppendIntMem
import Derived.Shelf.SlLaysF0
import Derived.Maps.OwnSet
import Derived.Maps.OwnOps
import Derived.Maps.RangeWalk
import Derived.Maps.Views
import Derived.Shelf.SlSortCmp.NoneTotal
namespace Go.Proofs.YtngigmpaabmngaaGreatDoor
open Go.RowKit

/-- How many periods hold at t. -/
def cntP (ps : List (Int × Int)) (t : Int) : Nat := ps.countP fun p => pincl p.1 p.2 t
/-- Two periods are apart (they do not touch), or one lies in the other. -/
def LamP (p q : Int × Int) : Prop := p.2 < q.1 ∨ q.2 < p.1 ∨ (p.1 ≤ q.1 ∧ q.2 ≤ p.2) ∨ (q.1 ≤ p.1 ∧ p.2 ≤ q.2)
theorem LamP.symm {p q : Int × Int} (h : LamP p q) : LamP q p := by unfold LamP at *; omega
/-- M are the levels of ps. -/
structure LevOf (ps M : List (Int × Int)) : Prop where
  valid : ∀ p ∈ M, pvalid p.1 p.2 = true
  lam : M.Pairwise LamP
  cnt : ∀ t, cntP M t = cntP ps t
/-- The number of open levels that started by t. -/
def opn (open' : List Int) (t : Int) : Nat := open'.countP fun o => decide (o ≤ t)
theorem opn_all {l : List Int} {t : Int} (h : ∀ o ∈ l, o ≤ t) : opn l t = l.length := by unfold opn; rw [List.countP_eq_length]; intro o ho; simpa using h o ho
theorem cnt_none {l : List (Int × Int)} {t : Int} (h : ∀ p ∈ l, p.2 ≤ t) : cntP l t = 0 := by
  unfold cntP
  rw [List.countP_eq_zero]
  intro p hp hi
  have := (pincl_iff.1 hi).2.2
  have := h p hp
  omega
/-- What holds of the open levels and of the periods made so far, up to X. -/
structure LvI (c : Int → Nat) (X : Int) (open' : List Int) (out : List (Int × Int)) : Prop where
  lam : out.Pairwise LamP
  val : ∀ p ∈ out, pvalid p.1 p.2 = true ∧ p.2 ≤ X
  bnd : ∀ o ∈ open', 0 ≤ o ∧ o ≤ X
  srt : open'.Pairwise (· ≤ ·)
  rel : ∀ p ∈ out, ∀ o ∈ open', p.2 < o ∨ o ≤ p.1
  cnt : ∀ t, t < X → cntP out t + opn open' t = c t
theorem LvI.start {c : Int → Nat} (h : ∀ t, t < 0 → c t = 0) : LvI c (-1) [] [] :=
  ⟨.nil, by simp, by simp, .nil, by simp, fun t ht => by rw [h t (by omega)]; rfl⟩
theorem LvI.raise {c : Int → Nat} {X Y : Int} {open' : List Int} {out : List (Int × Int)} (h : LvI c X open' out) (hXY : X < Y) (hc : ∀ t, X ≤ t → t < Y → c t = open'.length) :
    LvI c Y open' out ∧ (∀ o ∈ open', o < Y) ∧ ∀ p ∈ out, p.2 < Y := by
  refine ⟨⟨h.lam, fun p hp => ⟨(h.val p hp).1, by have := (h.val p hp).2; omega⟩, fun o ho => ⟨(h.bnd o ho).1, by have := (h.bnd o ho).2; omega⟩, h.srt, h.rel, fun t ht => ?_⟩, fun o ho => by have := (h.bnd o ho).2; omega, fun p hp => by have := (h.val p hp).2; omega⟩
  by_cases h1 : t < X
  · exact h.cnt t h1
  · rw [cnt_none (fun p hp => by have := (h.val p hp).2; omega), opn_all (fun o ho => by have := (h.bnd o ho).2; omega), hc t (by omega) ht, Nat.zero_add]
theorem LvI.pop {c : Int → Nat} {X o : Int} {open' : List Int} {out : List (Int × Int)} (h : LvI c X (open' ++ [o]) out) (ho : o < X) (hX : X ≤ 1099511627776) : LvI c X open' (out ++ [(o, X)]) := by
  have ho0 := (h.bnd o (by simp)).1
  have hv : pvalid o X = true := pvalid_iff.2 ⟨ho0, ho, hX⟩
  refine ⟨?_, ?_, fun x hx => h.bnd x (by simp [hx]), (List.pairwise_append.1 h.srt).1, ?_, fun t ht => ?_⟩
  · rw [List.pairwise_append]
    refine ⟨h.lam, by simp, fun p hp q hq => ?_⟩
    simp at hq
    subst hq
    have h1 := (h.val p hp).2
    have h2 := h.rel p hp o (by simp)
    unfold LamP
    dsimp only
    omega
  · intro p hp
    rw [List.mem_append] at hp
    rcases hp with hp | hp
    · exact h.val p hp
    · simp at hp; subst hp; exact ⟨hv, Int.le_refl _⟩
  · intro p hp x hx
    rw [List.mem_append] at hp
    rcases hp with hp | hp
    · exact h.rel p hp x (by simp [hx])
    · simp at hp
      subst hp
      exact .inr ((List.pairwise_append.1 h.srt).2.2 x hx o (by simp))
  · have h1 := h.cnt t ht
    unfold cntP opn at h1 ⊢
    rw [List.countP_append] at h1 ⊢
    have e : List.countP (fun p : Int × Int => pincl p.1 p.2 t) [(o, X)] = List.countP (fun o => decide (o ≤ t)) [o] := by
      rw [List.countP_singleton, List.countP_singleton]
      dsimp only
      have : pincl o X t = decide (o ≤ t) := by
        rw [Bool.eq_iff_iff, pincl_iff, decide_eq_true_eq]
        exact ⟨fun h => h.2.1, fun h => ⟨hv, h, ht⟩⟩
      rw [this]
    omega
theorem LvI.push {c : Int → Nat} {X : Int} {open' : List Int} {out : List (Int × Int)} (h : LvI c X open' out) (h0 : 0 ≤ X) (hp : ∀ p ∈ out, p.2 < X) : LvI c X (open' ++ [X]) out := by
  refine ⟨h.lam, h.val, fun o ho => ?_, ?_, fun p hp' o ho => ?_, fun t ht => ?_⟩
  · rw [List.mem_append] at ho
    rcases ho with ho | ho
    · exact h.bnd o ho
    · simp at ho; subst ho; exact ⟨h0, Int.le_refl _⟩
  · rw [List.pairwise_append]
    refine ⟨h.srt, by simp, fun a ha b hb => ?_⟩
    simp at hb
    subst hb
    exact (h.bnd a ha).2
  · rw [List.mem_append] at ho
    rcases ho with ho | ho
    · exact h.rel p hp' o ho
    · simp at ho; subst ho; exact .inl (hp p hp')
  · have h1 := h.cnt t ht
    unfold opn at h1 ⊢
    rw [List.countP_append, List.countP_singleton]
    have : decide (X ≤ t) = false := by simp; omega
    rw [this]
    simpa using h1

/-- The events of some periods: a start counts 1, an end -1. -/
def evsOf (ps : List (Int × Int)) : List (Int × Int) := ps.flatMap fun p => [(p.1, 1), (p.2, -1)]
def sumE (es : List (Int × Int)) : Int := (es.map (·.2)).sum
theorem sumE_append (a b : List (Int × Int)) : sumE (a ++ b) = sumE a + sumE b := by unfold sumE; rw [List.map_append, List.sum_append]
theorem sumE_cons (x : Int × Int) (b : List (Int × Int)) : sumE (x :: b) = x.2 + sumE b := rfl
theorem sumE_perm {a b : List (Int × Int)} (h : a.Perm b) : sumE a = sumE b := by
  induction h with
  | nil => rfl
  | cons x _ ih => rw [sumE_cons, sumE_cons, ih]
  | swap x y l => rw [sumE_cons, sumE_cons, sumE_cons, sumE_cons]; omega
  | trans _ _ ih1 ih2 => rw [ih1, ih2]
theorem sumE_upto (ps : List (Int × Int)) (hv : ∀ p ∈ ps, pvalid p.1 p.2 = true) (t : Int) : sumE ((evsOf ps).filter fun e => decide (e.1 ≤ t)) = cntP ps t := by
  induction ps with
  | nil => rfl
  | cons p ps ih =>
    have h1 := ih fun x hx => hv x (.tail _ hx)
    have h2 := hv p (.head _)
    obtain ⟨_, h3, _⟩ := pvalid_iff.1 h2
    have e : evsOf (p :: ps) = (p.1, 1) :: (p.2, -1) :: evsOf ps := rfl
    have ec : cntP (p :: ps) t = cntP ps t + if pincl p.1 p.2 t = true then 1 else 0 := by unfold cntP; rw [List.countP_cons]
    rw [e, ec, List.filter_cons, List.filter_cons]
    dsimp only
    by_cases hi : pincl p.1 p.2 t = true
    · obtain ⟨_, h4, h5⟩ := pincl_iff.1 hi
      rw [if_pos hi, if_pos (by simpa using h4), if_neg (by simp; omega), sumE_cons, h1]
      dsimp only
      omega
    · have h6 : ¬ (p.1 ≤ t ∧ t < p.2) := fun h => hi (pincl_iff.2 ⟨h2, h⟩)
      rw [if_neg hi]
      by_cases h7 : p.1 ≤ t
      · rw [if_pos (by simpa using h7), if_pos (by simp; omega), sumE_cons, sumE_cons, h1]
        dsimp only
        omega
      · rw [if_neg (by simpa using h7), if_neg (by simp; omega), h1]
        omega
theorem sumE_all (ps : List (Int × Int)) : sumE (evsOf ps) = 0 := by
  induction ps with
  | nil => rfl
  | cons p ps ih => show sumE ((p.1, 1) :: (p.2, -1) :: evsOf ps) = 0; rw [sumE_cons, sumE_cons, ih]; rfl
/-- The sum of the events up to a place that parts them from the later ones. -/
theorem sumE_cut {ps es a b : List (Int × Int)} (hp : es.Perm (evsOf ps)) (hv : ∀ p ∈ ps, pvalid p.1 p.2 = true) (e : es = a ++ b) {t : Int} (ha : ∀ x ∈ a, x.1 ≤ t) (hb : ∀ x ∈ b, t < x.1) : sumE a = cntP ps t := by
  rw [← sumE_upto ps hv t, ← sumE_perm (hp.filter _), e, List.filter_append, List.filter_eq_self.2 (fun x hx => by simpa using ha x hx), List.filter_eq_nil_iff.2 (fun x hx => by have := hb x hx; simp; omega), List.append_nil]
theorem evs_range {ps : List (Int × Int)} (hv : ∀ p ∈ ps, pvalid p.1 p.2 = true) : ∀ e ∈ evsOf ps, 0 ≤ e.1 ∧ e.1 ≤ 1099511627776 ∧ (e.2 = 1 ∨ e.2 = -1) := by
  intro e he
  unfold evsOf at he
  rw [List.mem_flatMap] at he
  obtain ⟨p, hp, he⟩ := he
  obtain ⟨h1, h2, h3⟩ := pvalid_iff.1 (hv p hp)
  simp at he
  rcases he with rfl | rfl
  · exact ⟨h1, by dsimp only; omega, .inl rfl⟩
  · exact ⟨by dsimp only; omega, h3, .inr rfl⟩
theorem cnt_below {ps : List (Int × Int)} (hv : ∀ p ∈ ps, pvalid p.1 p.2 = true) {t : Int} (ht : t < 0) : cntP ps t = 0 := by
  unfold cntP
  rw [List.countP_eq_zero]
  intro p hp hi
  have := (pincl_iff.1 hi).2.1
  have := (pvalid_iff.1 (hv p hp)).1
  omega
theorem evs_length (ps : List (Int × Int)) : (evsOf ps).length = 2 * ps.length := by
  induction ps with
  | nil => rfl
  | cons p ps ih => show ((p.1, 1) :: (p.2, -1) :: evsOf ps).length = _; rw [List.length_cons, List.length_cons, ih, List.length_cons]; omega
/-- The end: nothing is open any more, and what was made are the levels. -/
theorem LvI.done {ps es open' out : List _} {X : Int} (h : LvI (cntP ps) X open' out) (hp : es.Perm (evsOf ps)) (hv : ∀ p ∈ ps, pvalid p.1 p.2 = true) (hX : ∀ e ∈ es, e.1 ≤ X) (hs : (open'.length : Int) = sumE es) : LevOf ps out := by
  have h0 : open'.length = 0 := by rw [sumE_perm hp, sumE_all] at hs; omega
  have h1 := List.eq_nil_of_length_eq_zero h0
  subst h1
  refine ⟨fun p hp => (h.val p hp).1, h.lam, fun t => ?_⟩
  by_cases ht : t < X
  · have := h.cnt t ht
    simpa [opn] using this
  · rw [cnt_none (fun p hp => by have := (h.val p hp).2; omega)]
    have := sumE_cut (a := es) (b := []) hp hv (by simp) (t := t) (fun x hx => by have := hX x hx; omega) (by simp)
    rw [sumE_perm hp, sumE_all] at this
    omega
/-- The levels of a row's periods, as tuples of that row. -/
theorem lev_rows {ps M : List (Int × Int)} (h : LevOf ps M) (r : GRow) : Lev (M.map fun p => (⟨r.vals, p.1, p.2, r.lin⟩ : Tup)) ∧ ∀ t, atDay (M.map fun p => (⟨r.vals, p.1, p.2, r.lin⟩ : Tup)) t = List.replicate (cntP ps t) r := by
  refine ⟨⟨fun x hx => ?_, ?_⟩, fun t => ?_⟩
  · obtain ⟨p, hp, rfl⟩ := List.mem_map.1 hx
    exact h.valid p hp
  · rw [List.pairwise_map]
    exact h.lam.imp (fun {a b} (h : LamP a b) => fun _ => h)
  · rw [← h.cnt t]
    clear h
    induction M with
    | nil => rfl
    | cons p M ih =>
      have ec : cntP (p :: M) t = cntP M t + if pincl p.1 p.2 t = true then 1 else 0 := by unfold cntP; rw [List.countP_cons]
      rw [List.map_cons, atDay_cons, ih, ec]
      dsimp only
      split
      · rw [List.replicate_succ]; rfl
      · rfl
/-- What holds between two groups of events: k of them are done, up to X. -/
structure LvS (ps es : List (Int × Int)) (k : Nat) (X : Int) (ol : List Int) (M : List (Int × Int)) : Prop where
  inv : LvI (cntP ps) X ol M
  depth : (ol.length : Int) = sumE (es.take k)
  old : ∀ e ∈ es.take k, e.1 ≤ X
  new : ∀ e ∈ es.drop k, X < e.1
  size : 2 * M.length + ol.length ≤ k
/-- The sorted events of some periods. -/
structure EvOf (ps es : List (Int × Int)) : Prop where
  valid : ∀ p ∈ ps, pvalid p.1 p.2 = true
  perm : es.Perm (evsOf ps)
  sorted : es.Pairwise fun x y => x.1 ≤ y.1
theorem EvOf.range {ps es : List (Int × Int)} (h : EvOf ps es) : ∀ e ∈ es, 0 ≤ e.1 ∧ e.1 ≤ 1099511627776 ∧ (e.2 = 1 ∨ e.2 = -1) := fun e he => evs_range h.valid e (h.perm.mem_iff.1 he)
theorem LvS.start {ps es : List (Int × Int)} (h : EvOf ps es) : LvS ps es 0 (-1) [] [] :=
  ⟨LvI.start fun _ ht => cnt_below h.valid ht, rfl, by simp, fun e he => by have := (h.range e (by simpa using he)).1; omega, Nat.le_refl _⟩
theorem sumE_bound {es : List (Int × Int)} (h : ∀ e ∈ es, e.2 = 1 ∨ e.2 = -1) : -(es.length : Int) ≤ sumE es ∧ sumE es ≤ es.length := by
  induction es with
  | nil => exact ⟨Int.le_refl _, Int.le_refl _⟩
  | cons x es ih =>
    have := ih fun e he => h e (.tail _ he)
    have := h x (.head _)
    rw [sumE_cons, List.length_cons]
    omega
theorem sumE_take {ps es : List (Int × Int)} (h : EvOf ps es) (j : Nat) : -(es.length : Int) ≤ sumE (es.take j) ∧ sumE (es.take j) ≤ es.length := by
  have h1 := sumE_bound (es := es.take j) fun e he => (h.range e (List.mem_of_mem_take he)).2.2
  have h2 : (es.take j).length ≤ es.length := by rw [List.length_take]; omega
  omega
theorem sumE_step {es : List (Int × Int)} {j : Nat} {x : Int × Int} (hx : es[j]? = some x) : sumE (es.take (j + 1)) = sumE (es.take j) + x.2 := by
  rw [take_get hx, sumE_append, sumE_cons]
  show _ + (x.2 + 0) = _
  omega
/-- A group of events at one place: from the k-th to the j-th. -/
structure LvG (ps es : List (Int × Int)) (k j : Nat) (A : Int) : Prop where
  le : k ≤ j
  at' : ∀ i e, k ≤ i → i < j → es[i]? = some e → e.1 = A
theorem LvG.start (ps es : List (Int × Int)) (k : Nat) (A : Int) : LvG ps es k k A := ⟨Nat.le_refl _, fun i e h1 h2 => by omega⟩
theorem LvG.more {ps es : List (Int × Int)} {k j : Nat} {A : Int} (h : LvG ps es k j A) {x : Int × Int} (hx : es[j]? = some x) (hA : x.1 = A) : LvG ps es k (j + 1) A :=
  ⟨by have := h.le; omega, fun i e h1 h2 he => by
    by_cases hi : i < j
    · exact h.at' i e h1 hi he
    · have : i = j := by omega
      subst this
      rw [hx] at he
      cases he
      exact hA⟩
theorem LvG.first {ps es : List (Int × Int)} {k j : Nat} {A : Int} (h : LvG ps es k j A) {x : Int × Int} (hx : es[k]? = some x) (hA : x.1 = A) (hne : ∀ y, es[j]? = some y → y.1 ≠ A) (hk : k < es.length) : k < j := by
  rcases Nat.lt_or_ge k j with h1 | h1
  · exact h1
  · have := h.le
    have e : j = k := by omega
    subst e
    exact absurd hA (hne x hx)
/-- The end of a group. -/
theorem LvS.group {ps es : List (Int × Int)} (h : EvOf ps es) {k j : Nat} {X A : Int} {ol : List Int} {M : List (Int × Int)} (hs : LvS ps es k X ol M) (hg : LvG ps es k j A) {x : Int × Int} (hx : es[k]? = some x) (hA : x.1 = A) (hj : j ≤ es.length) (hne : ∀ y, es[j]? = some y → y.1 ≠ A) :
    LvI (cntP ps) A ol M ∧ (∀ o ∈ ol, o < A) ∧ (∀ p ∈ M, p.2 < A) ∧ sumE (es.take j) = cntP ps A ∧ (∀ e ∈ es.take j, e.1 ≤ A) ∧ (∀ e ∈ es.drop j, A < e.1) ∧ 2 * (M.length : Int) + cntP ps A ≤ j ∧ 2 * (M.length : Int) + 2 * ol.length ≤ j + cntP ps A ∧ 0 ≤ A ∧ A ≤ 1099511627776 ∧ k < j := by
  have hk : k < es.length := (List.getElem?_eq_some_iff.1 hx).1
  have hkj := hg.first hx hA hne hk
  have hr := h.range x (List.mem_of_getElem? hx)
  have hsrt := List.pairwise_iff_getElem.1 h.sorted
  obtain ⟨hk', hxe⟩ := List.getElem?_eq_some_iff.1 hx
  have hdk : ∀ e ∈ es.drop k, A ≤ e.1 := fun e he => by
    obtain ⟨i, hi, rfl⟩ := List.getElem_of_mem he
    rw [List.getElem_drop, ← hA, ← hxe]
    have hi' : k + i < es.length := by rw [List.length_drop] at hi; omega
    rcases Nat.eq_zero_or_pos i with h0 | h0
    · subst h0; exact Int.le_refl _
    · exact hsrt k (k + i) hk' hi' (by omega)
  have hXA : X < A := by rw [← hA]; exact hs.new x (by rw [drop_get hx]; exact .head _)
  obtain ⟨h1, h2, h3⟩ := hs.inv.raise hXA fun t ht1 ht2 => by
    have h4 := sumE_cut h.perm h.valid (List.take_append_drop k es).symm (t := t) (fun e he => by have := hs.old e he; omega) (fun e he => by have := hdk e he; omega)
    have h5 := hs.depth
    omega
  have hold : ∀ e ∈ es.take j, e.1 ≤ A := fun e he => by
    obtain ⟨i, hi, rfl⟩ := List.getElem_of_mem he
    rw [List.getElem_take]
    have hi' : i < j ∧ i < es.length := by rw [List.length_take] at hi; omega
    by_cases hik : i < k
    · have := hs.old es[i] (by rw [List.mem_take_iff_getElem]; exact ⟨i, by omega, rfl⟩)
      omega
    · have := hg.at' i _ (by omega) hi'.1 (List.getElem?_eq_getElem hi'.2)
      omega
  have hnew : ∀ e ∈ es.drop j, A < e.1 := fun e he => by
    obtain ⟨i, hi, rfl⟩ := List.getElem_of_mem he
    rw [List.getElem_drop]
    have hi' : j + i < es.length := by rw [List.length_drop] at hi; omega
    have hj' : j < es.length := by omega
    have hjA := hne _ (List.getElem?_eq_getElem hj')
    have hjk := hsrt k j hk' hj' hkj
    rw [hxe, hA] at hjk
    rcases Nat.eq_zero_or_pos i with h0 | h0
    · subst h0; show A < es[j].1; omega
    · have := hsrt j (j + i) hj' hi' (by omega); omega
  have hsum := sumE_cut h.perm h.valid (List.take_append_drop j es).symm hold hnew
  have hdiff : -((j - k : Nat) : Int) ≤ sumE (es.take j) - sumE (es.take k) ∧ sumE (es.take j) - sumE (es.take k) ≤ (j - k : Nat) := by
    have e : es.take j = es.take k ++ (es.take j).drop k := by
      have := List.take_append_drop k (es.take j)
      rw [List.take_take, Nat.min_eq_left hg.le] at this
      exact this.symm
    have hb := sumE_bound (es := (es.take j).drop k) fun e he => (h.range e (List.mem_of_mem_take (List.mem_of_mem_drop he))).2.2
    rw [e, sumE_append]
    have hl : ((es.take j).drop k).length ≤ j - k := by rw [List.length_drop, List.length_take]; omega
    omega
  have hd := hs.depth
  have hz := hs.size
  refine ⟨h1, h2, h3, hsum, hold, hnew, ?_, ?_, by omega, by omega, hkj⟩ <;> omega
theorem LvS.next {ps es : List (Int × Int)} {j d : Nat} {A : Int} {ol : List Int} {M : List (Int × Int)} (hi : LvI (cntP ps) A ol M) (hs : sumE (es.take j) = d) (ho : ∀ e ∈ es.take j, e.1 ≤ A) (hn : ∀ e ∈ es.drop j, A < e.1) (hl : ol.length = d) (hz : 2 * (M.length : Int) + d ≤ j) : LvS ps es j A ol M :=
  ⟨hi, by rw [hs, hl], ho, hn, by omega⟩
theorem LvS.done {ps es : List (Int × Int)} (h : EvOf ps es) {k : Nat} {X : Int} {ol : List Int} {M : List (Int × Int)} (hs : LvS ps es k X ol M) (hk : k = es.length) : LevOf ps M ∧ M.length ≤ ps.length := by
  subst hk
  have e : es.take es.length = es := List.take_of_length_le (Nat.le_refl _)
  refine ⟨hs.inv.done h.perm h.valid (fun x hx => hs.old x (by rw [e]; exact hx)) (by have := hs.depth; rw [e] at this; exact this), ?_⟩
  have h1 := hs.size
  have h2 := h.perm.length_eq
  rw [evs_length] at h2
  omega
end Go.Proofs.YtngigmpaabmngaaGreatDoor

namespace Go.Proofs.YtngigmpaabmngaaGreatDoor
open Go.Lib

def digB (c : UInt8) : Bool := decide (48 ≤ c.toNat ∧ c.toNat ≤ 57)
/-- What digits spell. -/
def natFrom (acc : Nat) (l : List UInt8) : Nat := l.foldl (fun a c => a * 10 + (c.toNat - 48)) acc
def hasMinus (l : List UInt8) : Bool := l.head? == some 45
/-- What stands behind the sign. -/
def digitsOf (l : List UInt8) : List UInt8 := if hasMinus l then l.drop 1 else l
/-- An optional minus and digits. -/
def numForm (l : List UInt8) : Bool := !(digitsOf l).isEmpty && (digitsOf l).all digB
/-- No leading zero. -/
def canon (d : List UInt8) : Bool := decide (d.length ≤ 1) || d.head? != some 48
/-- The number whose text this is, if it is one of 64 bits. -/
def numOf (l : List UInt8) : Option Int :=
  if canon (digitsOf l) = true ∧ ¬ (hasMinus l = true ∧ digitsOf l = [48]) ∧ natFrom 0 (digitsOf l) ≤ 9223372036854775808 ∧ (natFrom 0 (digitsOf l) = 9223372036854775808 → hasMinus l = true) then
    some (if hasMinus l then -(natFrom 0 (digitsOf l) : Int) else natFrom 0 (digitsOf l)) else none

theorem natFrom_cons (acc : Nat) (c : UInt8) (r : List UInt8) : natFrom acc (c :: r) = natFrom (acc * 10 + (c.toNat - 48)) r := by unfold natFrom; rw [List.foldl_cons]
theorem natFrom_nil (acc : Nat) : natFrom acc [] = acc := by unfold natFrom; rw [List.foldl_nil]
theorem head_app (a b : List UInt8) (h : a ≠ []) : (a ++ b).head? = a.head? := by
  cases a with
  | nil => exact absurd rfl h
  | cons _ _ => rfl
theorem natFrom_snoc (a : List UInt8) (c : UInt8) : ∀ acc, natFrom acc (a ++ [c]) = natFrom acc a * 10 + (c.toNat - 48) := by
  intro acc
  unfold natFrom
  rw [List.foldl_append, List.foldl_cons, List.foldl_nil]
theorem natFrom_ge (l : List UInt8) : ∀ acc, acc ≤ natFrom acc l := by
  induction l with
  | nil => intro acc; rw [natFrom_nil]; exact Nat.le_refl _
  | cons c r ih => intro acc; have := ih (acc * 10 + (c.toNat - 48)); rw [natFrom_cons]; omega
theorem dig_byte (u : Nat) (h : u < 10) : (UInt8.ofNat (48 + u)).toNat = 48 + u := by simp; omega
theorem natFrom_dec (u : Nat) : natFrom 0 (decDigits u) = u := by
  induction u using Nat.strongRecOn with
  | _ u ih =>
    by_cases h : u < 10
    · rw [decDigits, dif_pos h]; rw [natFrom_cons, natFrom_nil, dig_byte u h]; omega
    · rw [decDigits, dif_neg h, natFrom_snoc, ih (u / 10) (by omega), dig_byte _ (Nat.mod_lt _ (by omega))]; omega
theorem dec_all (u : Nat) : (decDigits u).all digB = true := by
  induction u using Nat.strongRecOn with
  | _ u ih =>
    by_cases h : u < 10
    · rw [decDigits, dif_pos h]; simp only [List.all_cons, List.all_nil, digB]; rw [dig_byte u h]; simp; omega
    · rw [decDigits, dif_neg h, List.all_append, ih (u / 10) (by omega)]
      simp only [List.all_cons, List.all_nil, digB]; rw [dig_byte _ (Nat.mod_lt _ (by omega))]; simp; omega
theorem dec_ne (u : Nat) : decDigits u ≠ [] := by
  intro h
  have h1 := decDigits_length u
  have h2 := nDigits_pos u
  rw [h] at h1; simp at h1; omega
theorem dec_head (u : Nat) (h0 : u ≠ 0) : (decDigits u).head? ≠ some 48 := by
  induction u using Nat.strongRecOn with
  | _ u ih =>
    by_cases h : u < 10
    · rw [decDigits, dif_pos h]
      intro e
      have e1 : UInt8.ofNat (48 + u) = 48 := by simpa using e
      have e2 := congrArg UInt8.toNat e1
      rw [dig_byte u h] at e2
      have : (48 : UInt8).toNat = 48 := rfl
      omega
    · rw [decDigits, dif_neg h]
      have hn := dec_ne (u / 10)
      rw [head_app _ _ hn]
      exact ih (u / 10) (by omega) (by omega)
theorem dec_canon (u : Nat) : canon (decDigits u) = true := by
  by_cases h : u = 0
  · subst h; rw [decDigits, dif_pos (by omega)]; rfl
  · have := dec_head u h
    simp [canon, this]
theorem dec_minus (u : Nat) : hasMinus (decDigits u) = false := by
  have h1 := dec_all u
  have h2 := dec_ne u
  cases h : decDigits u with
  | nil => exact absurd h h2
  | cons c r =>
    rw [h] at h1
    simp [digB] at h1
    simp only [hasMinus, List.head?_cons, beq_eq_false_iff_ne, ne_eq, Option.some.injEq]
    intro e
    subst e
    have : (45 : UInt8).toNat = 45 := rfl
    omega
theorem all_snoc (p : UInt8 → Bool) (a : List UInt8) (c : UInt8) (h : (a ++ [c]).all p = true) : a.all p = true ∧ p c = true := by
  simpa [List.all_append] using h
theorem natFrom_pos (d : List UInt8) (hd : d.all digB = true) (hn : d ≠ []) (hh : d.head? ≠ some 48) : 1 ≤ natFrom 0 d := by
  cases d with
  | nil => exact absurd rfl hn
  | cons c r =>
    have h1 := natFrom_ge r (0 * 10 + (c.toNat - 48))
    rw [natFrom_cons]
    simp only [List.all_cons, Bool.and_eq_true, digB, decide_eq_true_eq] at hd
    have : c.toNat ≠ 48 := fun e => hh (by rw [List.head?_cons, show c = 48 from UInt8.toNat_inj.1 (by rw [e]; rfl)])
    omega
theorem dec_natFrom (n : Nat) : ∀ d : List UInt8, d.length = n → d.all digB = true → d ≠ [] → canon d = true → decDigits (natFrom 0 d) = d := by
  induction n with
  | zero => intro d hl _ hn; exact absurd (List.length_eq_zero_iff.1 hl) hn
  | succ n ih =>
    intro d hl ha hn hc
    obtain ⟨a, c, rfl⟩ : ∃ a c, d = a ++ [c] := ⟨d.dropLast, d.getLast hn, (List.dropLast_concat_getLast hn).symm⟩
    obtain ⟨ha1, hcd⟩ := all_snoc digB a c ha
    simp only [digB, decide_eq_true_eq] at hcd
    have hr : c.toNat - 48 < 10 := by omega
    have hce : UInt8.ofNat (48 + (c.toNat - 48)) = c := UInt8.toNat_inj.1 (by rw [dig_byte _ hr]; omega)
    rw [natFrom_snoc]
    by_cases hz : a = []
    · subst hz
      rw [show natFrom 0 [] * 10 + (c.toNat - 48) = c.toNat - 48 by rw [natFrom_nil]; omega, decDigits, dif_pos hr, hce]; rfl
    · have hhead : a.head? ≠ some 48 := by
        intro e
        simp only [canon, Bool.or_eq_true, decide_eq_true_eq, bne_iff_ne, ne_eq] at hc
        rcases hc with h | h
        · have : 0 < a.length := List.length_pos_iff.2 hz
          rw [List.length_append, List.length_singleton] at h; omega
        · exact h (by rw [head_app _ _ hz]; exact e)
      have h1 := natFrom_pos a ha1 hz hhead
      rw [decDigits, dif_neg (by omega), show (natFrom 0 a * 10 + (c.toNat - 48)) / 10 = natFrom 0 a by omega, show (natFrom 0 a * 10 + (c.toNat - 48)) % 10 = c.toNat - 48 by omega, hce]
      rw [ih a (by simpa using hl) ha1 hz (by simp [canon, hhead])]
theorem digitsOf_minus (r : List UInt8) : digitsOf (45 :: r) = r := rfl
theorem itoa_numOf (n : Int) (h0 : -9223372036854775808 ≤ n) (h1 : n ≤ 9223372036854775807) : numOf (itoa n) = some n ∧ numForm (itoa n) = true := by
  by_cases h : n < 0
  · obtain ⟨u, rfl⟩ : ∃ u : Nat, n = -(u : Int) := ⟨n.natAbs, by omega⟩
    rw [itoa_neg u (by omega)]
    have e : hasMinus (45 :: decDigits u) = true := rfl
    refine ⟨?_, ?_⟩
    · unfold numOf
      have h48 : ¬ (true = true ∧ decDigits u = [48]) := fun h => by
        have := natFrom_dec u
        rw [h.2] at this
        have e2 : natFrom 0 [48] = 0 := by decide
        omega
      rw [digitsOf_minus, e, natFrom_dec, if_pos ⟨dec_canon u, h48, by omega, fun _ => rfl⟩]
      rfl
    · unfold numForm
      rw [digitsOf_minus, dec_all]
      have := dec_ne u
      cases h : decDigits u with
      | nil => exact absurd h this
      | cons _ _ => rfl
  · obtain ⟨u, rfl⟩ : ∃ u : Nat, n = u := ⟨n.toNat, by omega⟩
    rw [itoa_nonneg]
    have e := dec_minus u
    have e2 : digitsOf (decDigits u) = decDigits u := by simp [digitsOf, e]
    refine ⟨?_, ?_⟩
    · unfold numOf
      rw [e2, e, natFrom_dec, if_pos ⟨dec_canon u, fun h => (by cases h.1), by omega, fun h => (by omega)⟩]
      simp
    · unfold numForm
      rw [e2, dec_all]
      have := dec_ne u
      cases h : decDigits u with
      | nil => exact absurd h this
      | cons _ _ => rfl
theorem minus_cons {l : List UInt8} (h : hasMinus l = true) : l = 45 :: digitsOf l := by
  cases l with
  | nil => cases h
  | cons c r =>
    simp [hasMinus] at h
    subst h; rfl
theorem numOf_itoa (l : List UInt8) (hf : numForm l = true) (n : Int) (h : numOf l = some n) : itoa n = l ∧ -9223372036854775808 ≤ n ∧ n ≤ 9223372036854775807 := by
  unfold numOf at h
  split at h
  · rename_i hc
    obtain ⟨hc1, hc2, hc3, hc4⟩ := hc
    cases h
    simp only [numForm, Bool.and_eq_true, Bool.not_eq_true', List.isEmpty_eq_false_iff] at hf
    have hd := dec_natFrom _ _ rfl hf.2 hf.1 hc1
    cases hm : hasMinus l with
    | true =>
      simp only [if_pos]
      have hl := minus_cons hm
      by_cases hz : natFrom 0 (digitsOf l) = 0
      · exfalso
        rw [hz] at hd
        exact hc2 ⟨hm, by rw [← hd]; rw [decDigits, dif_pos (by omega)]; rfl⟩
      · rw [itoa_neg _ (by omega), hd]
        exact ⟨hl.symm, by omega, by omega⟩
    | false =>
      simp only [Bool.false_eq_true, if_false]
      have e2 : digitsOf l = l := by simp [digitsOf, hm]
      rw [itoa_nonneg, hd]
      have : natFrom 0 (digitsOf l) ≠ 9223372036854775808 := fun e => by rw [hc4 e] at hm; cases hm
      exact ⟨e2, by omega, by omega⟩
  · cases h
theorem parse10_dig (l : List UInt8) : ∀ acc, l.all digB = true → natFrom acc l < 18446744073709551616 → parseUint10 acc l = .ok (natFrom acc l) := by
  induction l with
  | nil => intro acc _ _; rw [natFrom_nil]; rfl
  | cons c r ih =>
    intro acc ha hlt
    simp only [List.all_cons, Bool.and_eq_true, digB, decide_eq_true_eq] at ha
    have hg := natFrom_ge r (acc * 10 + (c.toNat - 48))
    rw [natFrom_cons] at hlt
    rw [parseUint10, if_pos ha.1, if_neg (by omega), if_neg (by omega), natFrom_cons]
    exact ih _ ha.2 hlt
theorem atoi_numOf (l : List UInt8) (hf : numForm l = true) (n : Int) (h : numOf l = some n) : atoiAll l = .ok n := by
  unfold numOf at h
  split at h
  · rename_i hc
    obtain ⟨hc1, hc2, hc3, hc4⟩ := hc
    cases h
    simp only [numForm, Bool.and_eq_true, Bool.not_eq_true', List.isEmpty_eq_false_iff] at hf
    have hp := parse10_dig _ 0 hf.2 (by omega)
    have hmag : parseMag (digitsOf l) = .ok (natFrom 0 (digitsOf l)) := by rw [parseMag, if_neg hf.1, hp]
    cases hm : hasMinus l with
    | true =>
      rw [minus_cons hm, atoiAll_minus, digitsOf_minus, hmag]
      simp only [signed]
      rw [if_neg (by omega)]
      simp
    | false =>
      have e2 : digitsOf l = l := by simp [digitsOf, hm]
      have : natFrom 0 (digitsOf l) ≠ 9223372036854775808 := fun e => by rw [hc4 e] at hm; cases hm
      rw [e2] at hmag hf this hc3 ⊢
      cases l with
      | nil => exact absurd rfl hf.1
      | cons c r =>
        have hc0 : digB c = true := by have := hf.2; simp at this; exact this.1
        simp only [digB, decide_eq_true_eq] at hc0
        rw [atoiAll_plain c r (by omega) (by omega), hmag]
        simp only [signless]
        rw [if_neg (by omega)]
        simp
  · cases h
/-- What the program makes of a numeral. -/
theorem num_none (l : List UInt8) (h : numOf l = none) (n : Int) (hn : atoiAll l = .ok n) : itoa n ≠ l := by
  intro e
  have hb := atoiAll_bounds hn
  have := (itoa_numOf n hb.1 hb.2).1
  rw [e, h] at this
  cases this

/-- The definition's loop over the digits: the number so far; whether it fits. -/
def refStep (x : Nat × Bool) (c : UInt8) : Nat × Bool := if 922337203685477580 < x.1 then (x.1, false) else (x.1 * 10 + (c.toNat - 48), x.2)
theorem refStep_inv (d : List UInt8) : ∀ (u : Nat) (f : Bool) (m : Nat), d.all digB = true → (f = true → u = m ∧ u ≤ 9223372036854775809) → (f = false → 922337203685477580 < u ∧ u ≤ 9223372036854775809 ∧ 9223372036854775810 ≤ m) →
    ((d.foldl refStep (u, f)).2 = true → (d.foldl refStep (u, f)).1 = natFrom m d ∧ (d.foldl refStep (u, f)).1 ≤ 9223372036854775809) ∧ ((d.foldl refStep (u, f)).2 = false → (d.foldl refStep (u, f)).1 ≤ 9223372036854775809 ∧ 9223372036854775810 ≤ natFrom m d) := by
  induction d with
  | nil =>
    intro u f m _ h1 h2
    rw [natFrom_nil, List.foldl_nil]
    refine ⟨fun e => ?_, fun e => ?_⟩
    · have := h1 e; exact ⟨this.1, this.2⟩
    · have := h2 e; exact ⟨this.2.1, this.2.2⟩
  | cons c r ih =>
    intro u f m ha h1 h2
    simp only [List.all_cons, Bool.and_eq_true, digB, decide_eq_true_eq] at ha
    rw [List.foldl_cons, natFrom_cons]
    cases f with
    | true =>
      obtain ⟨rfl, hu⟩ := h1 rfl
      by_cases hb : 922337203685477580 < u
      · rw [refStep, if_pos hb]
        exact ih u false _ ha.2 (fun e => by cases e) (fun _ => ⟨hb, hu, by omega⟩)
      · rw [refStep, if_neg hb]
        exact ih _ true _ ha.2 (fun _ => ⟨rfl, by omega⟩) (fun e => by cases e)
    | false =>
      obtain ⟨hb, hu, hm⟩ := h2 rfl
      rw [refStep, if_pos hb]
      exact ih u false _ ha.2 (fun e => by cases e) (fun _ => ⟨hb, hu, by omega⟩)
def refNum (d : List UInt8) : Nat × Bool := d.foldl refStep (0, true)
theorem refNum_fits {d : List UInt8} (ha : d.all digB = true) (h : (refNum d).2 = true) : (refNum d).1 = natFrom 0 d ∧ (refNum d).1 ≤ 9223372036854775809 :=
  (refStep_inv d 0 true 0 ha (fun _ => ⟨rfl, by omega⟩) (fun e => by cases e)).1 h
theorem refNum_big {d : List UInt8} (ha : d.all digB = true) (h : (refNum d).2 = false) : (refNum d).1 ≤ 9223372036854775809 ∧ 9223372036854775810 ≤ natFrom 0 d :=
  (refStep_inv d 0 true 0 ha (fun _ => ⟨rfl, by omega⟩) (fun e => by cases e)).2 h
theorem refNum_le (d : List UInt8) (ha : d.all digB = true) : (refNum d).1 ≤ 9223372036854775809 := by
  cases h : (refNum d).2 with
  | true => exact (refNum_fits ha h).2
  | false => exact (refNum_big ha h).1
end Go.Proofs.YtngigmpaabmngaaGreatDoor

namespace Go.Proofs.YtngigmpaabmngaaGreatDoor
open Go.Lib

/-- Every quote twice. -/
def dbl2 : List UInt8 → List UInt8
  | [] => []
  | c :: r => if c = 39 then 39 :: 39 :: dbl2 r else c :: dbl2 r
/-- Every pair of quotes, from the left, replaced. -/
def pairs (new : List UInt8) : List UInt8 → List UInt8
  | [] => []
  | [c] => [c]
  | c :: d :: r => if c = 39 ∧ d = 39 then new ++ pairs new r else c :: pairs new (d :: r)
/-- Every pair of quotes is one; a single one is a fault. -/
def undbl : List UInt8 → Option (List UInt8)
  | [] => some []
  | [c] => if c = 39 then none else some [c]
  | c :: d :: r => if c = 39 then (if d = 39 then (undbl r).map (39 :: ·) else none) else (undbl (d :: r)).map (c :: ·)

theorem index_pair_hit (r : List UInt8) : index (39 :: 39 :: r) [39, 39] = ((0 : Nat) : Int) := by
  rw [index]; simp [List.isPrefixOf]
theorem index_pair_miss {c : UInt8} {r : List UInt8} (h : ¬ (c = 39 ∧ r.head? = some 39)) : index (c :: r) [39, 39] = if index r [39, 39] == -1 then -1 else index r [39, 39] + 1 := by
  rw [index, if_neg]
  intro e
  cases r with
  | nil => simp [List.isPrefixOf] at e
  | cons d r =>
    simp [List.isPrefixOf] at e
    exact h ⟨e.1.symm, by simp [e.2]⟩
theorem count_pair_miss {c : UInt8} {r : List UInt8} (h : ¬ (c = 39 ∧ r.head? = some 39)) : count (c :: r) [39, 39] = count r [39, 39] := by
  have hi := index_pair_miss h
  by_cases hm : index r [39, 39] = -1
  · rw [count_miss hm, count_miss (by rw [hi, hm]; rfl)]
  · have hge := index_ge r [39, 39]
    obtain ⟨i, hI⟩ : ∃ i : Nat, index r [39, 39] = i := ⟨(index r [39, 39]).toNat, by omega⟩
    have hI' : index (c :: r) [39, 39] = ((i + 1 : Nat) : Int) := by
      rw [hi, if_neg (by simpa using hm), hI]; rfl
    rw [count_hit (by simp) hI, count_hit (by simp) hI']
    simp
theorem replaceK_pair_miss {c : UInt8} {r new : List UInt8} (h : ¬ (c = 39 ∧ r.head? = some 39)) : replaceK [39, 39] new (count r [39, 39]) (c :: r) = c :: replaceK [39, 39] new (count r [39, 39]) r := by
  cases hk : count r [39, 39] with
  | zero => simp [replaceK]
  | succ k =>
    obtain ⟨i, hI⟩ := index_of_count (s := r) (old := [39, 39]) (by omega)
    have hI' : index (c :: r) [39, 39] = ((i + 1 : Nat) : Int) := by
      rw [index_pair_miss h, if_neg (by rw [hI]; simp), hI]; rfl
    rw [replaceK_hit _ _ _ _ i hI, replaceK_hit _ _ _ _ (i + 1) hI']
    simp
theorem replaceK_pairs (new : List UInt8) (n : Nat) : ∀ l : List UInt8, l.length ≤ n → replaceK [39, 39] new (count l [39, 39]) l = pairs new l := by
  induction n with
  | zero =>
    intro l hl
    have : l = [] := List.length_eq_zero_iff.1 (by omega)
    subst this
    rfl
  | succ n ih =>
    intro l hl
    cases l with
    | nil => rfl
    | cons c r =>
      cases r with
      | nil =>
        have h : ¬ (c = 39 ∧ ([] : List UInt8).head? = some 39) := fun e => by cases e.2
        rw [count_pair_miss h, replaceK_pair_miss h, ih [] (by simp)]
        rfl
      | cons d r =>
        by_cases h : c = 39 ∧ d = 39
        · obtain ⟨rfl, rfl⟩ := h
          have hi := index_pair_hit r
          rw [count_hit (by simp) hi, Nat.add_comm, replaceK_hit _ _ _ _ 0 hi]
          have := ih r (by simp at hl; omega)
          simp only [List.take_zero, List.nil_append, Nat.zero_add, List.length_cons, List.length_nil, List.drop_succ_cons, List.drop_zero]
          rw [this, pairs, if_pos ⟨rfl, rfl⟩]
        · have h' : ¬ (c = 39 ∧ (d :: r).head? = some 39) := fun e => h ⟨e.1, by simpa using e.2⟩
          rw [count_pair_miss h', replaceK_pair_miss h', ih (d :: r) (by simpa using hl), pairs, if_neg h]
theorem replaceAll_pairs (new l : List UInt8) (h : new ≠ [39, 39]) : replaceAll l [39, 39] new = pairs new l := by
  have e : replaceAll l [39, 39] new = replaceK [39, 39] new (count l [39, 39]) l := by
    have : ¬ (([39, 39] : List UInt8) == new) = true := by simpa using fun e => h e.symm
    simp [replaceAll, replace, replaceNum, this]
  rw [e, replaceK_pairs new l.length l (Nat.le_refl _)]
theorem pairs_le (new : List UInt8) (hn : new.length ≤ 2) (n : Nat) : ∀ l : List UInt8, l.length ≤ n → (pairs new l).length ≤ l.length := by
  induction n with
  | zero =>
    intro l hl
    have : l = [] := List.length_eq_zero_iff.1 (by omega)
    subst this
    simp [pairs]
  | succ n ih =>
    intro l hl
    match l with
    | [] => simp [pairs]
    | [c] => simp [pairs]
    | c :: d :: r =>
      rw [pairs]
      split
      · have := ih r (by simp at hl; omega)
        simp; omega
      · have := ih (d :: r) (by simpa using hl)
        simp at this ⊢; omega
theorem undbl_cases (n : Nat) : ∀ l : List UInt8, l.length ≤ n → (undbl l = none → (39 : UInt8) ∈ pairs [] l) ∧ (∀ m, undbl l = some m → (39 : UInt8) ∉ pairs [] l ∧ pairs [39] l = m ∧ dbl2 m = l ∧ m.length ≤ l.length) := by
  induction n with
  | zero =>
    intro l hl
    have : l = [] := List.length_eq_zero_iff.1 (by omega)
    subst this
    refine ⟨(fun h => by cases h), fun m h => ?_⟩
    cases h
    simp [pairs, dbl2]
  | succ n ih =>
    intro l hl
    match l with
    | [] =>
      refine ⟨(fun h => by cases h), fun m h => ?_⟩
      cases h
      simp [pairs, dbl2]
    | [c] =>
      by_cases hc : c = 39
      · subst hc
        refine ⟨fun _ => by simp [pairs], fun m h => ?_⟩
        simp [undbl] at h
      · refine ⟨fun h => ?_, fun m h => ?_⟩
        · simp [undbl, hc] at h
        · simp [undbl, hc] at h
          subst h
          simp [pairs, dbl2, hc]
          exact fun e => hc e.symm
    | c :: d :: r =>
      by_cases hc : c = 39
      · by_cases hd : d = 39
        · subst hc; subst hd
          obtain ⟨h1, h2⟩ := ih r (by simp at hl; omega)
          refine ⟨fun h => ?_, fun m h => ?_⟩
          · have : undbl r = none := by simpa [undbl] using h
            simpa [pairs] using h1 this
          · have : ∃ q, undbl r = some q ∧ 39 :: q = m := by simpa [undbl] using h
            obtain ⟨q, hq, rfl⟩ := this
            obtain ⟨a, b, e, g⟩ := h2 q hq
            refine ⟨by simpa [pairs] using a, by simp [pairs, b], by simp [dbl2, e], by simp; omega⟩
        · subst hc
          refine ⟨fun _ => by simp [pairs, hd], fun m h => ?_⟩
          simp [undbl, hd] at h
      · obtain ⟨h1, h2⟩ := ih (d :: r) (by simpa using hl)
        refine ⟨fun h => ?_, fun m h => ?_⟩
        · have : undbl (d :: r) = none := by simpa [undbl, hc] using h
          have := h1 this
          rw [pairs, if_neg (fun e => hc e.1)]
          exact List.mem_cons_of_mem _ this
        · have : ∃ q, undbl (d :: r) = some q ∧ c :: q = m := by simpa [undbl, hc] using h
          obtain ⟨q, hq, rfl⟩ := this
          obtain ⟨a, b, e, g⟩ := h2 q hq
          refine ⟨?_, ?_, ?_, by simp at g ⊢; omega⟩
          · rw [pairs, if_neg (fun e => hc e.1)]
            intro hm
            rcases List.mem_cons.1 hm with h | h
            · exact hc h.symm
            · exact a h
          · rw [pairs, if_neg (fun e => hc e.1), b]
          · rw [dbl2, if_neg hc, e]
theorem undbl_none {l : List UInt8} (h : undbl l = none) : (39 : UInt8) ∈ pairs [] l := (undbl_cases _ l (Nat.le_refl _)).1 h
theorem undbl_some {l m : List UInt8} (h : undbl l = some m) : (39 : UInt8) ∉ pairs [] l ∧ pairs [39] l = m ∧ dbl2 m = l ∧ m.length ≤ l.length := (undbl_cases _ l (Nat.le_refl _)).2 m h
theorem undbl_dbl (m : List UInt8) : undbl (dbl2 m) = some m := by
  induction m with
  | nil => rfl
  | cons c m ih =>
    by_cases hc : c = 39
    · subst hc; simp [dbl2, undbl, ih]
    · rw [dbl2, if_neg hc]
      cases hm : dbl2 m with
      | nil =>
        rw [hm] at ih
        simp [undbl] at ih
        subst ih
        simp [undbl, hc]
      | cons d r =>
        rw [hm] at ih
        simp [undbl, hc, ih]
theorem contains_one (l : List UInt8) (c : UInt8) : Lib.contains l [c] = l.contains c := by
  unfold Lib.contains
  rw [index_one]
  induction l with
  | nil => rfl
  | cons b l ih =>
    have hge := indexByte_ge l c
    by_cases h : b = c
    · subst h; simp [indexByte]
    · have h' : (c == b) = false := by simpa using fun e => h e.symm
      rw [List.contains_cons, h', ← ih]
      have hb : (b == c) = false := by simpa using h
      by_cases hm : indexByte l c = -1
      · simp [indexByte, hb, hm]
      · simp [indexByte, hb, hm]; omega
theorem dbl2_length (l : List UInt8) : (dbl2 l).length ≤ 2 * l.length := by
  induction l with
  | nil => simp [dbl2]
  | cons c l ih => by_cases h : c = 39 <;> simp [dbl2, h] <;> omega
/-- The library's ReplaceAll at a quote. -/
theorem replaceAll_dbl (s : List UInt8) : replaceAll s [39] [39, 39] = dbl2 s := by
  have h : replaceAll s [39] [39, 39] = replaceK [39] [39, 39] (count s [39]) s := by
    simp [replaceAll, replace, replaceNum]
  rw [h]
  clear h
  induction s with
  | nil => rw [count_one]; simp [replaceK, dbl2]
  | cons c s ih =>
    by_cases h : c = 39
    · subst h
      rw [count_cons_eq, Nat.add_comm, replaceK_hit _ _ _ _ 0 (by rw [index_one]; simp [indexByte])]
      simp [dbl2, ih]
    · rw [count_cons_ne _ _ _ h]
      have hi : index (c :: s) [39] = if index s [39] == -1 then -1 else index s [39] + 1 := by
        rw [index_one, index_one, indexByte]; simp [h]
      have hd : dbl2 (c :: s) = c :: dbl2 s := by simp [dbl2, h]
      rw [hd, ← ih]
      cases hk : count s [39] with
      | zero => simp [replaceK]
      | succ k =>
        obtain ⟨i, hI⟩ := index_of_count (s := s) (old := [39]) (by omega)
        rw [replaceK_hit _ _ _ _ i hI, replaceK_hit _ _ _ _ (i + 1) (by rw [hi, hI]; simp)]
        simp
theorem count_q_le (s : List UInt8) : count s [39] ≤ s.length := by rw [count_one]; exact List.count_le_length
end Go.Proofs.YtngigmpaabmngaaGreatDoor

namespace Go.Proofs.YtngigmpaabmngaaGreatDoor
open Go.Lib

def gtxt (m : List UInt8) : GVal := ⟨2, 0, ⟨m.toArray⟩⟩
def gtrue : GVal := ⟨3, 1, ⟨#[]⟩⟩
def gfalse : GVal := ⟨3, 0, ⟨#[]⟩⟩
def validG (v : GVal) : Bool :=
  if v.kind = 0 then v.n == 0 && v.s.data.toList.isEmpty else if v.kind = 1 then v.s.data.toList.isEmpty
  else if v.kind = 2 then v.n == 0 && decide (v.s.size ≤ 200) else if v.kind = 3 then (v.n == 0 || v.n == 1) && v.s.data.toList.isEmpty else false
def sNull : List UInt8 := [110, 117, 108, 108]
def sTrue : List UInt8 := [116, 114, 117, 101]
def sFalse : List UInt8 := [102, 97, 108, 115, 101]
/-- The text of a value. -/
def fmtG (v : GVal) : List UInt8 :=
  if validG v = true then (if v.kind = 0 then sNull else if v.kind = 1 then itoa v.n else if v.kind = 3 then (if v.n = 1 then sTrue else sFalse) else 39 :: (dbl2 v.s.data.toList ++ [39])) else []
/-- What stands between the quotes. -/
def unquo (l : List UInt8) : Option (List UInt8) := if l.length < 2 ∨ l.head? ≠ some 39 ∨ l.getLast? ≠ some 39 then none else undbl ((l.drop 1).take (l.length - 2))
/-- The value of a text; the error's number. -/
def parseG (l : List UInt8) : GVal × Int :=
  if l = sNull then (gnull, 0) else if l = sFalse then (gfalse, 0) else if l = sTrue then (gtrue, 0)
  else if numForm l = true then (match numOf l with | some n => (gint n, 0) | none => (gnull, 10))
  else match unquo l with | none => (gnull, 5) | some m => if 200 < m.length then (gnull, 4) else (gtxt m, 0)
def keyOf (v : GVal) : List UInt8 := itoa v.kind ++ [44] ++ itoa v.n ++ [44] ++ itoa v.s.size ++ [58] ++ v.s.data.toList
def keyL (l : List GVal) : List UInt8 := l.flatMap keyOf

theorem bytes_nil {s : ByteArray} (h : s.data.toList = []) : s = ⟨#[]⟩ := by
  obtain ⟨⟨l⟩⟩ := s
  simp at h
  subst h; rfl
theorem bytes_mk (s : ByteArray) : (ByteArray.mk s.data.toList.toArray) = s := by
  obtain ⟨⟨l⟩⟩ := s; rfl
theorem quo_num (l : List UInt8) : numForm (39 :: l) = false := by
  simp [numForm, digitsOf, hasMinus, digB]
theorem quo_unquo (m : List UInt8) : unquo (39 :: (m ++ [39])) = undbl m := by
  unfold unquo
  have h : ¬ ((39 :: (m ++ [39]) : List UInt8).length < 2 ∨ (39 :: (m ++ [39]) : List UInt8).head? ≠ some 39 ∨ (39 :: (m ++ [39]) : List UInt8).getLast? ≠ some 39) := by
    simp [List.getLast?_cons, List.getLast?_append]
  rw [if_neg h]
  simp
theorem parse_fmt (v : GVal) (h : validG v = true) (hn : In64 v.n) : parseG (fmtG v) = (v, 0) := by
  obtain ⟨k, n, s⟩ := v
  unfold fmtG
  rw [if_pos h]
  unfold validG at h
  dsimp only at h hn ⊢
  by_cases h0 : k = 0
  · subst h0
    simp only [if_true, Bool.and_eq_true, beq_iff_eq, List.isEmpty_iff] at h
    obtain ⟨rfl, h2⟩ := h
    rw [bytes_nil h2]; rfl
  · rw [if_neg h0] at h ⊢
    by_cases h1 : k = 1
    · subst h1
      simp only [if_true, List.isEmpty_iff] at h
      obtain ⟨hi1, hi2⟩ := itoa_numOf n hn.1 hn.2
      simp only [if_true]
      have e1 : itoa n ≠ sNull := fun e => by rw [e] at hi2; exact absurd hi2 (by decide)
      have e2 : itoa n ≠ sFalse := fun e => by rw [e] at hi2; exact absurd hi2 (by decide)
      have e3 : itoa n ≠ sTrue := fun e => by rw [e] at hi2; exact absurd hi2 (by decide)
      unfold parseG
      rw [if_neg e1, if_neg e2, if_neg e3, if_pos hi2, hi1, bytes_nil h]; rfl
    · rw [if_neg h1] at h ⊢
      by_cases h2 : k = 2
      · subst h2
        simp only [if_true, Bool.and_eq_true, beq_iff_eq, decide_eq_true_eq] at h
        obtain ⟨rfl, h2⟩ := h
        rw [if_neg (by omega)]
        have e1 : (39 :: (dbl2 s.data.toList ++ [39]) : List UInt8) ≠ sNull := fun e => by have := List.head_eq_of_cons_eq e; exact absurd this (by decide)
        have e2 : (39 :: (dbl2 s.data.toList ++ [39]) : List UInt8) ≠ sFalse := fun e => by have := List.head_eq_of_cons_eq e; exact absurd this (by decide)
        have e3 : (39 :: (dbl2 s.data.toList ++ [39]) : List UInt8) ≠ sTrue := fun e => by have := List.head_eq_of_cons_eq e; exact absurd this (by decide)
        unfold parseG
        have hl : ¬ 200 < s.data.toList.length := by
          have : s.data.toList.length = s.size := (Lib.size_eq s).symm
          omega
        rw [if_neg e1, if_neg e2, if_neg e3, if_neg (by rw [quo_num]; simp), quo_unquo, undbl_dbl]
        simp only
        rw [if_neg hl, gtxt, bytes_mk]
      · rw [if_neg h2] at h
        by_cases h3 : k = 3
        · subst h3
          simp only [if_true, Bool.and_eq_true, Bool.or_eq_true, beq_iff_eq, List.isEmpty_iff] at h
          obtain ⟨h4, h5⟩ := h
          rw [bytes_nil h5]
          rcases h4 with rfl | rfl <;> rfl
        · rw [if_neg h3] at h; cases h
theorem unquo_some {l m : List UInt8} (h : unquo l = some m) : 39 :: (dbl2 m ++ [39]) = l := by
  unfold unquo at h
  split at h
  · cases h
  · rename_i hc
    have hc1 : ¬ l.length < 2 := fun e => hc (.inl e)
    have hc2 : l.head? = some 39 := by
      by_cases e : l.head? = some 39
      · exact e
      · exact absurd (.inr (.inl e)) hc
    have hc3 : l.getLast? = some 39 := by
      by_cases e : l.getLast? = some 39
      · exact e
      · exact absurd (.inr (.inr e)) hc
    rw [(undbl_some h).2.2.1]
    cases l with
    | nil => simp at hc1
    | cons c r =>
      simp at hc2
      subst hc2
      have hr : r ≠ [] := by intro e; subst e; simp at hc1
      have hl : r.getLast? = some 39 := by
        rw [List.getLast?_cons_of_ne_nil hr] at hc3
        exact hc3
      rw [List.getLast?_eq_some_getLast hr] at hl
      have hl' : r.getLast hr = 39 := by simpa using hl
      have := List.dropLast_concat_getLast hr
      rw [hl'] at this
      have e : ((39 :: r : List UInt8).drop 1).take ((39 :: r : List UInt8).length - 2) = r.dropLast := by
        rw [List.dropLast_eq_take]; simp
      rw [e, this]
theorem fmt_parse (l : List UInt8) (v : GVal) (h : parseG l = (v, 0)) : validG v = true ∧ fmtG v = l ∧ In64 v.n := by
  unfold parseG at h
  split at h
  · rename_i e; cases h; subst e; refine ⟨rfl, rfl, by decide⟩
  split at h
  · rename_i e; cases h; subst e; refine ⟨rfl, rfl, by decide⟩
  split at h
  · rename_i e; cases h; subst e; refine ⟨rfl, rfl, by decide⟩
  split at h
  · rename_i hf
    cases hn : numOf l with
    | none => rw [hn] at h; cases h
    | some n =>
      rw [hn] at h; cases h
      obtain ⟨h1, h2, h3⟩ := numOf_itoa l hf n hn
      exact ⟨rfl, h1, h2, h3⟩
  · cases hu : unquo l with
    | none => rw [hu] at h; cases h
    | some m =>
      rw [hu] at h
      simp only at h
      split at h
      · cases h
      · rename_i hl
        cases h
        have hv : validG (gtxt m) = true := by simp [validG, gtxt, ByteArray.size]; omega
        refine ⟨hv, ?_, by simp [gtxt, In64]⟩
        unfold fmtG
        rw [if_pos hv]
        simpa [gtxt] using unquo_some hu
/-- The errors' numbers. -/
theorem parse_err (l : List UInt8) : (parseG l).2 = 0 ∨ (parseG l).1 = gnull ∧ ((parseG l).2 = 4 ∨ (parseG l).2 = 5 ∨ (parseG l).2 = 10) := by
  unfold parseG
  split
  · exact .inl rfl
  split
  · exact .inl rfl
  split
  · exact .inl rfl
  split
  · split
    · exact .inl rfl
    · exact .inr ⟨rfl, .inr (.inr rfl)⟩
  · split
    · exact .inr ⟨rfl, .inr (.inl rfl)⟩
    · split
      · exact .inr ⟨rfl, .inl rfl⟩
      · exact .inl rfl

theorem sep_inj (c : UInt8) : ∀ (a b x y : List UInt8), c ∉ a → c ∉ b → a ++ c :: x = b ++ c :: y → a = b ∧ x = y := by
  intro a
  induction a with
  | nil =>
    intro b x y _ hb h
    cases b with
    | nil => simp at h; exact ⟨rfl, h⟩
    | cons d b => simp at h; exact absurd h.1 (fun e => hb (by simp [e]))
  | cons d a ih =>
    intro b x y ha hb h
    cases b with
    | nil => simp at h; exact absurd h.1.symm (fun e => ha (by simp [e]))
    | cons e b =>
      simp at h
      obtain ⟨h1, h2⟩ := ih b x y (fun hm => ha (List.mem_cons_of_mem _ hm)) (fun hm => hb (List.mem_cons_of_mem _ hm)) h.2
      exact ⟨by rw [h.1, h1], h2⟩
theorem dec_not (u : Nat) (c : UInt8) (hc : digB c = false) : c ∉ decDigits u := fun h => by
  have := List.all_eq_true.1 (dec_all u) c h
  rw [hc] at this; cases this
theorem itoa_not (n : Int) (c : UInt8) (hc : digB c = false) (h45 : c ≠ 45) : c ∉ itoa n := by
  unfold itoa
  split
  · intro h
    rcases List.mem_cons.1 h with h | h
    · exact h45 h
    · exact dec_not _ c hc h
  · exact dec_not _ c hc
theorem dec_inj {a b : Nat} (h : decDigits a = decDigits b) : a = b := by rw [← natFrom_dec a, h, natFrom_dec]
theorem itoa_inj {a b : Int} (h : itoa a = itoa b) : a = b := by
  unfold itoa at h
  split at h <;> split at h
  · simp at h; have := dec_inj h; omega
  · exfalso; have h2 := dec_minus b.toNat; rw [← h] at h2; cases h2
  · exfalso; have h2 := dec_minus a.toNat; rw [h] at h2; cases h2
  · have := dec_inj h; omega
theorem key_step (u v : GVal) (x y : List UInt8) (h : keyOf u ++ x = keyOf v ++ y) : u = v ∧ x = y := by
  obtain ⟨k1, n1, s1⟩ := u
  obtain ⟨k2, n2, s2⟩ := v
  simp only [keyOf, List.append_assoc, List.singleton_append] at h
  obtain ⟨h1, h⟩ := sep_inj 44 _ _ _ _ (itoa_not _ _ (by decide) (by decide)) (itoa_not _ _ (by decide) (by decide)) h
  obtain ⟨h2, h⟩ := sep_inj 44 _ _ _ _ (itoa_not _ _ (by decide) (by decide)) (itoa_not _ _ (by decide) (by decide)) h
  obtain ⟨h3, h⟩ := sep_inj 58 _ _ _ _ (itoa_not _ _ (by decide) (by decide)) (itoa_not _ _ (by decide) (by decide)) h
  have e1 := itoa_inj h1
  have e2 := itoa_inj h2
  have e3 : s1.size = s2.size := by have := itoa_inj h3; omega
  have hl : s1.data.toList.length = s2.data.toList.length := by rw [← Lib.size_eq, ← Lib.size_eq]; exact e3
  obtain ⟨h4, h5⟩ := List.append_inj h hl
  subst e1; subst e2
  refine ⟨?_, h5⟩
  have : s1 = s2 := by rw [← bytes_mk s1, h4, bytes_mk]
  rw [this]
theorem key_ne (v : GVal) : keyOf v ≠ [] := by
  intro h
  simp [keyOf] at h
theorem key_inj (a b : List GVal) : keyL a = keyL b ↔ a = b := by
  constructor
  · induction a generalizing b with
    | nil =>
      intro h
      cases b with
      | nil => rfl
      | cons v b =>
        simp only [keyL, List.flatMap_nil, List.flatMap_cons] at h
        exact absurd (List.append_eq_nil_iff.1 h.symm).1 (key_ne v)
    | cons u a ih =>
      intro h
      cases b with
      | nil =>
        simp only [keyL, List.flatMap_nil, List.flatMap_cons] at h
        exact absurd (List.append_eq_nil_iff.1 h).1 (key_ne u)
      | cons v b =>
        simp only [keyL, List.flatMap_cons] at h
        obtain ⟨rfl, h2⟩ := key_step u v _ _ h
        rw [ih b h2]
  · intro h; rw [h]
end Go.Proofs.YtngigmpaabmngaaGreatDoor

namespace Go.Proofs.YtngigmpaabmngaaGreatDoor
open Go.Shelf Go.RowKit Go.Lib Go.Sort
def sh_laysM171_ren : Go.Shelf.Ren := ⟨fun | 171 => 77 | 243 => 113 | 246 => 145 | 283 => 177 | 284 => 178 | 285 => 179 | 286 => 180 | 129 => 125 | 317 => 190 | 318 => 191 | 319 => 192 | 320 => 193 | 337 => 196 | 338 => 197 | n => n, fun | 3 => 3 | 9 => 9 | 2 => 2 | 4 => 4 | 171 => 201 | 0 => 0 | 53 => 159 | 37 => 98 | 5 => 5 | 173 => 203 | 212 => 214 | 51 => 157 | 20 => 20 | 213 => 215 | 46 => 92 | 232 => 218 | 233 => 219 | n => n, fun | 17 => 1 | 18 => 2 | 19 => 3 | n => n⟩
theorem sh_laysM171 : LaysM.n171 Tryz.prog sh_laysM171_ren := {
  mixed := by kernel_rfl
  f129 := Tryz.func125.trans (congrArg some (by kernel_rfl))
  f171 := Tryz.func77.trans (congrArg some (by kernel_rfl))
  f243 := Tryz.func113.trans (congrArg some (by kernel_rfl))
  f246 := Tryz.func145.trans (congrArg some (by kernel_rfl))
  f283 := Tryz.func177.trans (congrArg some (by kernel_rfl))
  f284 := Tryz.func178.trans (congrArg some (by kernel_rfl))
  f285 := Tryz.func179.trans (congrArg some (by kernel_rfl))
  f286 := Tryz.func180.trans (congrArg some (by kernel_rfl))
  f317 := Tryz.func190.trans (congrArg some (by kernel_rfl))
  f318 := Tryz.func191.trans (congrArg some (by kernel_rfl))
  f319 := Tryz.func192.trans (congrArg some (by kernel_rfl))
  f320 := Tryz.func193.trans (congrArg some (by kernel_rfl))
  f337 := Tryz.func196.trans (congrArg some (by kernel_rfl))
  f338 := Tryz.func197.trans (congrArg some (by kernel_rfl))
  t0 := Tryz.underlying0
  a0 := Tryz.isAgg0
  z0 := Tryz.sizeOf0
  v0 := Tryz.zeroValue0
  t2 := Tryz.underlying2
  a2 := Tryz.isAgg2
  z2 := Tryz.sizeOf2
  v2 := Tryz.zeroValue2
  t3 := Tryz.underlying3
  a3 := Tryz.isAgg3
  z3 := Tryz.sizeOf3
  v3 := Tryz.zeroValue3
  t4 := Tryz.underlying4
  a4 := Tryz.isAgg4
  z4 := Tryz.sizeOf4
  v4 := Tryz.zeroValue4
  t5 := Tryz.underlying5
  a5 := Tryz.isAgg5
  z5 := Tryz.sizeOf5
  v5 := Tryz.zeroValue5
  t9 := Tryz.underlying9
  a9 := Tryz.isAgg9
  z9 := Tryz.sizeOf9
  v9 := Tryz.zeroValue9
  t20 := Tryz.underlying20
  a20 := Tryz.isAgg20
  z20 := Tryz.sizeOf20
  v20 := Tryz.zeroValue20
  t37 := Tryz.underlying98
  a37 := Tryz.isAgg98
  z37 := Tryz.sizeOf98
  v37 := Tryz.zeroValue98
  t46 := Tryz.underlying92
  a46 := Tryz.isAgg92
  z46 := Tryz.sizeOf92
  v46 := Tryz.zeroValue92
  t51 := Tryz.underlying157
  a51 := Tryz.isAgg157
  z51 := Tryz.sizeOf157
  v51 := Tryz.zeroValue157
  t53 := Tryz.underlying159
  a53 := Tryz.isAgg159
  z53 := Tryz.sizeOf159
  v53 := Tryz.zeroValue159
  t171 := Tryz.underlying201
  a171 := Tryz.isAgg201
  z171 := Tryz.sizeOf201
  v171 := Tryz.zeroValue201
  t173 := Tryz.underlying203
  a173 := Tryz.isAgg203
  z173 := Tryz.sizeOf203
  v173 := Tryz.zeroValue203
  t212 := Tryz.underlying214
  a212 := Tryz.isAgg214
  z212 := Tryz.sizeOf214
  v212 := Tryz.zeroValue214
  t213 := Tryz.underlying215
  a213 := Tryz.isAgg215
  z213 := Tryz.sizeOf215
  t232 := Tryz.underlying218
  a232 := Tryz.isAgg218
  z232 := Tryz.sizeOf218
  v232 := Tryz.zeroValue218
  t233 := Tryz.underlying219
  a233 := Tryz.isAgg219
  z233 := Tryz.sizeOf219
  v233 := Tryz.zeroValue219
  g17 := by kernel_rfl
  g18 := by kernel_rfl
  g19 := by kernel_rfl
  i0 := by kernel_rfl
  i2 := by kernel_rfl
  i3 := by kernel_rfl
  i4 := by kernel_rfl
  i5 := by kernel_rfl
  i9 := by kernel_rfl
  i20 := by kernel_rfl
  i37 := by kernel_rfl
  i46 := by kernel_rfl
  i51 := by kernel_rfl
  i53 := by kernel_rfl
  i171 := by kernel_rfl
  i173 := by kernel_rfl
  i212 := by kernel_rfl
  i232 := by kernel_rfl
  i233 := by kernel_rfl
  m17 := by kernel_rfl
  m18 := by kernel_rfl
  m19 := by kernel_rfl }
theorem sh_strconv_Itoa (n : Int) (h0 : -9223372036854775808 ≤ n) (h1 : n ≤ 9223372036854775807) (w : World) (htab : Lib.TabIs Tryz.prog w "internal/strconv.uint64pow10" .u64 Lib.pow10Tab) :
    Calls Tryz.prog 77 #[.int .i64 n] w fun e w' => e = .returned (.string ⟨(Lib.itoa n).toArray⟩) ∧ ∃ k os, w' = grow (w.drewN k) os := Any.strconv_Itoa sh_laysM171 n h0 h1 w htab
def sh_laysM173_ren : Go.Shelf.Ren := ⟨fun | 173 => 114 | 246 => 145 | 283 => 177 | 284 => 178 | 285 => 179 | 286 => 180 | 129 => 125 | 317 => 190 | 318 => 191 | 319 => 192 | 320 => 193 | 337 => 196 | 338 => 197 | n => n, fun | 2 => 2 | 3 => 3 | 9 => 9 | 4 => 4 | 171 => 201 | 0 => 0 | 53 => 159 | 37 => 98 | 5 => 5 | 173 => 203 | 212 => 214 | 51 => 157 | 20 => 20 | 213 => 215 | 46 => 92 | 232 => 218 | 233 => 219 | n => n, fun | 17 => 1 | 18 => 2 | 19 => 3 | n => n⟩
theorem sh_laysM173 : LaysM.n173 Tryz.prog sh_laysM173_ren := {
  mixed := by kernel_rfl
  f129 := Tryz.func125.trans (congrArg some (by kernel_rfl))
  f173 := Tryz.func114.trans (congrArg some (by kernel_rfl))
  f246 := Tryz.func145.trans (congrArg some (by kernel_rfl))
  f283 := Tryz.func177.trans (congrArg some (by kernel_rfl))
  f284 := Tryz.func178.trans (congrArg some (by kernel_rfl))
  f285 := Tryz.func179.trans (congrArg some (by kernel_rfl))
  f286 := Tryz.func180.trans (congrArg some (by kernel_rfl))
  f317 := Tryz.func190.trans (congrArg some (by kernel_rfl))
  f318 := Tryz.func191.trans (congrArg some (by kernel_rfl))
  f319 := Tryz.func192.trans (congrArg some (by kernel_rfl))
  f320 := Tryz.func193.trans (congrArg some (by kernel_rfl))
  f337 := Tryz.func196.trans (congrArg some (by kernel_rfl))
  f338 := Tryz.func197.trans (congrArg some (by kernel_rfl))
  t0 := Tryz.underlying0
  a0 := Tryz.isAgg0
  z0 := Tryz.sizeOf0
  v0 := Tryz.zeroValue0
  t2 := Tryz.underlying2
  a2 := Tryz.isAgg2
  z2 := Tryz.sizeOf2
  v2 := Tryz.zeroValue2
  t3 := Tryz.underlying3
  a3 := Tryz.isAgg3
  z3 := Tryz.sizeOf3
  v3 := Tryz.zeroValue3
  t4 := Tryz.underlying4
  a4 := Tryz.isAgg4
  z4 := Tryz.sizeOf4
  v4 := Tryz.zeroValue4
  t5 := Tryz.underlying5
  a5 := Tryz.isAgg5
  z5 := Tryz.sizeOf5
  v5 := Tryz.zeroValue5
  t9 := Tryz.underlying9
  a9 := Tryz.isAgg9
  z9 := Tryz.sizeOf9
  v9 := Tryz.zeroValue9
  t20 := Tryz.underlying20
  a20 := Tryz.isAgg20
  z20 := Tryz.sizeOf20
  v20 := Tryz.zeroValue20
  t37 := Tryz.underlying98
  a37 := Tryz.isAgg98
  z37 := Tryz.sizeOf98
  v37 := Tryz.zeroValue98
  t46 := Tryz.underlying92
  a46 := Tryz.isAgg92
  z46 := Tryz.sizeOf92
  v46 := Tryz.zeroValue92
  t51 := Tryz.underlying157
  a51 := Tryz.isAgg157
  z51 := Tryz.sizeOf157
  v51 := Tryz.zeroValue157
  t53 := Tryz.underlying159
  a53 := Tryz.isAgg159
  z53 := Tryz.sizeOf159
  v53 := Tryz.zeroValue159
  t171 := Tryz.underlying201
  a171 := Tryz.isAgg201
  z171 := Tryz.sizeOf201
  v171 := Tryz.zeroValue201
  t173 := Tryz.underlying203
  a173 := Tryz.isAgg203
  z173 := Tryz.sizeOf203
  v173 := Tryz.zeroValue203
  t212 := Tryz.underlying214
  a212 := Tryz.isAgg214
  z212 := Tryz.sizeOf214
  v212 := Tryz.zeroValue214
  t213 := Tryz.underlying215
  a213 := Tryz.isAgg215
  z213 := Tryz.sizeOf215
  t232 := Tryz.underlying218
  a232 := Tryz.isAgg218
  z232 := Tryz.sizeOf218
  v232 := Tryz.zeroValue218
  t233 := Tryz.underlying219
  a233 := Tryz.isAgg219
  z233 := Tryz.sizeOf219
  v233 := Tryz.zeroValue219
  g17 := by kernel_rfl
  g18 := by kernel_rfl
  g19 := by kernel_rfl
  i0 := by kernel_rfl
  i2 := by kernel_rfl
  i3 := by kernel_rfl
  i4 := by kernel_rfl
  i5 := by kernel_rfl
  i9 := by kernel_rfl
  i20 := by kernel_rfl
  i37 := by kernel_rfl
  i46 := by kernel_rfl
  i51 := by kernel_rfl
  i53 := by kernel_rfl
  i171 := by kernel_rfl
  i173 := by kernel_rfl
  i212 := by kernel_rfl
  i232 := by kernel_rfl
  i233 := by kernel_rfl
  m17 := by kernel_rfl
  m18 := by kernel_rfl
  m19 := by kernel_rfl }
theorem sh_strconv_FormatInt_10 (n : Int) (h0 : -9223372036854775808 ≤ n) (h1 : n ≤ 9223372036854775807) (w : World) (htab : Lib.TabIs Tryz.prog w "internal/strconv.uint64pow10" .u64 Lib.pow10Tab) :
    Calls Tryz.prog 114 #[.int .i64 n, .int .i64 10] w fun e w' => e = .returned (.string ⟨(Lib.itoa n).toArray⟩) ∧ ∃ k os, w' = grow (w.drewN k) os := Any.strconv_FormatInt_10 sh_laysM173 n h0 h1 w htab
end Go.Proofs.YtngigmpaabmngaaGreatDoor

namespace Go.Proofs.YtngigmpaabmngaaGreatDoor
open Go.Shelf Go.RowKit

def bldRen : Go.Shelf.Ren := ⟨fun | 240 => 112 | 276 => 144 | 166 => 76 | 169 => 79 | n => n, fun | 0 => 0 | 3 => 3 | 4 => 4 | 5 => 5 | 9 => 9 | 20 => 20 | 37 => 98 | 70 => 97 | 72 => 100 | 75 => 102 | 80 => 107 | 164 => 173 | 127 => 147 | n => n, fun | n => n⟩
theorem bldLays240 : Lays.n240 Tryz.prog bldRen := {
  mixed := by kernel_rfl
  f240 := Tryz.func112.trans (congrArg some (by kernel_rfl))
  f276 := Tryz.func144.trans (congrArg some (by kernel_rfl))
  t0 := Tryz.underlying0
  a0 := Tryz.isAgg0
  z0 := Tryz.sizeOf0
  v0 := Tryz.zeroValue0
  t4 := Tryz.underlying4
  a4 := Tryz.isAgg4
  z4 := Tryz.sizeOf4
  v4 := Tryz.zeroValue4
  t9 := Tryz.underlying9
  a9 := Tryz.isAgg9
  z9 := Tryz.sizeOf9
  v9 := Tryz.zeroValue9
  t20 := Tryz.underlying20
  a20 := Tryz.isAgg20
  z20 := Tryz.sizeOf20
  v20 := Tryz.zeroValue20
  t70 := Tryz.underlying97
  a70 := Tryz.isAgg97
  z70 := Tryz.sizeOf97
  v70 := Tryz.zeroValue97
  t72 := Tryz.underlying100
  a72 := Tryz.isAgg100
  z72 := Tryz.sizeOf100
  v72 := Tryz.zeroValue100
  t164 := Tryz.underlying173
  a164 := Tryz.isAgg173
  z164 := Tryz.sizeOf173
  v164 := Tryz.zeroValue173 }
theorem bldLays166 : Lays.n166 Tryz.prog bldRen := {
  mixed := by kernel_rfl
  f166 := Tryz.func76.trans (congrArg some (by kernel_rfl))
  f240 := Tryz.func112.trans (congrArg some (by kernel_rfl))
  f276 := Tryz.func144.trans (congrArg some (by kernel_rfl))
  t0 := Tryz.underlying0
  a0 := Tryz.isAgg0
  z0 := Tryz.sizeOf0
  v0 := Tryz.zeroValue0
  t3 := Tryz.underlying3
  a3 := Tryz.isAgg3
  z3 := Tryz.sizeOf3
  v3 := Tryz.zeroValue3
  t4 := Tryz.underlying4
  a4 := Tryz.isAgg4
  z4 := Tryz.sizeOf4
  v4 := Tryz.zeroValue4
  t9 := Tryz.underlying9
  a9 := Tryz.isAgg9
  z9 := Tryz.sizeOf9
  v9 := Tryz.zeroValue9
  t20 := Tryz.underlying20
  a20 := Tryz.isAgg20
  z20 := Tryz.sizeOf20
  v20 := Tryz.zeroValue20
  t37 := Tryz.underlying98
  a37 := Tryz.isAgg98
  z37 := Tryz.sizeOf98
  v37 := Tryz.zeroValue98
  t70 := Tryz.underlying97
  a70 := Tryz.isAgg97
  z70 := Tryz.sizeOf97
  v70 := Tryz.zeroValue97
  t72 := Tryz.underlying100
  a72 := Tryz.isAgg100
  z72 := Tryz.sizeOf100
  v72 := Tryz.zeroValue100
  t75 := Tryz.underlying102
  a75 := Tryz.isAgg102
  z75 := Tryz.sizeOf102
  v75 := Tryz.zeroValue102
  t164 := Tryz.underlying173
  a164 := Tryz.isAgg173
  z164 := Tryz.sizeOf173
  v164 := Tryz.zeroValue173 }
theorem bldLays169 : Lays.n169 Tryz.prog bldRen := {
  mixed := by kernel_rfl
  f169 := Tryz.func79.trans (congrArg some (by kernel_rfl))
  t0 := Tryz.underlying0
  a0 := Tryz.isAgg0
  z0 := Tryz.sizeOf0
  v0 := Tryz.zeroValue0
  t3 := Tryz.underlying3
  a3 := Tryz.isAgg3
  z3 := Tryz.sizeOf3
  v3 := Tryz.zeroValue3
  t9 := Tryz.underlying9
  a9 := Tryz.isAgg9
  z9 := Tryz.sizeOf9
  v9 := Tryz.zeroValue9
  t37 := Tryz.underlying98
  a37 := Tryz.isAgg98
  z37 := Tryz.sizeOf98
  v37 := Tryz.zeroValue98
  t70 := Tryz.underlying97
  a70 := Tryz.isAgg97
  z70 := Tryz.sizeOf97
  v70 := Tryz.zeroValue97
  t72 := Tryz.underlying100
  a72 := Tryz.isAgg100
  z72 := Tryz.sizeOf100
  v72 := Tryz.zeroValue100
  t127 := Tryz.underlying147
  a127 := Tryz.isAgg147
  z127 := Tryz.sizeOf147
  v127 := Tryz.zeroValue147 }
theorem bldX72 : Builder.X72 Tryz.prog bldRen := {
  sizeBuilder := by kernel_rfl
  liesBuilder := by kernel_rfl }
theorem bldExtra : Builder.Extra Tryz.prog bldRen := {
  sizeBuilder := by kernel_rfl
  liesBuilder := by kernel_rfl
  t5 := Tryz.underlying5
  a5 := Tryz.isAgg5
  z5 := Tryz.sizeOf5
  v5 := Tryz.zeroValue5
  infoByte := by kernel_rfl
  cellsByte := by kernel_rfl
  sizeByte := by kernel_rfl
  neB5 := by decide }
/-- A strings.Builder at block b that the call has made (its blocks: from B on), holding these bytes. -/
abbrev Bld (B b : Nat) (bs : List Value) (w : World) : Prop := Lib.IsBuilderF 100 5 B b bs w
/-- Every block but b that is no row of bytes stands as it stood. -/
abbrev BKept (b : Nat) (w w' : World) : Prop := Lib.OthersKept 5 (some b) w w'
theorem bld_fresh (w : World) : Bld w.heap.size w.heap.size [] (w.alloc (.cells #[.pointer none, .slice none 0 0] 100)) := Lib.IsBuilderF.of (Lib.fresh_isBuilder _ _ w)
theorem bld_WriteString (B b : Nat) (bs : List Value) (s : ByteArray) (w : World) (h : Bld B b bs w) (hlen : bs.length + s.size ≤ 140737488355328) (hBw : B ≤ w.heap.size) :
    Calls Tryz.prog 76 #[.pointer (some ⟨b, 0, none⟩), .string s] w fun e w' => e = .returned (.tuple #[.int .i64 s.size, .nilIface]) ∧ Bld B b (bs ++ Lib.strCells s) w' ∧ Below B w w' ∧ BKept b w w' :=
  (Any.Builder_WriteString_k bldLays166 bldExtra B b bs s w h hlen hBw).mono fun _ _ ⟨h1, h2, h3, h4⟩ => ⟨h1, .inr h2, h3, h4⟩
theorem bld_String (B b : Nat) (l : List UInt8) (w : World) (h : Bld B b (Lib.byteCells l) w) (hBw : B ≤ w.heap.size) :
    Calls Tryz.prog 79 #[.pointer (some ⟨b, 0, none⟩)] w fun e w' => e = .returned (.string ⟨l.toArray⟩) ∧ Below B w w' :=
  (Any.Builder_String_any_k bldLays169 bldExtra B b l w h hBw).mono fun _ _ ⟨h1, _, h3, _⟩ => ⟨h1, h3⟩
theorem bld_lt {B b : Nat} {bs : List Value} {w : World} (h : Bld B b bs w) : b < w.heap.size := by
  rcases h with ⟨_, v, h, _⟩ | ⟨_, v, h, _⟩ <;> exact (Array.getElem?_eq_some_iff.1 h).1
theorem strCells_mk (l : List UInt8) : Lib.strCells ⟨l.toArray⟩ = Lib.byteCells l := by simp [Lib.strCells, Lib.byteCells]
theorem byteCells_append (l m : List UInt8) : Lib.byteCells (l ++ m) = Lib.byteCells l ++ Lib.byteCells m := by simp [Lib.byteCells]
theorem byteCells_snoc (l : List UInt8) (c : UInt8) : Lib.byteCells (l ++ [c]) = Lib.byteCells l ++ [.int .u8 c.toNat] := by simp [Lib.byteCells]
theorem byteCells_length (l : List UInt8) : (Lib.byteCells l).length = l.length := by simp [Lib.byteCells]
theorem bytes_append (l m : List UInt8) : (ByteArray.mk l.toArray) ++ (ByteArray.mk m.toArray) = ByteArray.mk (l ++ m).toArray := by
  apply ByteArray.ext
  simp
/-- A builder stays one while nothing below the heap's end turns. -/
theorem bld_below {B b : Nat} {bs : List Value} {w w' : World} (h : Bld B b bs w) (hb : Below w.heap.size w w') : Bld B b bs w' := by
  have key : ∀ p, Lib.BuilderAtF 100 5 B b p bs w → Lib.BuilderAtF 100 5 B b p bs w' := by
    intro p ⟨h1, v, h2, h3, h4⟩
    refine ⟨h1, v, ?_, ?_, h4⟩
    · rw [hb.block b (Array.getElem?_eq_some_iff.1 h2).1]; exact h2
    · refine ⟨h3.1, ?_⟩
      rcases h3.2 with h5 | ⟨g, cap, cur, fz, hv, hg, hh, r⟩
      · exact .inl h5
      · exact .inr ⟨g, cap, cur, fz, hv, hg, by rw [hb.block g (Array.getElem?_eq_some_iff.1 hh).1]; exact hh, r⟩
  rcases h with h | h
  · exact .inl (key _ h)
  · exact .inr (key _ h)
end Go.Proofs.YtngigmpaabmngaaGreatDoor

namespace Go.Proofs.YtngigmpaabmngaaGreatDoor
open Go.RowKit

/-- The library's table of powers of ten reads as laid. -/
def Pow (w : World) : Prop := Lib.TabIs Tryz.prog w "internal/strconv.uint64pow10" .u64 Lib.pow10Tab
theorem pow_named : Tryz.prog.globalNamed "internal/strconv.uint64pow10" = some 1 := by kernel_rfl
theorem Pow.below {w w' : World} (h : Pow w) (hb : Below w.heap.size w w') : Pow w' := Go.Joins.tab_stays pow_named h hb (Nat.le_refl _)
theorem Pow.keep {w w' : World} (h : Pow w) (hb : Below w.heap.size w w') : Pow w' := h.below hb
theorem pow_drew {w : World} (h : Pow w) : Pow w.drew := h.below (Below.refl _ _).drew
theorem fmtInt_pow (n : Int) (h : In64 n) (w : World) (ht : Pow w) : Calls Tryz.prog 114 #[.int .i64 n, .int .i64 10] w fun e w' => e = .returned (.string ⟨(Lib.itoa n).toArray⟩) ∧ Below w.heap.size w w' :=
  (sh_strconv_FormatInt_10 n h.1 h.2 w ht).mono fun _ _ ⟨h1, k, os, h2⟩ => ⟨h1, by rw [h2]; exact Lib.below_grow _ _ (Nat.le_refl _) _ _⟩
theorem itoa_pow (n : Int) (h : In64 n) (w : World) (ht : Pow w) : Calls Tryz.prog 77 #[.int .i64 n] w fun e w' => e = .returned (.string ⟨(Lib.itoa n).toArray⟩) ∧ Below w.heap.size w w' :=
  (sh_strconv_Itoa n h.1 h.2 w ht).mono fun _ _ ⟨h1, k, os, h2⟩ => ⟨h1, by rw [h2]; exact Lib.below_grow _ _ (Nat.le_refl _) _ _⟩
theorem app_bytes (l m : List UInt8) : (ByteArray.mk l.toArray) ++ (ByteArray.mk m.toArray) = ByteArray.mk (l ++ m).toArray := by
  apply ByteArray.ext
  simp
set_option maxHeartbeats 4000000 in
theorem val_at3 {w : World} {G : Nat → Prop} {a : Option Addr} {n c k : Nat} {l : List GVal} {x : GVal} (h : Sl valE w G (.slice a n c) l) (hk : l[k]? = some x) :
    ∃ b o, a = some ⟨b, o, none⟩ ∧ w.cell? ⟨b, o + k * 3, none⟩ = some (.int .i64 x.kind) ∧ w.cell? ⟨b, o + k * 3 + 1, none⟩ = some (.int .i64 x.n) ∧ w.cell? ⟨b, o + k * 3 + 2, none⟩ = some (.string x.s) := by
  obtain ⟨b, o, cs, ha, rfl, hc⟩ := Sl.at h hk
  exact ⟨b, o, ha, hc 0 _ rfl, hc 1 _ rfl, hc 2 _ rfl⟩
theorem bld_alloc {B b : Nat} {bs : List Value} {w : World} {o : Obj} (h : Bld B b bs w) : Bld B b bs (w.alloc o) := bld_below h (below_alloc _ _)
theorem bld_drew {B b : Nat} {bs : List Value} {w : World} (h : Bld B b bs w) : Bld B b bs w.drew := bld_below h (Below.refl _ _).drew
theorem bld_keep {B b : Nat} {bs : List Value} {w w' : World} (h : Bld B b bs w) (hb : Below w.heap.size w w') : Bld B b bs w' := bld_below h hb
theorem bkept_box {b g : Nat} {w w' : World} {c : Array Value} {t : TypeId} {fz : Nat × Nat} (hk : BKept b w w') (h : w.heap[g]? = some (.cells c t fz)) (hg : g ≠ b) (ht : t ≠ 5) : w'.heap[g]? = some (.cells c t fz) :=
  hk g _ h (fun e => hg (by cases e; rfl)) (fun c' fz' e => ht (by cases e; rfl))
theorem below_tr {B : Nat} {w W w' : World} (h : Below B w W) (hb : Below B W w') : Below B w w' := h.trans hb
theorem box_drew {w : World} {g : Nat} {o : Obj} (h : w.heap[g]? = some o) : w.drew.heap[g]? = some o := h
def keyBytes (v : GVal) : ByteArray := ⟨(keyOf v).toArray⟩
theorem keyBytes_eq (v : GVal) : keyBytes v = (ByteArray.mk (Lib.itoa v.kind).toArray) ++ (ByteArray.mk #[44]) ++ (ByteArray.mk (Lib.itoa v.n).toArray) ++ (ByteArray.mk #[44]) ++ (ByteArray.mk (Lib.itoa v.s.size).toArray) ++ (ByteArray.mk #[58]) ++ v.s := by
  rw [show v.s = ByteArray.mk v.s.data.toList.toArray from (bytes_mk v.s).symm, show (ByteArray.mk #[44]) = ByteArray.mk [44].toArray from rfl, show (ByteArray.mk #[58]) = ByteArray.mk [58].toArray from rfl]
  simp only [app_bytes, keyBytes, keyOf]
theorem keyOf_length (v : GVal) (hk : In64 v.kind) (hn : In64 v.n) (hs : v.s.size ≤ 9223372036854775807) : (keyOf v).length ≤ 70 + v.s.size := by
  have h1 := Lib.itoa_length_le v.kind hk.1 hk.2
  have h2 := Lib.itoa_length_le v.n hn.1 hn.2
  have h3 := Lib.itoa_length_le v.s.size (by omega) (by omega)
  have h4 := Lib.size_eq v.s
  simp only [keyOf, List.length_append, List.length_singleton]
  omega
theorem key_at_le (l : List GVal) : ∀ (k : Nat) (x : GVal), l[k]? = some x → x.s.size ≤ (keyL l).length ∧ (keyL (l.take k)).length + (keyOf x).length ≤ (keyL l).length := by
  intro k x h
  have e : keyL l = keyL (l.take k) ++ keyOf x ++ keyL (l.drop (k + 1)) := by
    have h1 : l = l.take k ++ (x :: l.drop (k + 1)) := by rw [← drop_get h, List.take_append_drop]
    conv => lhs; rw [h1]
    simp [keyL, List.flatMap_append]
  have h2 : x.s.size ≤ (keyOf x).length := by
    have := Lib.size_eq x.s
    simp only [keyOf, List.length_append, List.length_singleton]
    omega
  rw [e, List.length_append, List.length_append]
  omega
set_option maxHeartbeats 4000000 in
set_option maxRecDepth 100000 in
theorem key_any (v : Value) (l : List GVal) (w : World) (hv : Sl valE w free v l) (hk : ∀ x ∈ l, In64 x.kind ∧ In64 x.n ∧ x.s.size ≤ maxLen) (hlen : (keyL l).length ≤ 140737488355328) (hT : Pow w) :
    Calls Tryz.prog 78 #[v] w fun e w' => e = .returned (.string ⟨(keyL l).toArray⟩) ∧ Below w.heap.size w w' := by
  obtain ⟨a1, c1, rfl⟩ := hv.shape
  have h63 := hv.1
  have HV := Lib.hid hv
  have HT := Lib.hid hT
  have HK := Lib.hid hk
  have HL := Lib.hid hlen
  obtain ⟨n, hn⟩ : ∃ n, n = l.length := ⟨_, rfl⟩
  have HN := Lib.hid hn
  rw [← hn] at HV h63 ⊢
  clear hv hn hT hk hlen
  go_enter Tryz.func78, Tryz.ntmps78
  go_wp2_with fail
  go_loopw [8] (fun i wr => ∃ k : Nat, k ≤ n ∧ i = .int .i64 k ∧ Hid (Bld w.heap.size w.heap.size (Lib.byteCells (keyL (l.take k))) wr) ∧ Hid (Below w.heap.size w wr)) (fun i _ => n - (intOf i).toNat)
  case atStart => exact ⟨0, Nat.zero_le _, rfl, Lib.hid (bld_fresh w), Lib.hid (below_alloc _ _)⟩
  case round =>
    obtain ⟨k, hk, rfl, HBl, HB⟩ := hrel
    obtain ⟨wo, rfl⟩ : ∃ wo : World, wo = wr := ⟨_, rfl⟩
    by_cases hlt : k < n
    · obtain ⟨x, hx⟩ := lget_some l k (by rw [← HN.out]; exact hlt)
      obtain ⟨b, o, rfl, p0, p1, p2⟩ := val_at3 (HV.out.below HB.out) hx
      have hxm := HK.out x (List.mem_of_getElem? hx)
      have HX := Lib.hid hx
      have hzo := HB.out.size
      obtain ⟨kk, kn, ks⟩ := x
      dsimp only at hxm p0 p1 p2
      have hks : ks.size ≤ 9223372036854775807 := by have := hxm.2.2; unfold maxLen at this; omega
      have HXM := Lib.hid hxm
      clear hx hxm
      have hkk := HXM.out.1
      have hkn := HXM.out.2.1
      have hsz : In64 (ks.size : Int) := by unfold In64; omega
      have hl1 := Lib.itoa_length_le kk hkk.1 hkk.2
      have hl2 := Lib.itoa_length_le kn hkn.1 hkn.2
      have hl3 := Lib.itoa_length_le (ks.size : Int) hsz.1 hsz.2
      have hl4 : ks.size ≤ 140737488355328 := by
        have h1 := key_at_le l k _ HX.out
        have h2 := HL.out
        dsimp only at h1
        omega
      have j1 : ¬ 9223372036854775807 < (Lib.itoa kk).length + 1 := by omega
      have j2 : ¬ 9223372036854775807 < (Lib.itoa kk).length + 1 + (Lib.itoa kn).length := by omega
      have j3 : ¬ 9223372036854775807 < (Lib.itoa kk).length + 1 + (Lib.itoa kn).length + 1 := by omega
      have j4 : ¬ 9223372036854775807 < (Lib.itoa kk).length + 1 + (Lib.itoa kn).length + 1 + (Lib.itoa (ks.size : Int)).length := by omega
      have j5 : ¬ 9223372036854775807 < (Lib.itoa kk).length + 1 + (Lib.itoa kn).length + 1 + (Lib.itoa (ks.size : Int)).length + 1 := by omega
      have j6 : ¬ 9223372036854775807 < (Lib.itoa kk).length + 1 + (Lib.itoa kn).length + 1 + (Lib.itoa (ks.size : Int)).length + 1 + ks.size := by omega
      have hT0 := HT.out.below (below_alloc_keep (o := .cells #[.int .i64 kk, .int .i64 kn, .string ks] 86) HB.out)
      have hB0 := below_alloc_keep (o := .cells #[.int .i64 kk, .int .i64 kn, .string ks] 86) HB.out
      obtain ⟨⟨c0, c1, c2⟩, _⟩ := box_three (heap_alloc_new wo (.cells #[.int .i64 kk, .int .i64 kn, .string ks] 86))
      have hL0 := bld_alloc (o := .cells #[.int .i64 kk, .int .i64 kn, .string ks] 86) HBl.out
      go_wp2_with fail
      have hX0 := heap_alloc_new wo (.cells #[.int .i64 kk, .int .i64 kn, .string ks] 86)
      have hne : wo.heap.size ≠ w.heap.size := by have := bld_lt HBl.out; omega
      have HW : ∀ W : World, Hid (Bld w.heap.size w.heap.size (Lib.byteCells (keyL (l.take k))) W → w.heap.size ≤ W.heap.size → Calls Tryz.prog 76 #[.pointer (some ⟨w.heap.size, 0, none⟩), .string ((ByteArray.mk (Lib.itoa kk).toArray) ++ (ByteArray.mk #[44]) ++ (ByteArray.mk (Lib.itoa kn).toArray) ++ (ByteArray.mk #[44]) ++ (ByteArray.mk (Lib.itoa ks.size).toArray) ++ (ByteArray.mk #[58]) ++ ks)] W fun e w' =>
          e = .returned (.tuple #[.int .i64 ((keyBytes ⟨kk, kn, ks⟩).size : Int), .nilIface]) ∧ Bld w.heap.size w.heap.size (Lib.byteCells (keyL (l.take (k + 1)))) w' ∧ Below w.heap.size W w' ∧ BKept w.heap.size W w') := fun W hL hz => by
        have h1 := keyBytes_eq ⟨kk, kn, ks⟩
        have h2 := key_at_le l k _ HX.out
        have h3 := HL.out
        have h4 : (keyBytes ⟨kk, kn, ks⟩).size = (keyOf ⟨kk, kn, ks⟩).length := by simp [keyBytes, ByteArray.size]
        have h5 : (Lib.byteCells (keyL (l.take k))).length = (keyL (l.take k)).length := by simp [Lib.byteCells]
        dsimp only at h1
        rw [← h1]
        refine (bld_WriteString _ _ _ _ _ hL (by omega) hz).mono ?_
        rintro e w' ⟨h6, h7, h8, h9⟩
        refine ⟨h6, ?_, h8, h9⟩
        have h10 : keyL (l.take (k + 1)) = keyL (l.take k) ++ keyOf ⟨kk, kn, ks⟩ := by rw [take_get HX.out]; simp [keyL, List.flatMap_append]
        rw [h10, byteCells_append, ← strCells_mk (keyOf _)]
        exact h7
      go_region_held3 (fun W => Below w.heap.size w W ∧ Pow W ∧ W.heap[wo.heap.size]? = some (.cells #[.int .i64 kk, .int .i64 kn, .string ks] 86) ∧ W.cell? ⟨wo.heap.size, 0, none⟩ = some (.int .i64 kk) ∧ W.cell? ⟨wo.heap.size, 1, none⟩ = some (.int .i64 kn) ∧ W.cell? ⟨wo.heap.size, 2, none⟩ = some (.string ks))
        ((go_split_ands; refine ⟨?_, ?_, ?_, ?_, ?_, ?_⟩ <;> first | (with_reducible assumption) | with_reducible exact Below.drew (by assumption) | with_reducible exact pow_drew (by assumption) | with_reducible exact box_drew (by assumption) | with_reducible exact cell_drew (by assumption) | with_reducible exact below_keep (by assumption) (by assumption) | with_reducible exact Pow.keep (by assumption) (by assumption) | with_reducible exact box_kept (by assumption) (by assumption) | with_reducible exact cell_keep (by assumption) (by assumption)))
        (first
          | (go_at_call 77; go_split_ands; refine (itoa_pow _ (by assumption) _ (by assumption)).mono ?_; rintro e w' ⟨rfl, hb⟩; have hL := bld_keep (by first | assumption | exact bld_drew (by assumption)) hb)
          | (go_at_call 114; go_split_ands; refine (fmtInt_pow _ (by assumption) _ (by assumption)).mono ?_; rintro e w' ⟨rfl, hb⟩; have hL := bld_keep (by first | assumption | exact bld_drew (by assumption)) hb)
          | (go_at_call 76; go_split_ands; refine ((HW _).out (by first | assumption | exact bld_drew (by assumption)) (Below.size (by assumption))).mono ?_; rintro e w4 ⟨rfl, hL4, hb4, hk4⟩; have hB4 := below_tr (by assumption) hb4; have hT4 := HT.out.below hB4; have hX4 := bkept_box hk4 (by assumption) hne (by decide); obtain ⟨⟨e0, e1, e2⟩, _⟩ := box_three hX4))
      all_goals
        have HL4 := Lib.hid hL4
        have HB4 := Lib.hid hB4
        clear hL4 hB4 hb4 hk4 hT4 hX4 e0 e1 e2 HW
        go_wp2_with fail
        go_roundw
        case rel => exact ⟨k + 1, by omega, by go_num, HL4, HB4⟩
        case measure => simp [intOf]; omega
    · have hkn : k = n := by omega
      subst hkn
      have hz := HB.out.size
      have HS : Hid (keyL (l.take k) = keyL l) := by rw [List.take_of_length_le (by rw [← HN.out]; exact Nat.le_refl _)]; exact Lib.hid rfl
      go_wp2_with (go_at_call 79; refine (bld_String _ _ _ _ HBl.out hz).mono ?_; rintro e w' ⟨rfl, hw⟩)
      go_ret
      rw [HS.out]
      exact ⟨rfl, HB.out.trans hw⟩
/-- The key of a row. -/
def linKey (l : List Int) : List UInt8 := l.flatMap fun i => 44 :: Lib.itoa i
def rowKeyL (r : GRow) : List UInt8 := Lib.itoa r.vals.length ++ [59] ++ keyL r.vals ++ linKey r.lin
theorem linKey_snoc (l : List Int) (x : Int) : linKey (l ++ [x]) = linKey l ++ (44 :: Lib.itoa x) := by unfold linKey; rw [List.flatMap_append]; simp
theorem linKey_end (l : List Int) : ∃ h, linKey l ++ [44] = 44 :: h := by cases l with
  | nil => exact ⟨[], rfl⟩
  | cons x l => exact ⟨Lib.itoa x ++ linKey l ++ [44], by simp [linKey]⟩
theorem linKey_inj : ∀ (a b : List Int), linKey a = linKey b → a = b
  | [], [], _ => rfl
  | [], y :: b, h => by simp [linKey] at h
  | x :: a, [], h => by simp [linKey] at h
  | x :: a, y :: b, h => by
    have h1 : (Lib.itoa x ++ linKey a) ++ [44] = (Lib.itoa y ++ linKey b) ++ [44] := by
      have : Lib.itoa x ++ linKey a = Lib.itoa y ++ linKey b := by
        have h2 : (44 :: (Lib.itoa x ++ linKey a)) = 44 :: (Lib.itoa y ++ linKey b) := by simpa [linKey] using h
        exact (List.cons.inj h2).2
      rw [this]
    obtain ⟨p, hp⟩ := linKey_end a
    obtain ⟨q, hq⟩ := linKey_end b
    rw [List.append_assoc, List.append_assoc, hp, hq] at h1
    obtain ⟨h2, h3⟩ := sep_inj 44 _ _ _ _ (itoa_not _ _ (by decide) (by decide)) (itoa_not _ _ (by decide) (by decide)) h1
    have h4 : linKey a = linKey b := List.append_cancel_right (bs := [44]) (by rw [hp, hq, h3])
    rw [itoa_inj h2, linKey_inj a b h4]
theorem keyL_split : ∀ (a b : List GVal) (x y : List UInt8), a.length = b.length → keyL a ++ x = keyL b ++ y → a = b ∧ x = y
  | [], [], x, y, _, h => ⟨rfl, by simpa [keyL] using h⟩
  | [], v :: b, x, y, hl, _ => by simp at hl
  | u :: a, [], x, y, hl, _ => by simp at hl
  | u :: a, v :: b, x, y, hl, h => by
    simp only [keyL, List.flatMap_cons, List.append_assoc] at h
    obtain ⟨rfl, h2⟩ := key_step u v _ _ h
    obtain ⟨rfl, h3⟩ := keyL_split a b x y (by simpa using hl) h2
    exact ⟨rfl, h3⟩
theorem rowKey_inj {a b : GRow} (h : rowKeyL a = rowKeyL b) : a = b := by
  obtain ⟨v1, l1⟩ := a
  obtain ⟨v2, l2⟩ := b
  unfold rowKeyL at h
  dsimp only at h
  simp only [List.append_assoc, List.singleton_append] at h
  obtain ⟨h1, h2⟩ := sep_inj 59 _ _ _ _ (itoa_not _ _ (by decide) (by decide)) (itoa_not _ _ (by decide) (by decide)) h
  have h3 := itoa_inj h1
  obtain ⟨rfl, h4⟩ := keyL_split v1 v2 _ _ (by omega) h2
  rw [linKey_inj _ _ h4]
theorem linKey_length {l : List Int} (h : ∀ x ∈ l, In64 x) : (linKey l).length ≤ 30 * l.length := by
  induction l with
  | nil => simp [linKey]
  | cons x l ih =>
    have h1 := ih fun y hy => h y (.tail _ hy)
    have h2 := Lib.itoa_length_le x (h x (.head _)).1 (h x (.head _)).2
    have e : linKey (x :: l) = 44 :: (Lib.itoa x ++ linKey l) := by simp [linKey]
    rw [e, List.length_cons, List.length_append, List.length_cons]
    omega
theorem itoa_le {n : Int} (h : In64 n) : (Lib.itoa n).length ≤ 21 := Lib.itoa_length_le n h.1 h.2
end Go.Proofs.YtngigmpaabmngaaGreatDoor

namespace Go.Proofs.YtngigmpaabmngaaGreatDoor
open Go.RowKit

def keyT (x : Tup) : List UInt8 := rowKeyL x.row
/-- The periods of the tuples with that key. -/
def perOf (l : List Tup) (s : List UInt8) : List (Int × Int) := (l.filter fun x => pvalid x.lo x.hi && (keyT x == s)).map fun x => (x.lo, x.hi)
theorem perOf_snoc (l : List Tup) (x : Tup) (s : List UInt8) : perOf (l ++ [x]) s = perOf l s ++ if (pvalid x.lo x.hi && (keyT x == s)) = true then [(x.lo, x.hi)] else [] := by
  unfold perOf
  rw [List.filter_append, List.map_append]
  congr 1
  rw [List.filter_cons, List.filter_nil]
  split <;> rfl
theorem perOf_valid (l : List Tup) (s : List UInt8) : ∀ p ∈ perOf l s, pvalid p.1 p.2 = true := by
  intro p hp
  unfold perOf at hp
  obtain ⟨x, hx, rfl⟩ := List.mem_map.1 hp
  have := (List.mem_filter.1 hx).2
  rw [Bool.and_eq_true] at this
  exact this.1
theorem perOf_len (l : List Tup) (s : List UInt8) : (perOf l s).length ≤ l.length := by unfold perOf; rw [List.length_map]; exact List.length_filter_le _ _
theorem perOf_cnt (l : List Tup) (r : GRow) (t : Int) : atDay (l.filter fun x => keyT x == rowKeyL r) t = List.replicate (cntP (perOf l (rowKeyL r)) t) r := by
  induction l with
  | nil => rfl
  | cons x l ih =>
    by_cases h1 : keyT x = rowKeyL r
    · have hr : x.row = r := rowKey_inj h1
      rw [List.filter_cons, if_pos (by simpa using h1), atDay_cons, ih]
      by_cases h2 : pvalid x.lo x.hi = true
      · have e : perOf (x :: l) (rowKeyL r) = (x.lo, x.hi) :: perOf l (rowKeyL r) := by unfold perOf; rw [List.filter_cons, if_pos (by simp [h1, h2])]; rfl
        have ec : cntP ((x.lo, x.hi) :: perOf l (rowKeyL r)) t = cntP (perOf l (rowKeyL r)) t + if pincl x.lo x.hi t = true then 1 else 0 := by unfold cntP; rw [List.countP_cons]
        rw [e, ec]
        split
        · rw [List.replicate_succ, hr]
        · rfl
      · have e : perOf (x :: l) (rowKeyL r) = perOf l (rowKeyL r) := by unfold perOf; rw [List.filter_cons, if_neg (by simp [h2])]
        rw [e, if_neg (fun h => h2 (pincl_iff.1 h).1)]
    · have e : perOf (x :: l) (rowKeyL r) = perOf l (rowKeyL r) := by unfold perOf; rw [List.filter_cons, if_neg (by simp [h1])]
      rw [List.filter_cons, if_neg (by simpa using h1), ih, e]
/-- What is made of the tuples whose keys are done. -/
structure NrmI (l : List Tup) (L : List UInt8 → Bool) (out : List Tup) : Prop where
  lev : Lev out
  key : ∀ x ∈ out, L (keyT x) = false
  day : ∀ t, (atDay out t).Perm (atDay (l.filter fun x => !L (keyT x)) t)
  len : out.length ≤ (l.filter fun x => pvalid x.lo x.hi && !L (keyT x)).length
theorem NrmI.start {l : List Tup} {L : List UInt8 → Bool} (h : ∀ x ∈ l, pvalid x.lo x.hi = true → L (keyT x) = true) : NrmI l L [] := by
  refine ⟨Lev.nil, by simp, fun t => ?_, Nat.zero_le _⟩
  have : atDay (l.filter fun x => !L (keyT x)) t = [] := by
    refine List.eq_nil_iff_forall_not_mem.2 fun r hr => ?_
    obtain ⟨x, hx, _, hi⟩ := mem_atDay.1 hr
    obtain ⟨h1, h2⟩ := List.mem_filter.1 hx
    rw [h x h1 (pincl_iff.1 hi).1] at h2
    cases h2
  rw [this]
  exact .refl _
theorem filter_parts {l : List Tup} {p q r : Tup → Bool} (h : ∀ x, r x = (p x || q x)) (hd : ∀ x, p x = true → q x = false) : (l.filter p ++ l.filter q).Perm (l.filter r) := by
  have h1 := List.filter_append_perm p (l.filter r)
  rw [List.filter_filter, List.filter_filter] at h1
  have e1 : (fun a => p a && r a) = p := by funext x; rw [h x]; cases p x <;> simp
  have e2 : (fun a => !p a && r a) = q := by
    funext x
    rw [h x]
    cases hp : p x
    · simp
    · simp [hd x hp]
  rw [e1, e2] at h1
  exact h1
theorem NrmI.step {l out M : List _} {L : List UInt8 → Bool} {r : GRow} (h : NrmI l L out) (hL : L (rowKeyL r) = true) (hM : LevOf (perOf l (rowKeyL r)) M) (hlen : M.length ≤ (perOf l (rowKeyL r)).length) :
    NrmI l (fun z => L z && !(z == rowKeyL r)) (out ++ M.map fun p => (⟨r.vals, p.1, p.2, r.lin⟩ : Tup)) := by
  obtain ⟨h1, h2⟩ := lev_rows hM r
  have hk : ∀ y ∈ M.map (fun p => (⟨r.vals, p.1, p.2, r.lin⟩ : Tup)), keyT y = rowKeyL r := by
    intro y hy
    obtain ⟨p, _, rfl⟩ := List.mem_map.1 hy
    rfl
  refine ⟨⟨fun x hx => ?_, ?_⟩, fun x hx => ?_, fun t => ?_, ?_⟩
  · rcases List.mem_append.1 hx with hx | hx
    · exact h.lev.valid x hx
    · exact h1.valid x hx
  · rw [List.pairwise_append]
    refine ⟨h.lev.lam, h1.lam, fun x hx y hy e => ?_⟩
    have h3 := h.key x hx
    have h4 : keyT x = keyT y := congrArg rowKeyL e
    rw [h4, hk y hy, hL] at h3
    cases h3
  · rcases List.mem_append.1 hx with hx | hx
    · rw [h.key x hx]; rfl
    · rw [hk x hx]; simp
  · rw [atDay_append, h2 t, ← perOf_cnt l r t]
    refine ((h.day t).append_right _).trans ?_
    rw [← atDay_append]
    refine atDay_perm (filter_parts (fun x => ?_) fun x hx => ?_) t
    · cases L (keyT x) <;> cases (keyT x == rowKeyL r) <;> rfl
    · rw [beq_eq_false_iff_ne]
      intro e
      rw [e, hL] at hx
      cases hx
  · have hp := (filter_parts (l := l) (p := fun x => pvalid x.lo x.hi && !L (keyT x)) (q := fun x => pvalid x.lo x.hi && (keyT x == rowKeyL r)) (r := fun x => pvalid x.lo x.hi && !(L (keyT x) && !(keyT x == rowKeyL r))) (fun x => by
      cases pvalid x.lo x.hi <;> cases L (keyT x) <;> cases (keyT x == rowKeyL r) <;> rfl) fun x hx => by
        cases hk : (keyT x == rowKeyL r)
        · simp
        · rw [beq_iff_eq] at hk
          rw [hk, hL] at hx
          simp at hx).length_eq
    rw [List.length_append] at hp
    rw [List.length_append, List.length_map]
    have e : (perOf l (rowKeyL r)).length = (l.filter fun x => pvalid x.lo x.hi && (keyT x == rowKeyL r)).length := by unfold perOf; rw [List.length_map]
    have := h.len
    omega
theorem NrmI.done {l out T : List Tup} {L : List UInt8 → Bool} (h : NrmI l L out) (hL : ∀ s, L s = false) (hp : T.Perm out) (hs : T.Pairwise fun a b => ¬ cmpTup b a < 0) : IsNF l T := by
  refine ⟨h.lev.perm hp.symm, hs, fun t => (atDay_perm hp t).trans ((h.day t).trans ?_)⟩
  have : (l.filter fun x => !L (keyT x)) = l := List.filter_eq_self.2 fun x _ => by rw [hL]; rfl
  rw [this]
theorem NrmI.small {l out : List Tup} {L : List UInt8 → Bool} (h : NrmI l L out) : out.length ≤ l.length := Nat.le_trans h.len (List.length_filter_le _ _)
end Go.Proofs.YtngigmpaabmngaaGreatDoor

namespace Go.Proofs.YtngigmpaabmngaaGreatDoor
open Go.Shelf
def sh_sortEvs_ren : Go.Shelf.Ren := ⟨fun | 6 => 80 | 15 => 84 | 14 => 115 | 28 => 124 | 29 => 125 | 20 => 146 | 21 => 147 | 22 => 148 | 23 => 149 | 24 => 150 | 25 => 151 | 26 => 152 | 27 => 153 | 46 => 181 | 47 => 155 | 48 => 156 | 49 => 182 | 50 => 183 | 57 => 194 | n => n, fun | 22 => 108 | 24 => 110 | 25 => 112 | 3 => 3 | 39 => 92 | 0 => 0 | 53 => 157 | 55 => 159 | 4 => 4 | 46 => 151 | 45 => 150 | 50 => 60 | 5 => 5 | 9 => 9 | 66 => 180 | 70 => 184 | 76 => 207 | 77 => 208 | n => n, fun | n => n⟩
theorem sh_sortEvs : Go.Proofs.SlLaysF0.n6 Tryz.prog sh_sortEvs_ren := {
  mixed := by kernel_rfl
  f6 := ⟨Tryz.f80.name, by decide, Tryz.func80.trans (congrArg some (by kernel_rfl))⟩
  f14 := ⟨Tryz.f115.name, by decide, Tryz.func115.trans (congrArg some (by kernel_rfl))⟩
  f15 := Tryz.func84.trans (congrArg some (by kernel_rfl))
  f20 := ⟨Tryz.f146.name, by decide, Tryz.func146.trans (congrArg some (by kernel_rfl))⟩
  f21 := ⟨Tryz.f147.name, by decide, Tryz.func147.trans (congrArg some (by kernel_rfl))⟩
  f22 := ⟨Tryz.f148.name, by decide, Tryz.func148.trans (congrArg some (by kernel_rfl))⟩
  f23 := ⟨Tryz.f149.name, by decide, Tryz.func149.trans (congrArg some (by kernel_rfl))⟩
  f24 := ⟨Tryz.f150.name, by decide, Tryz.func150.trans (congrArg some (by kernel_rfl))⟩
  f25 := ⟨Tryz.f151.name, by decide, Tryz.func151.trans (congrArg some (by kernel_rfl))⟩
  f26 := ⟨Tryz.f152.name, by decide, Tryz.func152.trans (congrArg some (by kernel_rfl))⟩
  f27 := ⟨Tryz.f153.name, by decide, Tryz.func153.trans (congrArg some (by kernel_rfl))⟩
  f28 := Tryz.func124.trans (congrArg some (by kernel_rfl))
  f29 := Tryz.func125.trans (congrArg some (by kernel_rfl))
  f46 := ⟨Tryz.f181.name, by decide, Tryz.func181.trans (congrArg some (by kernel_rfl))⟩
  f47 := Tryz.func155.trans (congrArg some (by kernel_rfl))
  f48 := Tryz.func156.trans (congrArg some (by kernel_rfl))
  f49 := ⟨Tryz.f182.name, by decide, Tryz.func182.trans (congrArg some (by kernel_rfl))⟩
  f50 := ⟨Tryz.f183.name, by decide, Tryz.func183.trans (congrArg some (by kernel_rfl))⟩
  f57 := ⟨Tryz.f194.name, by decide, Tryz.func194.trans (congrArg some (by kernel_rfl))⟩
  t0 := Tryz.underlying0
  a0 := Tryz.isAgg0
  z0 := Tryz.sizeOf0
  v0 := Tryz.zeroValue0
  t3 := Tryz.underlying3
  a3 := Tryz.isAgg3
  z3 := Tryz.sizeOf3
  v3 := Tryz.zeroValue3
  t4 := Tryz.underlying4
  a4 := Tryz.isAgg4
  z4 := Tryz.sizeOf4
  v4 := Tryz.zeroValue4
  t5 := Tryz.underlying5
  a5 := Tryz.isAgg5
  z5 := Tryz.sizeOf5
  v5 := Tryz.zeroValue5
  t9 := Tryz.underlying9
  a9 := Tryz.isAgg9
  z9 := Tryz.sizeOf9
  v9 := Tryz.zeroValue9
  t22 := Tryz.underlying108
  a22 := Tryz.isAgg108
  z22 := Tryz.sizeOf108
  v22 := Tryz.zeroValue108
  t25 := Tryz.underlying112
  a25 := Tryz.isAgg112
  z25 := Tryz.sizeOf112
  v25 := Tryz.zeroValue112
  t39 := Tryz.underlying92
  a39 := Tryz.isAgg92
  z39 := Tryz.sizeOf92
  v39 := Tryz.zeroValue92
  t45 := Tryz.underlying150
  a45 := Tryz.isAgg150
  z45 := Tryz.sizeOf150
  v45 := Tryz.zeroValue150
  t46 := Tryz.underlying151
  a46 := Tryz.isAgg151
  z46 := Tryz.sizeOf151
  v46 := Tryz.zeroValue151
  t50 := Tryz.underlying60
  a50 := Tryz.isAgg60
  z50 := Tryz.sizeOf60
  v50 := Tryz.zeroValue60
  t53 := Tryz.underlying157
  a53 := Tryz.isAgg157
  z53 := Tryz.sizeOf157
  v53 := Tryz.zeroValue157
  t55 := Tryz.underlying159
  a55 := Tryz.isAgg159
  z55 := Tryz.sizeOf159
  v55 := Tryz.zeroValue159
  t66 := Tryz.underlying180
  a66 := Tryz.isAgg180
  z66 := Tryz.sizeOf180
  v66 := Tryz.zeroValue180
  t70 := Tryz.underlying184
  a70 := Tryz.isAgg184
  z70 := Tryz.sizeOf184
  v70 := Tryz.zeroValue184
  t76 := Tryz.underlying207
  a76 := Tryz.isAgg207
  z76 := Tryz.sizeOf207
  v76 := Tryz.zeroValue207
  t77 := Tryz.underlying208
  a77 := Tryz.isAgg208
  z77 := Tryz.sizeOf208
  v77 := Tryz.zeroValue208 }
end Go.Proofs.YtngigmpaabmngaaGreatDoor

namespace Go.Proofs.YtngigmpaabmngaaGreatDoor
open Go.RowKit Go.Lib Go.Shelf Go.Sort

section
variable {P : Program} {α : Type}
theorem Own.shrink {E : El P α} {w : World} {B g n c k : Nat} {l : List α} (h : Own E w B (.slice (some ⟨g, 0, none⟩) n c) l) (hn : l.length = n) (hk : k ≤ n) : Own E w B (.slice (some ⟨g, 0, none⟩) k c) (l.take k) := by
  obtain ⟨xs, ⟨h0, h1⟩, h2⟩ := h
  subst hn
  rcases h1 with ⟨h1, _⟩ | ⟨g', cap, cur, e, hg, hh, hc, hm, hs, ht⟩
  · cases h1
  cases e
  have hlk : (l.take k).length = k := by rw [List.length_take]; omega
  have hle : k * E.size ≤ l.length * E.size := Nat.mul_le_mul_right _ hk
  refine ⟨xs.take (k * E.size), ⟨by rw [List.length_take, h0, hlk]; omega, .inr ⟨g, c, cur, by rw [hlk], hg, hh, by rw [hlk]; omega, hm, hs, by rw [hlk, ← ht, List.take_take, Nat.min_eq_left hle]⟩⟩, fun i x hx => ?_⟩
  rw [List.getElem?_take] at hx
  split at hx
  · rename_i hik
    have hle2 : (i + 1) * E.size ≤ k * E.size := Nat.mul_le_mul_right _ hik
    rw [Nat.add_mul, Nat.one_mul] at hle2
    have := h2 i x hx
    rw [List.drop_take, List.take_take, Nat.min_eq_left (by omega)]
    exact this
  · cases hx
end
theorem per_info : (Tryz.prog.info? 50).map (fun i => (i.zero, i.size, i.bytes)) = some (some (.agg #[.int .i64 0, .int .i64 0]), 2, 16) := by kernel_rfl
theorem ev_info : (Tryz.prog.info? 110).map (fun i => (i.zero, i.size, i.bytes)) = some (some (.agg #[.int .i64 0, .int .i64 0]), 2, 16) := by kernel_rfl
/-- Periods. -/
def perE : El Tryz.prog (Int × Int) := El.flat 50 2 16 (by decide) (info_mk per_info rfl) (fun x => [.int .i64 x.1, .int .i64 x.2]) (fun _ => rfl) (by intro x u hu; simp at hu; rcases hu with rfl | rfl <;> rfl)
/-- Events. -/
def evE : El Tryz.prog (Int × Int) := El.flat 110 2 16 (by decide) (info_mk ev_info rfl) (fun x => [.int .i64 x.1, .int .i64 x.2]) (fun _ => rfl) (by intro x u hu; simp at hu; rcases hu with rfl | rfl <;> rfl)
theorem pers_at {w : World} {G : Nat → Prop} {a : Option Addr} {n c k : Nat} {l : List (Int × Int)} {x : Int × Int} (h : Sl perE w G (.slice a n c) l) (hk : l[k]? = some x) :
    ∃ b o, a = some ⟨b, o, none⟩ ∧ w.cell? ⟨b, o + k * 2, none⟩ = some (.int .i64 x.1) ∧ w.cell? ⟨b, o + k * 2 + 1, none⟩ = some (.int .i64 x.2) := by
  obtain ⟨b, o, cs, ha, rfl, hc⟩ := Sl.at h hk
  exact ⟨b, o, ha, hc 0 _ rfl, hc 1 _ rfl⟩
theorem evs_at {w : World} {B g n c k : Nat} {l : List (Int × Int)} {x : Int × Int} (h : Own evE w B (.slice (some ⟨g, 0, none⟩) n c) l) (hk : l[k]? = some x) :
    w.cell? ⟨g, k * 2, none⟩ = some (.int .i64 x.1) ∧ w.cell? ⟨g, k * 2 + 1, none⟩ = some (.int .i64 x.2) := by
  obtain ⟨cs, rfl, hc⟩ := Own.at h hk
  exact ⟨hc 0 _ rfl, hc 1 _ rfl⟩
theorem box_two' {w : World} {g : Nat} {x y : Value} {e : TypeId} (h : w.heap[g]? = some (.cells #[x, y] e (0, 0))) : w.cell? ⟨g, 0, none⟩ = some x ∧ w.cell? ⟨g, 1, none⟩ = some y := by
  constructor <;> simp [World.cell?, h]
set_option maxHeartbeats 1000000 in
theorem evCmp_g (a b : Int × Int) (w : World) : Calls Tryz.prog 81 #[.agg #[.int .i64 a.1, .int .i64 a.2], .agg #[.int .i64 b.1, .int .i64 b.2]] w fun e w' => e = .returned (.int .i64 (cmpI a.1 b.1)) ∧ Grew w w' := by
  obtain ⟨a1, a2⟩ := a
  obtain ⟨b1, b2⟩ := b
  dsimp only
  have HC := fun W => Lib.hid (cmpInt_any a1 b1 W)
  generalize cmpI a1 b1 = r at HC ⊢
  have hB0 := grew_alloc2 w (.cells #[.int .i64 a1, .int .i64 a2] 110) (.cells #[.int .i64 b1, .int .i64 b2] 110)
  obtain ⟨d0, d1⟩ := box_two' (heap_alloc_old' w (.cells #[.int .i64 a1, .int .i64 a2] 110) (.cells #[.int .i64 b1, .int .i64 b2] 110))
  obtain ⟨e0, e1⟩ := box_two' (heap_alloc_new' w (.cells #[.int .i64 a1, .int .i64 a2] 110) (.cells #[.int .i64 b1, .int .i64 b2] 110))
  have HB := Lib.hid hB0
  clear hB0
  go_enter Tryz.func81, Tryz.ntmps81
  go_wp2_with fail
  refine (HC _).out.mono ?_
  rintro _ w2 ⟨rfl, rfl⟩
  go_wp2_with fail
  go_ret
  exact ⟨rfl, HB.out⟩
theorem swo_ev {β : Type} (f : β → Int × Int) : SWO (ltOf fun x y : β => cmpI (f x).1 (f y).1) where
  irrefl x := by
    show decide (cmpI (f x).1 (f x).1 < 0) = false
    rw [cmpI_zero.2 rfl]
    rfl
  trans x y z h1 h2 := by
    have h := sgn_int (f x).1 (f y).1 (f z).1
    have h1' : decide (cmpI (f x).1 (f y).1 < 0) = true := h1
    have h2' : decide (cmpI (f y).1 (f z).1 < 0) = true := h2
    show decide (cmpI (f x).1 (f z).1 < 0) = true
    unfold Sgn3 at h
    rw [decide_eq_true_eq] at h1' h2' ⊢
    omega
  ntrans x y z h1 h2 := by
    have h := sgn_int (f z).1 (f y).1 (f x).1
    rw [cmpI_swap (f y).1 (f z).1, cmpI_swap (f x).1 (f y).1, cmpI_swap (f x).1 (f z).1] at h
    have h1' : decide (cmpI (f x).1 (f y).1 < 0) = false := h1
    have h2' : decide (cmpI (f y).1 (f z).1 < 0) = false := h2
    show decide (cmpI (f x).1 (f z).1 < 0) = false
    unfold Sgn3 at h
    rw [decide_eq_false_iff_not] at h1' h2' ⊢
    omega
theorem cmpI_lt {a b : Int} : cmpI a b < 0 ↔ a < b := by unfold cmpI; split <;> (try split) <;> omega
theorem sortEvs_any (v : Value) (l : List (Int × Int)) (B : Nat) (w : World) (hO : Own evE w B v l) (hl : l.length ≤ 1000000) :
    Calls Tryz.prog 80 #[v, .func (.func 81) #[] #[]] w fun e w' => e = .returned (.tuple #[]) ∧ ∃ l' : List (Int × Int), l'.Perm l ∧ l'.Pairwise (fun x y => x.1 ≤ y.1) ∧ Own evE w' B v l' ∧ Kept (fun k => some k = v.ownBlock) w w' ∧ RowKit.Below B w w' := by
  rcases Nat.eq_zero_or_pos l.length with h0 | hpos
  · have hl0 : l = [] := List.eq_nil_of_length_eq_zero h0
    subst hl0
    obtain ⟨a, c, rfl⟩ := hO.shape
    refine (AnyF.slices_SortFunc_none sh_sortEvs a c _ w).mono ?_
    rintro _ w' ⟨rfl, rfl⟩
    exact ⟨rfl, [], .refl _, .nil, hO, ⟨Nat.le_refl _, fun _ _ _ => rfl⟩, .refl _ _⟩
  · obtain ⟨g, c, rfl⟩ := Own.shape_lt hO hpos
    have hgl := (hO.lt g rfl).2
    refine (own_sorted (fun x y => cmpI x.1 y.1) hO rfl hpos fun d hd hH hK => ?_).mono ?_
    · have eg : ∀ args w, (callFunc 81 args).run Tryz.prog w = .ok (.enter 81 args) w := enters_of Tryz.func81 (by kernel_rfl) rfl
      have hcmp : CmpLays Tryz.prog 81 #[] (Cel.cells (E := evE) (w := w) (g := g)) 2 (fun x y => cmpI x.val.1 y.val.1) g 0 d.size w := fun m os dk hdk x y => by
        have e1 : x.cells = [.int .i64 x.val.1, .int .i64 x.val.2] := x.is
        have e2 : y.cells = [.int .i64 y.val.1, .int .i64 y.val.2] := y.is
        rw [e1, e2]
        exact evCmp_g x.val y.val _
      have := AnyQ.slices_SortFunc sh_sortEvs 2 (fun w => Tryz.isAgg110 w) (fun w => Tryz.sizeOf110 w) (Cel.cells (E := evE) (w := w) (g := g)) Cel.len Cel.one (fun x y => cmpI x.val.1 y.val.1) (swo_ev Cel.val) 81 #[] g 0 c d w eg hcmp hH hgl (by omega)
      have e : Value.slice (some ⟨g, 0, none⟩) d.size c = .slice (some ⟨g, 0, none⟩) l.length c := by rw [hd]
      rw [e] at this
      exact this
    · rintro _ w' ⟨rfl, l', hp, hs, hO', hk, hb⟩
      refine ⟨rfl, l', hp, hs.imp (by intro x y h; rw [cmpI_lt] at h; omega), hO', ?_, hb⟩
      refine ⟨hk.1, fun k hk1 hk2 => hk.2 k hk1 (fun e => hk2 ?_)⟩
      cases e; rfl
end Go.Proofs.YtngigmpaabmngaaGreatDoor

namespace Go.Proofs.YtngigmpaabmngaaGreatDoor
open Go.RowKit Go.Lib

section
variable {P : Program} {α β : Type}
/-- Elements that lead nowhere. -/
def El.Flat (E : El P α) : Prop := ∀ {w w' : World} {G G' : Nat → Prop} {x : α} {cs : List Value}, E.is w G x cs → E.is w' G' x cs
/-- Two rows lie in two blocks. -/
def Apart (v u : Value) : Prop := ∀ k, v.ownBlock = some k → u.ownBlock ≠ some k
theorem Apart.symm {v u : Value} (h : Apart v u) : Apart u v := fun k hk e => h k e hk
theorem Own.kept_flat {E : El P α} (hF : E.Flat) {w w' : World} {G : Nat → Prop} {B : Nat} {v : Value} {l : List α} (h : Own E w B v l) (hk : Kept G w w') (hG : ∀ k, v.ownBlock = some k → ¬ G k) : Own E w' B v l := by
  obtain ⟨xs, ⟨h0, h1⟩, h2⟩ := h
  refine ⟨xs, ⟨h0, ?_⟩, fun i x hx => hF (h2 i x hx)⟩
  rcases h1 with h1 | ⟨g, cap, cur, e, hg, hh, r⟩
  · exact .inl h1
  · exact .inr ⟨g, cap, cur, e, hg, by rw [hk.2 g (Array.getElem?_eq_some_iff.1 hh).1 (hG g (by rw [e]; rfl))]; exact hh, r⟩
theorem Pushed.apart {E : El P α} {B : Nat} {w0 w' : World} {v u : Value} {l : List α} {g cap n : Nat} (h : Pushed E B w0 w' v l g cap) (ha : Apart v u) (hu : ∀ k, u.ownBlock = some k → k < w0.heap.size) : Apart (.slice (some ⟨g, 0, none⟩) n cap) u := by
  intro k hk e
  have hk' : some g = some k := hk
  cases hk'
  rcases h.place with h1 | h1
  · exact ha g h1 e
  · have := hu g e; omega
theorem Pushed.keep {E : El P α} {F : El P β} (hF : F.Flat) {B B' : Nat} {w0 w' : World} {v u : Value} {l : List α} {m : List β} {g cap : Nat} (h : Pushed E B w0 w' v l g cap) (ha : Apart v u) (hO : Own F w0 B' u m) : Own F w' B' u m :=
  hO.kept_flat hF h.kept fun k hk e => ha k e.symm hk
end
theorem perE_flat : perE.Flat (P := Tryz.prog) := fun h => h
theorem evE_flat : evE.Flat (P := Tryz.prog) := fun h => h
theorem intE_flat : intE.Flat (P := Tryz.prog) := fun h => h
def slLen : Value → Nat
  | .slice _ n _ => n
  | _ => 0
theorem apart_none (u : Value) : Apart (.slice none 0 0) u := fun k hk => by cases hk
theorem evsOf_snoc (l : List (Int × Int)) (x : Int × Int) : evsOf (l ++ [x]) = evsOf l ++ [(x.1, 1), (x.2, -1)] := by unfold evsOf; rw [List.flatMap_append]; rfl
set_option maxHeartbeats 8000000 in
set_option maxRecDepth 100000 in
theorem levels_any (v : Value) (ps : List (Int × Int)) (w : World) (hv : Sl perE w free v ps) (hl : ps.length ≤ 100000) (hval : ∀ p ∈ ps, pvalid p.1 p.2 = true) :
    Calls Tryz.prog 41 #[v] w fun e w' => ∃ M, LevOf ps M ∧ M.length ≤ ps.length ∧ RetOwn perE w M e w' := by
  obtain ⟨a, c, rfl⟩ := hv.shape
  have HV := Lib.hid hv
  have HVAL := Lib.hid hval
  obtain ⟨n, hn⟩ : ∃ n, n = ps.length := ⟨_, rfl⟩
  have HN := Lib.hid hn
  rw [← hn] at hl HV ⊢
  clear hv hval hn
  go_enter Tryz.func41, Tryz.ntmps41
  go_wp2_with fail
  go_loopw [13, 3] (fun i o wr => ∃ k : Nat, k ≤ n ∧ i = .int .i64 k ∧ Own evE wr w.heap.size o (evsOf (ps.take k)) ∧ Hid (Below w.heap.size w wr)) (fun i _ _ => n - (RowKit.intOf i).toNat)
  case atStart => exact ⟨0, Nat.zero_le _, rfl, Own.nil _ _ _, Lib.hid (.refl _ _)⟩
  case round =>
    obtain ⟨k, hk, rfl, hO, HB⟩ := hrel
    obtain ⟨wo, rfl⟩ : ∃ wo : World, wo = wr := ⟨_, rfl⟩
    by_cases hlt : k < n
    · obtain ⟨x, hx⟩ := lget_some ps k (by rw [← HN.out]; exact hlt)
      obtain ⟨b, o, rfl, p0, p1⟩ := pers_at (HV.out.below HB.out) hx
      have HT : Hid (evsOf (ps.take (k + 1)) = evsOf (ps.take k) ++ [(x.1, 1), (x.2, -1)]) := by show _ = _; rw [take_get hx, evsOf_snoc]
      have hlk : (evsOf (ps.take k)).length = 2 * k := by rw [evs_length, List.length_take, ← HN.out, Nat.min_eq_left hk]
      obtain ⟨lk, hlke⟩ : ∃ lk, lk = evsOf (ps.take k) := ⟨_, rfl⟩
      rw [← hlke] at hO HT hlk
      obtain ⟨ao, co, rfl⟩ := hO.shape
      obtain ⟨x1, x2⟩ := x
      dsimp only at p0 p1 HT
      have HLK := Lib.hid hlk
      have HB1 : Hid (Below w.heap.size w (wo.alloc (.cells #[.int .i64 x1, .int .i64 x2] 50))) := Lib.hid (below_alloc_keep HB.out)
      have HO1 := Lib.hid (hO.below (below_alloc wo (.cells #[.int .i64 x1, .int .i64 x2] 50)))
      have HIS : Hid (Els evE (wo.alloc (.cells #[.int .i64 x1, .int .i64 x2] 50)) (fun j => some j = (Value.slice ao lk.length co).ownBlock) [(x1, 1), (x2, -1)] [.int .i64 x1, .int .i64 1, .int .i64 x2, .int .i64 (-1)]) := Lib.hid (Els.cons (cs := [.int .i64 x1, .int .i64 1]) rfl (Els.one (cs := [.int .i64 x2, .int .i64 (-1)]) rfl))
      clear hx hO hlk hlke
      go_wp2_with (at_builtin; go_loud (refine wpList_push rfl (.tmp 17) (.tmp 24) 108 rfl evE Tryz.underlying108 w.heap.size (.slice ao lk.length co) lk rfl HO1.out [(x1, 1), (x2, -1)] #[.int .i64 x1, .int .i64 1, .int .i64 x2, .int .i64 (-1)] HIS.out 2 2 rfl (congrArg (fun k => Value.slice (some ⟨k, 0, none⟩) 2 2) (World.size_alloc _ _).symm) (by decide) (by have := HLK.out; unfold maxLen; omega) (by have := HLK.out; show _ * 16 ≤ _; omega) HB1.out.size ?_); intro g cap w5 hP hPa)
      go_roundw
      case rel => exact ⟨k + 1, by omega, by go_num, by rw [HT.out]; exact hP.own' (by simp), Lib.hid (HB1.out.trans hP.below)⟩
      case measure => simp [RowKit.intOf]; omega
    · have hkk : ps.take k = ps := List.take_of_length_le (by rw [← HN.out]; omega)
      rw [hkk] at hO
      have hlen : (evsOf ps).length = 2 * n := by rw [evs_length, ← HN.out]
      have HSR := Lib.hid (sortEvs_any _ _ w.heap.size wo hO (by omega))
      obtain ⟨ae, ce, rfl⟩ := hO.shape
      rw [hlen] at HSR ⊢
      have HLEN := Lib.hid hlen
      clear hO hkk hlen
      go_wp2_with fail
      refine HSR.out.mono ?_
      rintro _ w2 ⟨rfl, es, hp, hs, hE, _, hb2⟩
      have HEV : Hid (EvOf ps es) := Lib.hid ⟨HVAL.out, hp, hs⟩
      have hel : es.length = 2 * n := by rw [hp.length_eq]; exact HLEN.out
      have HEL := Lib.hid hel
      have HB2 := Lib.hid (HB.out.trans hb2)
      have HE := Lib.hid hE
      clear hp hs hE hb2 hel HSR
      go_wp2_with fail
      go_loopw [8, 6, 7] (fun s8 s6 s7 wr => ∃ (k : Nat) (X : Int) (ol : List Int) (M : List (Int × Int)), k ≤ 2 * n ∧ s8 = .int .i64 k ∧ Hid (LvS ps es k X ol M) ∧ Own intE wr w.heap.size s6 ol ∧ Own perE wr w.heap.size s7 M ∧ Own evE wr w.heap.size (.slice ae (2 * n) ce) es ∧ Apart (.slice ae (2 * n) ce) s6 ∧ Apart (.slice ae (2 * n) ce) s7 ∧ Apart s6 s7 ∧ Hid (Below w.heap.size w wr)) (fun i _ _ _ => 2 * n - (RowKit.intOf i).toNat)
      case atStart => exact ⟨0, -1, [], [], Nat.zero_le _, rfl, Lib.hid (LvS.start HEV.out), Own.nil _ _ _, Own.nil _ _ _, HE.out, (apart_none _).symm, (apart_none _).symm, apart_none _, HB2⟩
      case round =>
        obtain ⟨k, X, ol, M, hk, rfl, HS, hO6, hO7, hOE, hA6, hA7, hA67, HB3⟩ := hrel
        obtain ⟨wo, rfl⟩ : ∃ wo : World, wo = wr := ⟨_, rfl⟩
        by_cases hlt : k < 2 * n
        · obtain ⟨x, hx⟩ := lget_some es k (by rw [HEL.out]; exact hlt)
          obtain ⟨ge, rfl⟩ : ∃ ge, ae = some ⟨ge, 0, none⟩ := by
            obtain ⟨g, c', e⟩ := Own.shape_lt hOE (by rw [HEL.out]; omega)
            injection e with h1
            exact ⟨_, h1⟩
          obtain ⟨p0, p1⟩ := evs_at hOE hx
          obtain ⟨a6, c6, rfl⟩ := hO6.shape
          obtain ⟨a7, c7, rfl⟩ := hO7.shape
          have HX := Lib.hid hx
          have HOE := Lib.hid hOE
          have HO6 := Lib.hid hO6
          have HO7 := Lib.hid hO7
          have HA6 := Lib.hid hA6
          have HA7 := Lib.hid hA7
          have HA67 := Lib.hid hA67
          have HD0 : Hid (Value.int .i64 (ol.length : Int) = .int .i64 (sumE (es.take k))) := Lib.hid (by rw [HS.out.depth])
          obtain ⟨A, D⟩ := x
          dsimp only at p0 p1
          clear hx hOE hO6 hO7 hA6 hA7 hA67
          go_wp2_with fail
          go_loop [8, 10] (fun s8 s10 => ∃ j : Nat, k ≤ j ∧ j ≤ 2 * n ∧ s8 = .int .i64 j ∧ s10 = .int .i64 (sumE (es.take j)) ∧ Hid (LvG ps es k j A)) (fun s8 _ => 2 * n - (RowKit.intOf s8).toNat)
          case atStart => exact ⟨k, Nat.le_refl _, hk, rfl, HD0.out, Lib.hid (LvG.start _ _ _ _)⟩
          case round =>
            obtain ⟨j, hkj, hj, rfl, rfl, HG⟩ := hrel
            by_cases hc : ∃ y, es[j]? = some y ∧ y.1 = A
            · obtain ⟨⟨y1, y2⟩, hy, hyA⟩ := hc
              dsimp only at hyA
              subst hyA
              have hjl : j < 2 * n := by rw [← HEL.out]; exact (List.getElem?_eq_some_iff.1 hy).1
              obtain ⟨q0, q1⟩ := evs_at HOE.out hy
              dsimp only at q0 q1
              have hb := sumE_take HEV.out j
              rw [HEL.out] at hb
              have hy2 := (HEV.out.range _ (List.mem_of_getElem? hy)).2.2
              dsimp only at hy2
              have HSM := Lib.hid (sumE_step hy)
              have HG2 := Lib.hid (HG.out.more hy rfl)
              obtain ⟨s, hs⟩ : ∃ s, s = sumE (es.take j) := ⟨_, rfl⟩
              rw [← hs] at hb HSM ⊢
              have hyy : (y1 == y1) = true := by simp
              have hb1 : -200000 ≤ s := by omega
              have hb2 : s ≤ 200000 := by omega
              have hb3 : -1 ≤ y2 := by omega
              have hb4 : y2 ≤ 1 := by omega
              clear hy hs hb hy2
              go_wp2_with fail
              go_round
              case rel => exact ⟨j + 1, by omega, by omega, by go_num, by rw [HSM.out], HG2⟩
              case measure => simp [RowKit.intOf]; omega
            · have HNE : Hid (∀ y, es[j]? = some y → y.1 ≠ A) := Lib.hid (fun y hy e => hc ⟨y, hy, e⟩)
              clear hc
              obtain ⟨h1, h2, h3, h4, h5, h6, h7, h8, h9, h10, h11⟩ := HS.out.group HEV.out HG.out HX.out rfl (by rw [HEL.out]; exact hj) HNE.out
              obtain ⟨d, hd⟩ : ∃ d, d = cntP ps A := ⟨_, rfl⟩
              rw [← hd] at h4 h7 h8
              rw [h4]
              have HI := Lib.hid h1
              have HLO := Lib.hid h2
              have HHI := Lib.hid h3
              have HSUM := Lib.hid h4
              have HOLD := Lib.hid h5
              have HNEW := Lib.hid h6
              clear h1 h2 h3 h4 h5 h6 hd
              rcases Nat.lt_or_ge j (2 * n) with hjl | hjl
              all_goals first
                | (have hjl2 : j < es.length := Nat.lt_of_lt_of_eq hjl HEL.out.symm
                   obtain ⟨⟨y1, y2⟩, hy⟩ := lget_some es j hjl2
                   obtain ⟨q0, q1⟩ := evs_at HOE.out hy
                   have hyA := HNE.out _ hy
                   dsimp only at q0 q1 hyA
                   have hyb : (y1 == A) = false := by simpa using hyA
                   clear hy hyA hjl2
                   go_wp2_with fail)
                | go_wp2_with fail
              all_goals (
                go_loopw [6, 7] (fun s6 s7 wr => ∃ (o2 : List Int) (M2 : List (Int × Int)), Own intE wr w.heap.size s6 o2 ∧ Own perE wr w.heap.size s7 M2 ∧ Own evE wr w.heap.size (.slice (some ⟨ge, 0, none⟩) (2 * n) ce) es ∧ Hid (Apart (.slice (some ⟨ge, 0, none⟩) (2 * n) ce) s6) ∧ Hid (Apart (.slice (some ⟨ge, 0, none⟩) (2 * n) ce) s7) ∧ Hid (Apart s6 s7) ∧ Hid (LvI (cntP ps) A o2 M2) ∧ Hid (∀ o ∈ o2, o < A) ∧ Hid (o2.length < d → ∀ p ∈ M2, p.2 < A) ∧ 2 * M2.length + d ≤ j ∧ 2 * M2.length + 2 * o2.length ≤ j + d ∧ Hid (Below w.heap.size w wr)) (fun s6 _ _ => slLen s6)
                case atStart => exact ⟨ol, M, HO6.out, HO7.out, HOE.out, HA6, HA7, HA67, HI, HLO, Lib.hid (fun _ => HHI.out), by omega, by omega, HB3⟩
                case round =>
                  obtain ⟨o2, M2, hO6, hO7, hOE, HA6, HA7, HA67, HI, HLO, HHI, hz1, hz2, HB4⟩ := hrel
                  obtain ⟨wx, rfl⟩ : ∃ wx : World, wx = wr := ⟨_, rfl⟩
                  by_cases hgt : d < o2.length
                  · obtain ⟨q, hq⟩ : ∃ q, o2.length = q + 1 := ⟨o2.length - 1, by omega⟩
                    obtain ⟨o, ho⟩ := lget_some o2 q (by omega)
                    have ho2 : o2 = o2.take q ++ [o] := by rw [← take_get ho, List.take_of_length_le (by omega)]
                    obtain ⟨g6, c6, rfl⟩ := Own.shape_lt hO6 (by omega)
                    obtain ⟨a7, c7, rfl⟩ := hO7.shape
                    obtain ⟨b, of, eb, p6⟩ := ints_at' hO6.sl ho
                    cases eb
                    rw [Nat.zero_add] at p6
                    have HOX : Hid (o < A) := Lib.hid (HLO.out o (List.mem_of_getElem? ho))
                    have HI2 : Hid (LvI (cntP ps) A (o2.take q) (M2 ++ [(o, A)])) := Lib.hid (LvI.pop (by rw [← ho2]; exact HI.out) HOX.out h10)
                    have HLO2 : Hid (∀ o ∈ o2.take q, o < A) := Lib.hid (fun z hz => HLO.out z (List.mem_of_mem_take hz))
                    have htl : (o2.take q).length = q := by rw [List.length_take]; omega
                    have HTL := Lib.hid htl
                    rw [hq] at hO6 HA6 HA67 hgt hz2 ⊢
                    have HQ := Lib.hid hq
                    have HO6 := Lib.hid hO6
                    have HO7 := Lib.hid hO7
                    have HOE := Lib.hid hOE
                    have hcap : q + 1 ≤ c6 := Sl.cap (HO6.out).sl
                    clear ho ho2 htl hO6 hO7 hOE hq HI HLO HHI
                    go_wp2_with (at_builtin; refine wpList_push rfl (.tmp 66) (.tmp 75) 68 rfl perE Tryz.underlying68 w.heap.size (.slice a7 M2.length c7) M2 rfl HO7.out [(o, A)] #[.int .i64 o, .int .i64 A] (Els.one rfl) 1 1 rfl rfl (by decide) (by unfold maxLen; omega) (by show _ * 16 ≤ _; omega) HB4.out.size ?_; intro g cap w5 hP hPa)
                    go_roundw
                    case rel => exact ⟨o2.take q, M2 ++ [(o, A)], (hP.keep intE_flat HA67.out.symm HO6.out).shrink HQ.out (Nat.le_succ _), hP.own' (by simp), hP.keep evE_flat HA7.out.symm HOE.out, Lib.hid (fun z hz e => HA6.out z hz e), Lib.hid ((hP.apart HA7.out.symm (fun z hz => (HOE.out.lt z hz).2)).symm), Lib.hid ((hP.apart HA67.out.symm (fun z hz => (HO6.out.lt z hz).2)).symm), HI2, HLO2, Lib.hid (fun h => absurd h (by rw [HTL.out]; omega)), by simp; omega, by rw [HTL.out]; simp; omega, Lib.hid (HB4.out.trans hP.below)⟩
                    case measure => simp [slLen]
                  · obtain ⟨a7, c7, rfl⟩ := hO7.shape
                    obtain ⟨a6, c6, rfl⟩ := hO6.shape
                    have HO6 := Lib.hid hO6
                    have HO7 := Lib.hid hO7
                    have HOE := Lib.hid hOE
                    clear hO6 hO7 hOE HLO
                    go_wp2_with fail
                    go_loopw [6] (fun s6 wr => ∃ o3 : List Int, Own intE wr w.heap.size s6 o3 ∧ Own perE wr w.heap.size (.slice a7 M2.length c7) M2 ∧ Own evE wr w.heap.size (.slice (some ⟨ge, 0, none⟩) (2 * n) ce) es ∧ Hid (Apart (.slice (some ⟨ge, 0, none⟩) (2 * n) ce) s6) ∧ Hid (Apart s6 (.slice a7 M2.length c7)) ∧ Hid (LvI (cntP ps) A o3 M2) ∧ Hid (o3.length < d → ∀ p ∈ M2, p.2 < A) ∧ o3.length ≤ d ∧ Hid (Below w.heap.size w wr)) (fun s6 _ => d - slLen s6)
                    case atStart => exact ⟨o2, HO6.out, HO7.out, HOE.out, HA6, HA67, HI, HHI, by omega, HB4⟩
                    case round =>
                      obtain ⟨o3, hO6, hO7, hOE, HA6, HA67, HI, HHI, hz3, HB5⟩ := hrel
                      obtain ⟨wy, rfl⟩ : ∃ wy : World, wy = wr := ⟨_, rfl⟩
                      obtain ⟨a6, c6, rfl⟩ := hO6.shape
                      have HO6 := Lib.hid hO6
                      have HO7 := Lib.hid hO7
                      have HOE := Lib.hid hOE
                      clear hO6 hO7 hOE
                      by_cases hlt3 : o3.length < d
                      · have HHI3 := Lib.hid (HHI.out hlt3)
                        have HI3 := Lib.hid (HI.out.push h9 HHI3.out)
                        go_wp2_with (at_builtin; refine wpList_push rfl (.tmp 86) (.tmp 88) 23 rfl intE Tryz.underlying23 w.heap.size (.slice a6 o3.length c6) o3 rfl HO6.out [A] #[.int .i64 A] (Els.one rfl) 1 1 rfl rfl (by decide) (by unfold maxLen; omega) (by show _ * 8 ≤ _; omega) HB5.out.size ?_; intro g cap w5 hP hPa)
                        go_roundw
                        case rel => exact ⟨o3 ++ [A], hP.own' (by simp), hP.keep perE_flat HA67.out HO7.out, hP.keep evE_flat HA6.out.symm HOE.out, Lib.hid ((hP.apart HA6.out.symm (fun z hz => (HOE.out.lt z hz).2)).symm), Lib.hid (hP.apart HA67.out (fun z hz => (HO7.out.lt z hz).2)), HI3, Lib.hid (fun _ => HHI3.out), by simp; omega, Lib.hid (HB5.out.trans hP.below)⟩
                        case measure => simp [slLen]; omega
                      · have HNX : Hid (LvS ps es j A o3 M2) := Lib.hid (LvS.next HI.out HSUM.out HOLD.out HNEW.out (by omega) (by omega))
                        go_wp2_with fail
                        go_roundw
                        case rel => exact ⟨j, A, o3, M2, hj, rfl, HNX, HO6.out, HO7.out, HOE.out, HA6.out, by assumption, HA67.out, HB5⟩
                        case measure => simp [RowKit.intOf]; omega)
        · have hk2 : k = 2 * n := by omega
          subst hk2
          have HDN : Hid (LevOf ps M ∧ M.length ≤ ps.length) := Lib.hid (HS.out.done HEV.out HEL.out.symm)
          obtain ⟨a7, c7, rfl⟩ := hO7.shape
          have HO7 := Lib.hid hO7
          clear hO6 hO7 hOE hA6 hA7 hA67
          go_wp2_with fail
          go_ret
          exact ⟨M, HDN.out.1, by rw [HN.out]; exact HDN.out.2, _, rfl, HO7.out, HB3.out⟩
end Go.Proofs.YtngigmpaabmngaaGreatDoor

namespace Go.Proofs.YtngigmpaabmngaaGreatDoor
open Go.RowKit Go.Lib Go.Maps

theorem str_law : Keyed Tryz.prog 9 := string_keyed Tryz.underlying9
/-- An element is read as itself. -/
def rawElem (v : Value) : Option (DataW Value × List MemPlace) := some (.held v, [])
theorem skey {s : ByteArray} (h : s.size ≤ maxLen) : Go.keyOf Tryz.prog 9 (.string s) = some (.string s.data.toList) := by simp [Go.keyOf, mapKey, Tryz.underlying9, h]
theorem skey_inv {key : Value} {kl : Lit} (h : Go.keyOf Tryz.prog 9 key = some kl) : ∃ s : ByteArray, key = .string s ∧ kl = .string s.data.toList ∧ s.size ≤ maxLen := by
  cases key <;> simp [Go.keyOf, mapKey, Tryz.underlying9] at h
  exact ⟨_, rfl, h.2.symm, h.1⟩
theorem sAtKey_not_has {D : DataW Value} {k : Lit} (h : has D k = false) (hm : IsMap D) (z : DataW Value) : D.atKey k z = z := by
  obtain ⟨es, rfl⟩ := hm
  simp only [DataW.atKey]
  cases hf : es.find? (fun p => p.1.sameKey k) with
  | none => rfl
  | some p =>
    have h1 := List.find?_some hf
    have h2 := List.mem_of_find?_eq_some hf
    rw [has_eq] at h
    have := List.any_eq_false.1 h p h2
    exact absurd h1 (by simpa using this)
/-- What a map holds. -/
structure HoldsS (D : DataW Value) (f : List UInt8 → Option Value) : Prop where
  has : ∀ s, has D (.string s) = (f s).isSome
  at' : ∀ s v, f s = some v → ∀ zd, D.atKey (.string s) zd = .held v
/-- A map of the call's own from strings: what it holds. -/
def OwnSV (w : World) (b n : Nat) (f : List UInt8 → Option Value) : Prop :=
  ∃ D : DataW Value, w.ownsMap Tryz.prog 9 rawElem b n D ∧ HoldsS D f
theorem OwnSV.kept {w w' : World} {b n : Nat} {f : List UInt8 → Option Value} {G : Nat → Prop} (h : OwnSV w b n f) (hk : Kept G w w') (hb : ¬ G b) : OwnSV w' b n f := by
  obtain ⟨D, ⟨es, clock, h1, h2⟩, h3⟩ := h
  exact ⟨D, ⟨es, clock, (hk.2 b (Array.getElem?_eq_some_iff.1 h1).1 hb).trans h1, h2⟩, h3⟩
theorem OwnSV.below {w w' : World} {b n : Nat} {f : List UInt8 → Option Value} (h : OwnSV w b n f) (hb : Below w.heap.size w w') : OwnSV w' b n f := h.kept (G := fun _ => False) (.of_below hb) (fun h => h)
theorem OwnSV.lt {w : World} {b n : Nat} {f : List UInt8 → Option Value} (h : OwnSV w b n f) : b < w.heap.size := by obtain ⟨D, h1, _⟩ := h; exact h1.lt
theorem OwnSV.made (w : World) : OwnSV (w.alloc (.map #[] 0)) w.heap.size 0 (fun _ => none) := ⟨.map [], World.ownsMap_made w _ _ _, ⟨fun _ => rfl, fun _ _ h => by cases h⟩⟩
/-- The block of a map is no row's. -/
theorem OwnSV.no_row {P : Program} {α : Type} {E : El P α} {w : World} {b n B : Nat} {f : List UInt8 → Option Value} {v : Value} {l : List α} (h : OwnSV w b n f) (hO : Own E w B v l) : v.ownBlock ≠ some b := by
  intro e
  obtain ⟨D, ⟨es, clock, h1, _⟩, _⟩ := h
  obtain ⟨xs, ⟨_, h2⟩, _⟩ := hO
  rcases h2 with ⟨rfl, _⟩ | ⟨g, cap, cur, rfl, _, hh, _⟩
  · cases e
  · have e' : some g = some b := e
    cases e'
    rw [h1] at hh
    cases hh
section
variable {t e : TypeId} (ht : Tryz.prog.underlying t = some (.map 9 e))
include ht
/-- 'm[x]'. -/
theorem OwnSV.look {w : World} {b n : Nat} {f : List UInt8 → Option Value} {z : Value} (h : OwnSV w b n f) (hz : (zeroValue e).run Tryz.prog w = .ok z w) {s : ByteArray} (hs : s.size ≤ maxLen) :
    (Instr.lookup t (.map (some b)) (.string s) false).run Tryz.prog w = .ok ((f s.data.toList).getD z) w := by
  obtain ⟨D, h1, h2⟩ := h
  obtain ⟨v, ps, hrun, hv⟩ := h1.lookup str_law ht hz (zd := .held z) (zp := []) rfl (skey hs)
  rw [hrun]
  cases hf : f s.data.toList with
  | none =>
    rw [sAtKey_not_has (by rw [h2.has, hf]; rfl) h1.isMap] at hv
    cases hv
    rfl
  | some d =>
    rw [h2.at' _ d hf] at hv
    cases hv
    rfl
end
section
variable {t e : TypeId} (ht : Tryz.prog.underlying t = some (.map 9 e)) {ops : Array Oper} {rest : List Oper} {o : Oper} {a : Act} {Q : Exit → Act → World → Prop}
include ht
/-- 'm[x] = v'. -/
theorem OwnSV.put {w : World} {b n : Nat} {f : List UInt8 → Option Value} (h : OwnSV w b n f) (hn : n < maxLen) {s : ByteArray} (hs : s.size ≤ maxLen) (c : Value) :
    ∃ w', (Instr.mapUpdate t (.map (some b)) (.string s) c).run Tryz.prog w = .ok () w' ∧ OwnSV w' b (n + 1) (fun y => if y = s.data.toList then some c else f y) ∧ w.grownBy w' (some b) := by
  obtain ⟨D, h1, h2⟩ := h
  obtain ⟨w', hrun, r1, r2⟩ := h1.update str_law ht hn (skey hs) (val := c) rfl
  refine ⟨w', hrun, ?_, r2⟩
  have hm' := h1.isMap
  have hk : WideAt.IsKeyLit (.string s.data.toList) := str_law.key (skey hs)
  have hne : ∀ y, y ≠ s.data.toList → (Lit.string y) ≠ .string s.data.toList := fun y h e => h (by cases e; rfl)
  refine ⟨_, r1, ⟨fun y => ?_, fun y d hd zd => ?_⟩⟩
  · by_cases e : y = s.data.toList
    · subst e; rw [has_put_same hm' hk, if_pos rfl]; rfl
    · rw [has_put_other (hne y e), if_neg e, h2.has y]
  · by_cases e : y = s.data.toList
    · subst e; rw [if_pos rfl] at hd; cases hd; exact atKey_put_same hm' hk _ _
    · rw [if_neg e] at hd; rw [atKey_put_other (hne y e)]; exact h2.at' y d hd zd
theorem wpList_putSV (w : World) (hg : o.guard = none) (m x v : Operand) (hop : o.op = Op.mapUpdate t m x v) (b n : Nat) (f : List UInt8 → Option Value) (hm : a.eval m = .map (some b)) (hown : OwnSV w b n f) (hn : n < maxLen) (s : ByteArray) (c : Value)
    (hx : a.eval x = .string s) (hv : a.eval v = c) (hs : s.size ≤ maxLen)
    (hK : ∀ w', OwnSV w' b (n + 1) (fun y => if y = s.data.toList then some c else f y) → w.grownBy w' (some b) → wpList Tryz.prog ops Q rest (a.put o.dst undef) w') : wpList Tryz.prog ops Q (o :: rest) a w := by
  refine wpList_plain hg fun K' hK' => ?_
  obtain ⟨w', hrun, r1, r2⟩ := hown.put ht hn hs c
  unfold Oper.wp
  simp [execOp, hop, hm, hx, hv, hrun, Result.andThen]
  exact hK' _ _ (hK w' r1 r2)
end
/-- A range over such a map: what it holds, what is still to come. -/
def RngSV (w : World) (b r n : Nat) (f : List UInt8 → Option Value) (L : List UInt8 → Bool) (cnt : Nat) : Prop :=
  ∃ (D : DataW Value) (left : Lit → Bool), w.ranges Tryz.prog 9 rawElem b r n D left cnt ∧ HoldsS D f ∧ ∀ s, left (.string s) = L s
theorem RngSV.left_eq {w : World} {b r n : Nat} {f : List UInt8 → Option Value} {L : List UInt8 → Bool} {cnt : Nat} (h : RngSV w b r n f L cnt) : w.rangeLeft b r = cnt := by obtain ⟨D, left, h1, _⟩ := h; exact h1.left_eq
theorem RngSV.kept {w w' : World} {b r n : Nat} {f : List UInt8 → Option Value} {L : List UInt8 → Bool} {cnt : Nat} {G : Nat → Prop} (h : RngSV w b r n f L cnt) (hk : Kept G w w') (hb : ¬ G b) (hr : ¬ G r) : RngSV w' b r n f L cnt := by
  obtain ⟨D, left, ⟨es, clock, since, seen, c0, h1, F, hs, hD, h2, rest⟩, h3⟩ := h
  exact ⟨D, left, ⟨es, clock, since, seen, c0, (hk.2 b (Array.getElem?_eq_some_iff.1 h1).1 hb).trans h1, F, hs, hD, (hk.2 r (Array.getElem?_eq_some_iff.1 h2).1 hr).trans h2, rest⟩, h3⟩
theorem RngSV.below {w w' : World} {B b r n : Nat} {f : List UInt8 → Option Value} {L : List UInt8 → Bool} {cnt : Nat} (h : RngSV w b r n f L cnt) (hb : Below B w w') (h1 : b < B) (h2 : r < B) : RngSV w' b r n f L cnt :=
  h.kept (G := fun k => B ≤ k) ⟨hb.size, fun k _ hn => hb.block k (by omega)⟩ (by omega) (by omega)
section
variable {t e : TypeId} (ht : Tryz.prog.underlying t = some (.map 9 e)) {ops : Array Oper} {rest : List Oper} {o : Oper} {a : Act} {Q : Exit → Act → World → Prop}
include ht
/-- 'range m'. -/
theorem wpList_rangeSV (w : World) (hg : o.guard = none) (m : Operand) (hop : o.op = Op.range t m) (b n : Nat) (f : List UInt8 → Option Value) (hm : a.eval m = .map (some b)) (hown : OwnSV w b n f)
    (hK : ∀ w' cnt, RngSV w' b w.heap.size n f (fun s => (f s).isSome) cnt → w.grownBy w' none → w'.heap.size = w.heap.size + 1 → wpList Tryz.prog ops Q rest (a.put o.dst (.pointer (some ⟨w.heap.size, 0, none⟩))) w') :
    wpList Tryz.prog ops Q (o :: rest) a w := by
  obtain ⟨D, h1, h2⟩ := hown
  exact wpList_range_own w hg m t hop 9 e str_law ht rawElem b n D hm h1 fun w' h3 h4 h5 => hK w' _ ⟨D, _, h3, h2, h2.has⟩ h4 h5
end
section
variable {ops : Array Oper} {rest : List Oper} {o : Oper} {a : Act} {Q : Exit → Act → World → Prop}
/-- The step. -/
theorem wpList_nextSV (w : World) (hg : o.guard = none) (it : Operand) (hop : o.op = Op.next it false) (b r n : Nat) (f : List UInt8 → Option Value) (L : List UInt8 → Bool) (cnt : Nat) (hit : a.eval it = .pointer (some ⟨r, 0, none⟩)) (h : RngSV w b r n f L cnt)
    (hDone : (∀ s, L s = false) → wpList Tryz.prog ops Q rest (a.put o.dst (.tuple #[.bool false])) w)
    (hMore : ∀ (s : ByteArray) (v : Value) (w' : World) (cnt' : Nat), s.size ≤ maxLen → f s.data.toList = some v → L s.data.toList = true → RngSV w' b r n f (fun z => L z && !(z == s.data.toList)) cnt' → cnt' < cnt →
      w.grownBy w' (some r) → w'.heap.size = w.heap.size → (Instr.entry (.pointer (some ⟨r, 0, none⟩))).run Tryz.prog w' = .ok (.tuple #[.string s, v]) w' → wpList Tryz.prog ops Q rest (a.put o.dst (.tuple #[.bool true, .string s, v])) w') :
    wpList Tryz.prog ops Q (o :: rest) a w := by
  obtain ⟨D, left, h1, h2, h3⟩ := h
  refine wpList_next_ranges w hg it hop 9 str_law rawElem Value.string (fun v : Value => v) (fun key kl hkey => by obtain ⟨x, rfl, _⟩ := skey_inv hkey; exact ⟨x, rfl⟩) (fun v y _ => ⟨v, rfl⟩)
    b r n D left cnt hit h1 (fun _ hl => hDone fun s => by rw [← h3]; exact hl _) (fun s c kl y w' cnt' hkey hlk hv hat hrg hlt hgr hsz hen => ?_)
  obtain ⟨s', es, rfl, hss⟩ := skey_inv hkey
  cases es
  cases hv
  have hh := has_true_of_atKey hat
  rw [h2.has] at hh
  obtain ⟨v, hv⟩ := Option.isSome_iff_exists.1 hh
  have e1 := (hat .nil).symm.trans (h2.at' _ v hv .nil)
  cases e1
  refine hMore s c w' cnt' hss hv (by rw [← h3]; exact hlk) ⟨D, _, hrg, h2, fun z => ?_⟩ hlt hgr hsz hen
  dsimp only
  rw [h3]
  congr 1
end
end Go.Proofs.YtngigmpaabmngaaGreatDoor

namespace Go.Proofs.YtngigmpaabmngaaGreatDoor
open Go.RowKit

/-- Rows whose keys a machine can hold. -/
structure Keyable (r : GRow) : Prop where
  vals : ∀ x ∈ r.vals, In64 x.kind ∧ In64 x.n ∧ x.s.size ≤ maxLen
  lin : ∀ x ∈ r.lin, In64 x
  nv : r.vals.length ≤ 1000
  nl : r.lin.length ≤ 1000
  key : (keyL r.vals).length ≤ 140737488000000
theorem rowKey_take (r : GRow) (k : Nat) (x : Int) (hx : r.lin[k]? = some x) : linKey (r.lin.take (k + 1)) = linKey (r.lin.take k) ++ (44 :: Lib.itoa x) := by rw [take_get hx, linKey_snoc]
set_option maxHeartbeats 4000000 in
set_option maxRecDepth 100000 in
theorem rowKey_any (v u : Value) (vals : List GVal) (lin : List Int) (lo hi : Int) (w : World) (hv : Sl valE w free v vals) (hu : Sl intE w free u lin) (hK : Keyable ⟨vals, lin⟩) (hT : Pow w) :
    Calls Tryz.prog 40 #[.agg #[v, .int .i64 lo, .int .i64 hi, u]] w fun e w' => e = .returned (.string ⟨(rowKeyL ⟨vals, lin⟩).toArray⟩) ∧ Below w.heap.size w w' := by
  obtain ⟨a1, c1, rfl⟩ := hv.shape
  obtain ⟨e1, d1, rfl⟩ := hu.shape
  obtain ⟨hk1, hk2, hk3, hk4, hk5⟩ := hK
  dsimp only at hk1 hk2 hk3 hk4 hk5
  have HKEY : ∀ W, Below w.heap.size w W → Pow W → Hid (Calls Tryz.prog 78 #[.slice a1 vals.length c1] W fun e w' => e = .returned (.string ⟨(keyL vals).toArray⟩) ∧ Below W.heap.size W w') := fun W hW hP => Lib.hid (key_any _ vals W (hv.below hW) hk1 (by omega) hP)
  have HU := Lib.hid hu
  have HT := Lib.hid hT
  have HLIN := Lib.hid hk2
  obtain ⟨kl, hkl⟩ : ∃ kl, kl = keyL vals := ⟨_, rfl⟩
  have HRK : Hid (rowKeyL ⟨vals, lin⟩ = Lib.itoa vals.length ++ [59] ++ kl ++ linKey lin) := by show _ = _; rw [hkl]; rfl
  rw [← hkl] at hk5 HKEY
  obtain ⟨n, hn⟩ : ∃ n, n = vals.length := ⟨_, rfl⟩
  obtain ⟨m, hm⟩ : ∃ m, m = lin.length := ⟨_, rfl⟩
  have HM := Lib.hid hm
  rw [← hn] at hk3 HKEY HRK ⊢
  rw [← hm] at hk4 HU ⊢
  have hi1 : In64 (n : Int) := by unfold In64; omega
  have hl1 := itoa_le hi1
  obtain ⟨rk, hrk⟩ : ∃ rk, rk = rowKeyL ⟨vals, lin⟩ := ⟨_, rfl⟩
  rw [← hrk] at HRK ⊢
  clear hv hu hk1 hk2 hT hkl hn hm hrk
  have j1 : ¬ 9223372036854775807 < (Lib.itoa (n : Int)).length + 1 := by omega
  have j2 : ¬ 9223372036854775807 < (Lib.itoa (n : Int)).length + 1 + kl.length := by omega
  have hB0 : Below w.heap.size w ((w.alloc (.cells #[.slice a1 n c1, .int .i64 lo, .int .i64 hi, .slice e1 m d1] 52)).alloc (.cells #[.pointer none, .slice none 0 0] 100)) := below_alloc_two w _ _
  have hT0 := HT.out.below hB0
  have hX0 : ((w.alloc (.cells #[.slice a1 n c1, .int .i64 lo, .int .i64 hi, .slice e1 m d1] 52)).alloc (.cells #[.pointer none, .slice none 0 0] 100)).heap[w.heap.size]? = some (.cells #[.slice a1 n c1, .int .i64 lo, .int .i64 hi, .slice e1 m d1] 52) := heap_alloc_old' w _ _
  obtain ⟨⟨c0, _, _, c3⟩, _⟩ := box_four hX0
  have hL0 : Bld (w.heap.size + 1) (w.heap.size + 1) (Lib.byteCells []) ((w.alloc (.cells #[.slice a1 n c1, .int .i64 lo, .int .i64 hi, .slice e1 m d1] 52)).alloc (.cells #[.pointer none, .slice none 0 0] 100)) := by
    have := bld_fresh (w.alloc (.cells #[.slice a1 n c1, .int .i64 lo, .int .i64 hi, .slice e1 m d1] 52))
    rw [World.size_alloc] at this
    exact this
  have HW : ∀ W : World, Hid (Bld (w.heap.size + 1) (w.heap.size + 1) (Lib.byteCells []) W → w.heap.size + 1 ≤ W.heap.size → Calls Tryz.prog 76 #[.pointer (some ⟨w.heap.size + 1, 0, none⟩), .string ((ByteArray.mk (Lib.itoa (n : Int)).toArray) ++ (ByteArray.mk #[59]) ++ (ByteArray.mk kl.toArray))] W fun e w' =>
      e = .returned (.tuple #[.int .i64 (((ByteArray.mk (Lib.itoa (n : Int)).toArray) ++ (ByteArray.mk #[59]) ++ (ByteArray.mk kl.toArray)).size : Int), .nilIface]) ∧ Bld (w.heap.size + 1) (w.heap.size + 1) (Lib.byteCells (Lib.itoa (n : Int) ++ [59] ++ kl)) w' ∧ Below (w.heap.size + 1) W w') := fun W => Lib.hid fun hL hz => by
    have h4 : (ByteArray.mk (Lib.itoa (n : Int)).toArray) ++ (ByteArray.mk #[59]) ++ (ByteArray.mk kl.toArray) = ByteArray.mk (Lib.itoa (n : Int) ++ [59] ++ kl).toArray := by
      rw [show (ByteArray.mk #[59]) = ByteArray.mk [59].toArray from rfl, app_bytes, app_bytes]
    rw [h4]
    have h5 : (ByteArray.mk (Lib.itoa (n : Int) ++ [59] ++ kl).toArray).size = (Lib.itoa (n : Int) ++ [59] ++ kl).length := by simp [ByteArray.size]
    refine (bld_WriteString _ _ _ _ _ hL (by rw [h5]; simp [Lib.byteCells]; omega) hz).mono ?_
    rintro e w' ⟨h6, h7, h8, _⟩
    refine ⟨h6, ?_, h8⟩
    rw [strCells_mk, show Lib.byteCells [] = [] from rfl, List.nil_append] at h7
    exact h7
  go_enter Tryz.func40, Tryz.ntmps40
  go_wp2_with fail
  go_region_held3 (fun W => Below w.heap.size w W ∧ Pow W ∧ W.heap[w.heap.size]? = some (.cells #[.slice a1 n c1, .int .i64 lo, .int .i64 hi, .slice e1 m d1] 52) ∧ W.cell? ⟨w.heap.size, 0, none⟩ = some (.slice a1 n c1) ∧ W.cell? ⟨w.heap.size, 3, none⟩ = some (.slice e1 m d1))
    ((go_split_ands; refine ⟨?_, ?_, ?_, ?_, ?_⟩ <;> first | (with_reducible assumption) | with_reducible exact Below.drew (by assumption) | with_reducible exact pow_drew (by assumption) | with_reducible exact box_drew (by assumption) | with_reducible exact cell_drew (by assumption) | with_reducible exact below_keep (by assumption) (by assumption) | with_reducible exact Pow.keep (by assumption) (by assumption) | with_reducible exact box_kept (by assumption) (by assumption) | with_reducible exact cell_keep (by assumption) (by assumption)))
    (first
      | (go_at_call 77; go_split_ands; refine (itoa_pow _ (by assumption) _ (by assumption)).mono ?_; rintro e w' ⟨rfl, hb⟩; have hL := bld_keep (by first | assumption | exact bld_drew (by assumption)) hb)
      | (go_at_call 78; go_split_ands; refine (HKEY _ (by first | assumption | exact Below.drew (by assumption)) (by first | assumption | exact pow_drew (by assumption))).out.mono ?_; rintro e w' ⟨rfl, hb⟩; have hL := bld_keep (by first | assumption | exact bld_drew (by assumption)) hb)
      | (go_at_call 76; go_split_ands; refine ((HW _).out (by first | assumption | exact bld_drew (by assumption)) (by first | exact Nat.le_of_lt (bld_lt (B := w.heap.size + 1) (b := w.heap.size + 1) (bs := Lib.byteCells []) (by assumption)) | exact Nat.le_of_lt (bld_lt (B := w.heap.size + 1) (b := w.heap.size + 1) (bs := Lib.byteCells []) (bld_drew (by assumption))))).mono ?_; rintro e w4 ⟨rfl, hL4, hb4⟩; have hB4 := below_tr (by assumption) (hb4.mono (Nat.le_succ _)); have hT4 := HT.out.below hB4; have hX4 := (hb4.block w.heap.size (Nat.lt_succ_self _)).trans (by assumption); obtain ⟨⟨f0, _, _, f3⟩, _⟩ := box_four hX4))
  all_goals
    go_split_ands
    have HL4 := Lib.hid hL4
    have HB4 := Lib.hid hB4
    have HT4 := Lib.hid hT4
    have HX4 := Lib.hid hX4
    obtain ⟨pre, hpre⟩ : ∃ pre, pre = Lib.itoa (n : Int) ++ [59] ++ kl := ⟨_, rfl⟩
    have hprl : pre.length ≤ 140737488000030 := by rw [hpre]; simp only [List.length_append, List.length_singleton]; omega
    rw [← hpre] at HL4 HRK
    clear hL4 hB4 hb4 hT4 hX4 HW HKEY j1 j2 hk5 hl1 hi1 hpre hk3 hB0 hT0 hX0 hL0 c0 c3
    go_wp2_with fail
    go_loopw [19] (fun i wr => ∃ k : Nat, k ≤ m ∧ i = .int .i64 k ∧ Hid (Bld (w.heap.size + 1) (w.heap.size + 1) (Lib.byteCells (pre ++ linKey (lin.take k))) wr) ∧ Hid (Below w.heap.size w wr)) (fun i _ => m - (intOf i).toNat)
    case atStart => exact ⟨0, Nat.zero_le _, rfl, Lib.hid (by simpa [linKey] using HL4.out), HB4⟩
    case round =>
      obtain ⟨k, hk, rfl, HBl, HB⟩ := hrel
      obtain ⟨wo, rfl⟩ : ∃ wo : World, wo = wr := ⟨_, rfl⟩
      by_cases hlt : k < m
      · obtain ⟨x, hx⟩ := lget_some lin k (by rw [← HM.out]; exact hlt)
        obtain ⟨b, o, rfl, p0⟩ := ints_at' (HU.out.below HB.out) hx
        have hx64 := HLIN.out x (List.mem_of_getElem? hx)
        have HIT := Lib.hid (itoa_pow x hx64 wo (HT.out.below HB.out))
        have hlen := linKey_length (l := lin.take k) fun y hy => HLIN.out y (List.mem_of_mem_take hy)
        have hlen2 : (lin.take k).length ≤ k := List.length_take_le _ _
        have hixl := itoa_le hx64
        have HNX : Hid (pre ++ linKey (lin.take (k + 1)) = pre ++ linKey (lin.take k) ++ (44 :: Lib.itoa x)) := by show _ = _; rw [take_get hx, linKey_snoc, List.append_assoc]
        obtain ⟨ix, hix⟩ : ∃ ix, ix = Lib.itoa x := ⟨_, rfl⟩
        rw [← hix] at HIT hixl HNX
        obtain ⟨tx, htx⟩ : ∃ tx, tx = pre ++ linKey (lin.take k) := ⟨_, rfl⟩
        have htl : tx.length ≤ 140737488060030 := by rw [htx, List.length_append]; omega
        rw [← htx] at HBl HNX
        have j1 : ¬ 9223372036854775807 < 1 + ix.length := by omega
        clear hx hx64 hlen hlen2 hix htx hprl
        go_wp2_with fail
        refine HIT.out.mono ?_
        rintro _ w5 ⟨rfl, hb5⟩
        have HB5 := Lib.hid (below_keep HB.out hb5)
        have HBl5 := Lib.hid (bld_keep HBl.out hb5)
        have HW : Hid (Calls Tryz.prog 76 #[.pointer (some ⟨w.heap.size + 1, 0, none⟩), .string ((ByteArray.mk #[44]) ++ (ByteArray.mk ix.toArray))] w5 fun e w' =>
            e = .returned (.tuple #[.int .i64 (((ByteArray.mk #[44]) ++ (ByteArray.mk ix.toArray)).size : Int), .nilIface]) ∧ Bld (w.heap.size + 1) (w.heap.size + 1) (Lib.byteCells (pre ++ linKey (lin.take (k + 1)))) w' ∧ Below (w.heap.size + 1) w5 w') := Lib.hid (by
          have h4 : (ByteArray.mk #[44]) ++ (ByteArray.mk ix.toArray) = ByteArray.mk (44 :: ix).toArray := by
            rw [show (ByteArray.mk #[44]) = ByteArray.mk [44].toArray from rfl, app_bytes]; rfl
          rw [h4]
          have h5 : (ByteArray.mk (44 :: ix).toArray).size = ix.length + 1 := by simp [ByteArray.size]
          refine (bld_WriteString _ _ _ _ _ HBl5.out (by rw [h5]; simp [Lib.byteCells]; omega) (Nat.le_of_lt (bld_lt HBl5.out))).mono ?_
          rintro e w' ⟨h6, h7, h8, _⟩
          refine ⟨h6, ?_, h8⟩
          rw [HNX.out, byteCells_append, ← strCells_mk (44 :: ix)]
          exact h7)
        clear hb5 HB HBl HIT
        go_wp2_with fail
        refine HW.out.mono ?_
        rintro _ w6 ⟨rfl, hL6, hb6⟩
        have HL6 := Lib.hid hL6
        have HB6 : Hid (Below w.heap.size w w6) := Lib.hid (below_tr HB5.out (hb6.mono (Nat.le_succ _)))
        clear hL6 hb6 HW HBl5 HB5
        go_wp2_with fail
        go_roundw
        case rel => exact ⟨k + 1, by omega, by go_num, HL6, HB6⟩
        case measure => simp [intOf]; omega
      · have hkm : k = m := by omega
        subst hkm
        have HS : Hid (pre ++ linKey (lin.take k) = rk) := by show _ = _; rw [HRK.out, List.take_of_length_le (by rw [← HM.out]; exact Nat.le_refl _)]
        have hbl := HBl.out
        rw [HS.out] at hbl
        have HBk := Lib.hid hbl
        clear hbl HBl
        go_wp2_with (go_at_call 79; refine (bld_String _ _ _ _ HBk.out (Nat.le_of_lt (bld_lt HBk.out))).mono ?_; rintro e w' ⟨rfl, hw⟩)
        go_ret
        exact ⟨rfl, HB.out.trans (hw.mono (Nat.le_succ _))⟩
end Go.Proofs.YtngigmpaabmngaaGreatDoor

namespace Go.Proofs.YtngigmpaabmngaaGreatDoor
open Go.Shelf
def sh_sortTups_ren : Go.Shelf.Ren := ⟨fun | 6 => 42 | 15 => 84 | 14 => 83 | 28 => 124 | 29 => 125 | 20 => 116 | 21 => 117 | 22 => 118 | 23 => 119 | 24 => 120 | 25 => 121 | 26 => 122 | 27 => 123 | 46 => 154 | 47 => 155 | 48 => 156 | 49 => 157 | 50 => 158 | 57 => 184 | n => n, fun | 22 => 24 | 24 => 52 | 25 => 71 | 3 => 3 | 39 => 92 | 0 => 0 | 53 => 157 | 55 => 159 | 4 => 4 | 46 => 151 | 45 => 150 | 50 => 60 | 5 => 5 | 9 => 9 | 66 => 180 | 70 => 184 | 76 => 207 | 77 => 208 | n => n, fun | n => n⟩
theorem sh_sortTups : Go.Proofs.SlLaysF0.n6 Tryz.prog sh_sortTups_ren := {
  mixed := by kernel_rfl
  f6 := ⟨Tryz.f42.name, by decide, Tryz.func42.trans (congrArg some (by kernel_rfl))⟩
  f14 := ⟨Tryz.f83.name, by decide, Tryz.func83.trans (congrArg some (by kernel_rfl))⟩
  f15 := Tryz.func84.trans (congrArg some (by kernel_rfl))
  f20 := ⟨Tryz.f116.name, by decide, Tryz.func116.trans (congrArg some (by kernel_rfl))⟩
  f21 := ⟨Tryz.f117.name, by decide, Tryz.func117.trans (congrArg some (by kernel_rfl))⟩
  f22 := ⟨Tryz.f118.name, by decide, Tryz.func118.trans (congrArg some (by kernel_rfl))⟩
  f23 := ⟨Tryz.f119.name, by decide, Tryz.func119.trans (congrArg some (by kernel_rfl))⟩
  f24 := ⟨Tryz.f120.name, by decide, Tryz.func120.trans (congrArg some (by kernel_rfl))⟩
  f25 := ⟨Tryz.f121.name, by decide, Tryz.func121.trans (congrArg some (by kernel_rfl))⟩
  f26 := ⟨Tryz.f122.name, by decide, Tryz.func122.trans (congrArg some (by kernel_rfl))⟩
  f27 := ⟨Tryz.f123.name, by decide, Tryz.func123.trans (congrArg some (by kernel_rfl))⟩
  f28 := Tryz.func124.trans (congrArg some (by kernel_rfl))
  f29 := Tryz.func125.trans (congrArg some (by kernel_rfl))
  f46 := ⟨Tryz.f154.name, by decide, Tryz.func154.trans (congrArg some (by kernel_rfl))⟩
  f47 := Tryz.func155.trans (congrArg some (by kernel_rfl))
  f48 := Tryz.func156.trans (congrArg some (by kernel_rfl))
  f49 := ⟨Tryz.f157.name, by decide, Tryz.func157.trans (congrArg some (by kernel_rfl))⟩
  f50 := ⟨Tryz.f158.name, by decide, Tryz.func158.trans (congrArg some (by kernel_rfl))⟩
  f57 := ⟨Tryz.f184.name, by decide, Tryz.func184.trans (congrArg some (by kernel_rfl))⟩
  t0 := Tryz.underlying0
  a0 := Tryz.isAgg0
  z0 := Tryz.sizeOf0
  v0 := Tryz.zeroValue0
  t3 := Tryz.underlying3
  a3 := Tryz.isAgg3
  z3 := Tryz.sizeOf3
  v3 := Tryz.zeroValue3
  t4 := Tryz.underlying4
  a4 := Tryz.isAgg4
  z4 := Tryz.sizeOf4
  v4 := Tryz.zeroValue4
  t5 := Tryz.underlying5
  a5 := Tryz.isAgg5
  z5 := Tryz.sizeOf5
  v5 := Tryz.zeroValue5
  t9 := Tryz.underlying9
  a9 := Tryz.isAgg9
  z9 := Tryz.sizeOf9
  v9 := Tryz.zeroValue9
  t22 := Tryz.underlying24
  a22 := Tryz.isAgg24
  z22 := Tryz.sizeOf24
  v22 := Tryz.zeroValue24
  t25 := Tryz.underlying71
  a25 := Tryz.isAgg71
  z25 := Tryz.sizeOf71
  v25 := Tryz.zeroValue71
  t39 := Tryz.underlying92
  a39 := Tryz.isAgg92
  z39 := Tryz.sizeOf92
  v39 := Tryz.zeroValue92
  t45 := Tryz.underlying150
  a45 := Tryz.isAgg150
  z45 := Tryz.sizeOf150
  v45 := Tryz.zeroValue150
  t46 := Tryz.underlying151
  a46 := Tryz.isAgg151
  z46 := Tryz.sizeOf151
  v46 := Tryz.zeroValue151
  t50 := Tryz.underlying60
  a50 := Tryz.isAgg60
  z50 := Tryz.sizeOf60
  v50 := Tryz.zeroValue60
  t53 := Tryz.underlying157
  a53 := Tryz.isAgg157
  z53 := Tryz.sizeOf157
  v53 := Tryz.zeroValue157
  t55 := Tryz.underlying159
  a55 := Tryz.isAgg159
  z55 := Tryz.sizeOf159
  v55 := Tryz.zeroValue159
  t66 := Tryz.underlying180
  a66 := Tryz.isAgg180
  z66 := Tryz.sizeOf180
  v66 := Tryz.zeroValue180
  t70 := Tryz.underlying184
  a70 := Tryz.isAgg184
  z70 := Tryz.sizeOf184
  v70 := Tryz.zeroValue184
  t76 := Tryz.underlying207
  a76 := Tryz.isAgg207
  z76 := Tryz.sizeOf207
  v76 := Tryz.zeroValue207
  t77 := Tryz.underlying208
  a77 := Tryz.isAgg208
  z77 := Tryz.sizeOf208
  v77 := Tryz.zeroValue208 }
end Go.Proofs.YtngigmpaabmngaaGreatDoor

namespace Go.Proofs.YtngigmpaabmngaaGreatDoor
open Go.RowKit Go.Lib Go.Shelf Go.Sort

theorem row_g (v u : Value) (lo hi : Int) (w : World) (a b : Option Addr) (n c m d : Nat) (hv : v = .slice a n c) (hu : u = .slice b m d) :
    Calls Tryz.prog 36 #[.agg #[v, .int .i64 lo, .int .i64 hi, u]] w fun e w' => e = .returned (.agg #[v, u]) ∧ Grew w w' := by
  subst hv hu
  go_enter Tryz.func36, Tryz.ntmps36
  go_wp2
  refine bodyPost_ret (v := .agg #[.slice a n c, .slice b m d]) ?_ rfl ⟨rfl, grew_alloc2 w _ _⟩
  simp [results, Tryz.results36, go_sem]
set_option maxHeartbeats 8000000 in
set_option maxRecDepth 100000 in
theorem tupCmp_g (a b : Tup) (v u v2 u2 : Value) (w : World) (hv : Sl valE w free v a.vals) (hu : Sl intE w free u a.lin) (hv2 : Sl valE w free v2 b.vals) (hu2 : Sl intE w free u2 b.lin) :
    Calls Tryz.prog 43 #[.agg #[v, .int .i64 a.lo, .int .i64 a.hi, u], .agg #[v2, .int .i64 b.lo, .int .i64 b.hi, u2]] w fun e w' => e = .returned (.int .i64 (cmpTup a b)) ∧ Grew w w' := by
  obtain ⟨r1, hr1⟩ : ∃ r, r = cmpRow a.row b.row := ⟨_, rfl⟩
  obtain ⟨fc, hfc⟩ : ∃ fc, fc = cmpI := ⟨_, rfl⟩
  have CB : ∀ W, Grew w W → Hid (Calls Tryz.prog 86 #[.agg #[v, u], .agg #[v2, u2]] W fun e w' => e = .returned (.int .i64 r1) ∧ Grew W w') := fun W h => hr1 ▸ bagCmp_g a.row b.row v u v2 u2 W (hv.below h.below) (hu.below h.below) (hv2.below h.below) (hu2.below h.below)
  have CC : ∀ x y W, Hid (Calls Tryz.prog 82 #[.int .i64 x, .int .i64 y] W fun e w' => e = .returned (.int .i64 (fc x y)) ∧ W = w') := fun x y W => hfc ▸ cmpInt_any x y W
  have HR : Hid (orL [r1, fc a.lo b.lo, fc a.hi b.hi] = cmpTup a b) := by
    show _ = _
    rw [hr1, hfc]
    unfold cmpTup or2 orL orL orL orL
    split <;> (try split) <;> simp_all
  have COR : ∀ W : World, Hid (Calls Tryz.prog 85 #[.slice (some ⟨W.heap.size, 0, none⟩) 3 3] (W.alloc (.cells #[.int .i64 r1, .int .i64 (fc a.lo b.lo), .int .i64 (fc a.hi b.hi)] 3)).drew fun e w' => e = .returned (.int .i64 (cmpTup a b)) ∧ (W.alloc (.cells #[.int .i64 r1, .int .i64 (fc a.lo b.lo), .int .i64 (fc a.hi b.hi)] 3)).drew = w') := fun W => by
    have := cmpOr_any (.slice (some ⟨W.heap.size, 0, none⟩) 3 3) [r1, fc a.lo b.lo, fc a.hi b.hi] (W.alloc (.cells #[.int .i64 r1, .int .i64 (fc a.lo b.lo), .int .i64 (fc a.hi b.hi)] 3)).drew (Sl.of_block (n := 3) (m := 3) (show (W.alloc (.cells #[.int .i64 r1, .int .i64 (fc a.lo b.lo), .int .i64 (fc a.hi b.hi)] 3)).drew.heap[W.heap.size]? = some (.cells #[.int .i64 r1, .int .i64 (fc a.lo b.lo), .int .i64 (fc a.hi b.hi)] 3) from World.alloc_heap_new W _) (Els.cons (cs := [.int .i64 r1]) rfl (Els.cons (cs := [.int .i64 (fc a.lo b.lo)]) rfl (Els.one (cs := [.int .i64 (fc a.hi b.hi)]) rfl))) id rfl (by simp) (by simp))
    rw [HR.out] at this
    exact Lib.hid this
  have CORn : ∀ W : World, Hid (Calls Tryz.prog 85 #[.slice (some ⟨W.heap.size, 0, none⟩) 3 3] (W.alloc (.cells #[.int .i64 r1, .int .i64 (fc a.lo b.lo), .int .i64 (fc a.hi b.hi)] 3)) fun e w' => e = .returned (.int .i64 (cmpTup a b)) ∧ (W.alloc (.cells #[.int .i64 r1, .int .i64 (fc a.lo b.lo), .int .i64 (fc a.hi b.hi)] 3)) = w') := fun W => by
    have := cmpOr_any (.slice (some ⟨W.heap.size, 0, none⟩) 3 3) [r1, fc a.lo b.lo, fc a.hi b.hi] (W.alloc (.cells #[.int .i64 r1, .int .i64 (fc a.lo b.lo), .int .i64 (fc a.hi b.hi)] 3)) (Sl.of_block (n := 3) (m := 3) (World.alloc_heap_new W _) (Els.cons (cs := [.int .i64 r1]) rfl (Els.cons (cs := [.int .i64 (fc a.lo b.lo)]) rfl (Els.one (cs := [.int .i64 (fc a.hi b.hi)]) rfl))) id rfl (by simp) (by simp))
    rw [HR.out] at this
    exact Lib.hid this
  obtain ⟨a1, c1, rfl⟩ := hv.shape
  obtain ⟨a2, c2, rfl⟩ := hu.shape
  obtain ⟨a3, c3, rfl⟩ := hv2.shape
  obtain ⟨a4, c4, rfl⟩ := hu2.shape
  generalize a.vals.length = n1 at CB ⊢
  generalize a.lin.length = n2 at CB ⊢
  generalize b.vals.length = n3 at CB ⊢
  generalize b.lin.length = n4 at CB ⊢
  obtain ⟨z, hz⟩ : ∃ z, z = cmpTup a b := ⟨_, rfl⟩
  rw [← hz] at COR CORn ⊢
  generalize a.lo = l1 at COR CORn ⊢
  generalize a.hi = h1 at COR CORn ⊢
  generalize b.lo = l2 at COR CORn ⊢
  generalize b.hi = h2 at COR CORn ⊢
  clear hv hu hv2 hu2 hr1 HR hz hfc
  go_enter Tryz.func43, Tryz.ntmps43
  go_wp2_with fail
  have hB0 := grew_alloc2 w (.cells #[.slice a1 n1 c1, .int .i64 l1, .int .i64 h1, .slice a2 n2 c2] 52) (.cells #[.slice a3 n3 c3, .int .i64 l2, .int .i64 h2, .slice a4 n4 c4] 52)
  obtain ⟨⟨d0, d1, d2, d3⟩, _⟩ := box_four (heap_alloc_old' w (.cells #[.slice a1 n1 c1, .int .i64 l1, .int .i64 h1, .slice a2 n2 c2] 52) (.cells #[.slice a3 n3 c3, .int .i64 l2, .int .i64 h2, .slice a4 n4 c4] 52))
  obtain ⟨⟨e0, e1, e2, e3⟩, _⟩ := box_four (heap_alloc_new' w (.cells #[.slice a1 n1 c1, .int .i64 l1, .int .i64 h1, .slice a2 n2 c2] 52) (.cells #[.slice a3 n3 c3, .int .i64 l2, .int .i64 h2, .slice a4 n4 c4] 52))
  go_region_held3 (fun W => Grew w W ∧ W.cell? ⟨w.heap.size, 0, none⟩ = some (.slice a1 n1 c1) ∧ W.cell? ⟨w.heap.size, 1, none⟩ = some (.int .i64 l1) ∧ W.cell? ⟨w.heap.size, 2, none⟩ = some (.int .i64 h1) ∧ W.cell? ⟨w.heap.size, 3, none⟩ = some (.slice a2 n2 c2) ∧ W.cell? ⟨w.heap.size + 1, 0, none⟩ = some (.slice a3 n3 c3) ∧ W.cell? ⟨w.heap.size + 1, 1, none⟩ = some (.int .i64 l2) ∧ W.cell? ⟨w.heap.size + 1, 2, none⟩ = some (.int .i64 h2) ∧ W.cell? ⟨w.heap.size + 1, 3, none⟩ = some (.slice a4 n4 c4))
    ((go_split_ands; refine ⟨?_, ?_, ?_, ?_, ?_, ?_, ?_, ?_, ?_⟩ <;> first | (with_reducible assumption) | with_reducible exact Grew.drew (by assumption) | with_reducible exact cell_drew (by assumption) | with_reducible exact grew_keep (by assumption) (by assumption) | with_reducible exact cell_grew (by assumption) (by assumption) | with_reducible exact grew_alloc_keep (by assumption) | with_reducible exact cell_alloc (by assumption) | with_reducible exact grew_alloc_drew (by assumption) | with_reducible exact cell_alloc_drew (by assumption)))
    (first
      | (go_at_call 36; (with_reducible refine (row_g _ _ _ _ _ _ _ _ _ _ _ rfl rfl).mono ?_); rintro e' wR ⟨rfl, hgR⟩)
      | (go_at_call 86; go_split_ands; refine (CB _ (by first | assumption | exact Grew.drew (by assumption))).out.mono ?_; rintro e' wB ⟨rfl, hgB⟩)
      | (go_at_call 82; (with_reducible refine (CC _ _ _).out.mono ?_); rintro e' wI ⟨rfl, rfl⟩)
      | (go_at_call 85; first | (with_reducible refine (COR _).out.mono ?_) | (with_reducible refine (CORn _).out.mono ?_); rintro e' wO ⟨rfl, rfl⟩))
  all_goals go_split_ands
  all_goals go_wp2_with fail
  all_goals go_ret
  all_goals exact ⟨rfl, by assumption⟩
theorem swo_tup {β : Type} (f : β → Tup) : SWO (ltOf fun x y : β => cmpTup (f x) (f y)) where
  irrefl x := by
    show decide (cmpTup (f x) (f x) < 0) = false
    rw [cmpTup_zero.2 rfl]
    rfl
  trans x y z h1 h2 := by
    have h := sgn_tup (f x) (f y) (f z)
    have h1' : decide (cmpTup (f x) (f y) < 0) = true := h1
    have h2' : decide (cmpTup (f y) (f z) < 0) = true := h2
    show decide (cmpTup (f x) (f z) < 0) = true
    unfold Sgn3 at h
    rw [decide_eq_true_eq] at h1' h2' ⊢
    omega
  ntrans x y z h1 h2 := by
    have h := sgn_tup (f z) (f y) (f x)
    rw [cmpTup_swap (f y) (f z), cmpTup_swap (f x) (f y), cmpTup_swap (f x) (f z)] at h
    have h1' : decide (cmpTup (f x) (f y) < 0) = false := h1
    have h2' : decide (cmpTup (f y) (f z) < 0) = false := h2
    show decide (cmpTup (f x) (f z) < 0) = false
    unfold Sgn3 at h
    rw [decide_eq_false_iff_not] at h1' h2' ⊢
    omega
theorem sortTups_any (v : Value) (l : List Tup) (B : Nat) (w : World) (hO : Own tupE w B v l) (hl : l.length ≤ 1000000) :
    Calls Tryz.prog 42 #[v, .func (.func 43) #[] #[]] w fun e w' => e = .returned (.tuple #[]) ∧ ∃ l' : List Tup, l'.Perm l ∧ l'.Pairwise (fun x y => ¬ cmpTup y x < 0) ∧ Own tupE w' B v l' ∧ RowKit.Below B w w' := by
  rcases Nat.eq_zero_or_pos l.length with h0 | hpos
  · have hl0 : l = [] := List.eq_nil_of_length_eq_zero h0
    subst hl0
    obtain ⟨a, c, rfl⟩ := hO.shape
    refine (AnyF.slices_SortFunc_none sh_sortTups a c _ w).mono ?_
    rintro _ w' ⟨rfl, rfl⟩
    exact ⟨rfl, [], .refl _, .nil, hO, .refl _ _⟩
  · obtain ⟨g, c, rfl⟩ := Own.shape_lt hO hpos
    have hgl := (hO.lt g rfl).2
    refine (own_sorted cmpTup hO rfl hpos fun d hd hH hK => ?_).mono ?_
    · have eg : ∀ args w, (callFunc 43 args).run Tryz.prog w = .ok (.enter 43 args) w := enters_of Tryz.func43 (by kernel_rfl) rfl
      have hcmp : CmpLays Tryz.prog 43 #[] (Cel.cells (E := tupE) (w := w) (g := g)) 4 (fun x y => cmpTup x.val y.val) g 0 d.size w := fun m os dk hdk x y => by
        obtain ⟨v1, u1, e1, p1, q1⟩ := x.is
        obtain ⟨v2, u2, e2, p2, q2⟩ := y.is
        have hk := hK m os dk (hdk.trans hd)
        rw [e1, e2]
        exact tupCmp_g x.val y.val v1 u1 v2 u2 _ (p1.kept hk).free (q1.kept hk).free (p2.kept hk).free (q2.kept hk).free
      have := AnyQ.slices_SortFunc sh_sortTups 4 (fun w => Tryz.isAgg52 w) (fun w => Tryz.sizeOf52 w) (Cel.cells (E := tupE) (w := w) (g := g)) Cel.len Cel.one (fun x y => cmpTup x.val y.val) (swo_tup Cel.val) 43 #[] g 0 c d w eg hcmp hH hgl (by omega)
      have e : Value.slice (some ⟨g, 0, none⟩) d.size c = .slice (some ⟨g, 0, none⟩) l.length c := by rw [hd]
      rw [e] at this
      exact this
    · rintro _ w' ⟨rfl, l', hp, hs, hO', _, hb⟩
      exact ⟨rfl, l', hp, hs, hO', hb⟩
end Go.Proofs.YtngigmpaabmngaaGreatDoor
