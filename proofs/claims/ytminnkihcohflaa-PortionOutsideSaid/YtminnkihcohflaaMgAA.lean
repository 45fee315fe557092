/- A part of the proofs of the laws of chapter 19: Pop. No condition beside sizes. -/
import Derived.Test.YtminnkihcohflaaMgU
import Derived.Test.YtminnkihcohflaaMgY
namespace Go.Proofs.Ytminnkihcohflaa
open Go.RowKit

def tupOf (v : Ver) : Tup := ⟨v.vals, v.lo, v.hi, []⟩
def strip (t : Tup) : Tup := ⟨t.vals, t.lo, t.hi, []⟩
theorem atDay_append (l m : List Tup) (t : Int) : atDay (l ++ m) t = atDay l t ++ atDay m t := by unfold atDay; rw [List.filter_append, List.map_append]
theorem atDay_perm {l m : List Tup} (h : l.Perm m) (t : Int) : (atDay l t).Perm (atDay m t) := (h.filter _).map _
theorem atDay_flatMap {α : Type} (f : α → List Tup) (l : List α) (t : Int) : atDay (l.flatMap f) t = l.flatMap fun x => atDay (f x) t := by
  induction l with
  | nil => rfl
  | cons a l ih => rw [List.flatMap_cons, List.flatMap_cons, atDay_append, ih]
/-- Versions that were recorded at 1 and are current. -/
def Cur (L : List Ver) : Prop := ∀ v ∈ L, v.rlo = 1 ∧ v.rhi = 1099511627776
theorem atT_cur {L : List Ver} (h : Cur L) {n : Int} (h1 : 1 ≤ n) (h2 : n < 1099511627776) : atT L n = L.map tupOf := by
  unfold atT
  rw [List.filter_eq_self.2]
  · rfl
  · intro v hv
    obtain ⟨e1, e2⟩ := h v hv
    rw [e1, e2]
    simp [h1, h2]
theorem atT_keep {L : List Ver} (h : Cur L) (cl : List Int) {n : Int} (h1 : 1 < n) (h2 : n < 1099511627776) : atT (L.flatMap (keepOne cl n)) n = (L.filter fun v => !cl.contains v.id).map tupOf := by
  induction L with
  | nil => rfl
  | cons v L ih =>
    obtain ⟨e1, e2⟩ := h v (List.mem_cons_self ..)
    rw [List.flatMap_cons, atT_append, ih (fun u hu => h u (List.mem_cons_of_mem _ hu))]
    unfold keepOne
    by_cases hc : cl.contains v.id = true
    · have hne : ¬ (1 : Int) = n := by omega
      rw [if_pos hc, if_neg (by simp [e1, hne]), List.filter_cons_of_neg (p := fun v : Ver => !cl.contains v.id) (by simp only [hc]; decide)]
      have : atT [{ v with rhi := n }] n = [] := by
        unfold atT
        rw [List.filter_cons_of_neg (by simp), List.filter_nil]
        rfl
      rw [this, List.nil_append]
    · rw [if_neg hc, List.filter_cons_of_pos (p := fun v : Ver => !cl.contains v.id) (by simpa using hc), List.map_cons]
      have : atT [v] n = [tupOf v] := atT_cur (L := [v]) (fun u hu => by simp at hu; subst hu; exact ⟨e1, e2⟩) (by omega) h2
      rw [this]
      rfl
theorem atT_new (n first : Int) (ad : List Tup) (h2 : n < 1099511627776) : atT (newV n first ad) n = ad.map strip := by
  unfold atT newV
  rw [List.filter_eq_self.2]
  · refine List.ext_getElem? fun i => ?_
    simp only [List.getElem?_map, List.getElem?_mapIdx]
    cases ad[i]? <;> rfl
  · intro v hv
    obtain ⟨i, hi, rfl⟩ := List.mem_mapIdx.1 hv
    simp [h2]
theorem aff_contains {plo phi : Int} {e : List GExp} {pred : Int} {L : List Ver} (hnd : (L.map Ver.id).Nodup) {v : Ver} (hv : v ∈ L) : ((affV plo phi e pred L).map Ver.id).contains v.id = keepV plo phi e pred v := by
  rw [Bool.eq_iff_iff, List.contains_iff_mem]
  constructor
  · intro h
    obtain ⟨u, hu, he⟩ := List.mem_map.1 h
    obtain ⟨h1, h2⟩ := aff_ok _ _ _ _ _ _ hu
    obtain ⟨i, hi⟩ := List.getElem?_of_mem h1
    obtain ⟨j, hj⟩ := List.getElem?_of_mem hv
    have := id_inj hnd hi hj he
    subst this
    rw [hi] at hj
    cases hj
    exact h2
  · intro h
    exact List.mem_map.2 ⟨v, (sortV_perm _).mem_iff.2 (List.mem_filter.2 ⟨hv, h⟩), rfl⟩
/-- The rows of a day behind an edit. -/
theorem rows_after (plo phi : Int) (e : List GExp) (pred : Int) (chg : Option (List GVal → List GVal)) (L : List Ver) (n first day : Int) (hc : Cur L) (hnd : (L.map Ver.id).Nodup) (h1 : 1 < n) (h2 : n < 1099511627776) :
    (atDay (atT (applyL L ((affV plo phi e pred L).map Ver.id) ((affV plo phi e pred L).flatMap (partsV plo phi chg)) n first) n) day).Perm
      (atDay ((L.filter fun v => !keepV plo phi e pred v).map tupOf) day ++ (L.filter (keepV plo phi e pred)).flatMap fun v => atDay ((partsV plo phi chg v).map strip) day) := by
  unfold applyL
  rw [atT_append, atT_keep hc _ h1 h2, atT_new _ _ _ h2, atDay_append, List.map_flatMap, atDay_flatMap]
  rw [List.filter_congr (q := fun v => !keepV plo phi e pred v) (fun v hv => by rw [aff_contains hnd hv])]
  exact List.Perm.append_left _ ((sortV_perm _).flatMap_right _)
theorem ite_iff {c d : Prop} [Decidable c] [Decidable d] {α : Type} {a b : α} (h : c ↔ d) : (if c then a else b) = if d then a else b := by
  by_cases hc : c
  · rw [if_pos hc, if_pos (h.1 hc)]
  · rw [if_neg hc, if_neg (fun hd => hc (h.2 hd))]
theorem fm_congr {α β : Type} {f g : α → List β} {l : List α} (h : ∀ x ∈ l, f x = g x) : l.flatMap f = l.flatMap g := by
  induction l with
  | nil => rfl
  | cons a l ih => rw [List.flatMap_cons, List.flatMap_cons, h a (List.mem_cons_self ..), ih (fun x hx => h x (List.mem_cons_of_mem _ hx))]
theorem pincl_iff (x y t : Int) : pincl x y t = true ↔ 0 ≤ x ∧ x < y ∧ y ≤ 1099511627776 ∧ x ≤ t ∧ t < y := by
  unfold pincl pvalid
  simp only [Bool.and_eq_true, decide_eq_true_eq]
  omega
theorem day_one (vals : List GVal) (x y t : Int) (ln : List Int) : atDay [strip ⟨vals, x, y, ln⟩] t = if pincl x y t = true then [⟨vals, []⟩] else [] := by
  unfold atDay strip
  rw [List.filter_cons]
  dsimp only
  split <;> rfl
theorem day_if (c : Prop) [Decidable c] (vals : List GVal) (x y t : Int) (ln : List Int) : atDay ((if c then [(⟨vals, x, y, ln⟩ : Tup)] else []).map strip) t = if c ∧ pincl x y t = true then [⟨vals, []⟩] else [] := by
  by_cases h : c
  · rw [if_pos h, List.map_cons, List.map_nil, day_one]
    simp [h]
  · rw [if_neg h, if_neg (fun h' => h h'.1)]
    rfl
/-- The rows of a day of one affected version's parts. -/
theorem parts_day (plo phi day : Int) (chg : Option (List GVal → List GVal)) (v : Ver) (h0 : 0 ≤ v.lo) (h1 : v.lo < v.hi) (h2 : v.hi ≤ 1000000) (hok : isOk v.lo v.hi plo phi = true) :
    atDay ((partsV plo phi chg v).map strip) day = if v.lo ≤ day ∧ day < v.hi then (if plo ≤ day ∧ day < phi then (match chg with | none => [] | some f => [⟨f v.vals, []⟩]) else [⟨v.vals, []⟩]) else [] := by
  have hlo : isLo v.lo v.hi plo phi = max v.lo plo := by unfold isLo; rw [if_pos hok]
  have hhi : isHi v.lo v.hi plo phi = min v.hi phi := by unfold isHi; rw [if_pos hok]
  unfold isOk pvalid at hok
  simp only [Bool.and_eq_true, decide_eq_true_eq] at hok
  obtain ⟨⟨_, g1, g2, g3⟩, g4⟩ := hok
  have e1 : (v.lo < max v.lo plo ∧ pincl v.lo (max v.lo plo) day = true) ↔ (v.lo ≤ day ∧ day < max v.lo plo) := by rw [pincl_iff]; omega
  have e2 : (min v.hi phi < v.hi ∧ pincl (min v.hi phi) v.hi day = true) ↔ (min v.hi phi ≤ day ∧ day < v.hi) := by rw [pincl_iff]; omega
  have e3 : (max v.lo plo < min v.hi phi ∧ pincl (max v.lo plo) (min v.hi phi) day = true) ↔ (max v.lo plo ≤ day ∧ day < min v.hi phi) := by rw [pincl_iff]; omega
  unfold partsV
  rw [List.map_append, List.map_append, atDay_append, atDay_append]
  unfold partL partR
  rw [hlo, hhi, day_if, day_if, ite_iff e1, ite_iff e2]
  have hm : atDay ((partM plo phi chg v).map strip) day = if max v.lo plo ≤ day ∧ day < min v.hi phi then (match chg with | none => [] | some f => [⟨f v.vals, []⟩]) else [] := by
    cases chg with
    | none =>
      by_cases h : max v.lo plo ≤ day ∧ day < min v.hi phi
      · rw [if_pos h]; rfl
      · rw [if_neg h]; rfl
    | some f =>
      unfold partM
      dsimp only
      rw [hlo, hhi, day_if, ite_iff e3]
  rw [hm]
  by_cases k1 : v.lo ≤ day ∧ day < v.hi
  · rw [if_pos k1]
    by_cases k2 : plo ≤ day ∧ day < phi
    · rw [if_pos k2, if_neg (by omega), if_pos (by omega), if_neg (by omega), List.nil_append, List.append_nil]
    · rw [if_neg k2]
      by_cases k3 : day < plo
      · rw [if_pos (by omega), if_neg (by omega), if_neg (by omega), List.append_nil, List.append_nil]
      · rw [if_neg (by omega), if_neg (by omega), if_pos (by omega), List.nil_append, List.nil_append]
  · rw [if_neg k1, if_neg (by omega), if_neg (by omega), if_neg (by omega), List.append_nil, List.append_nil]
theorem day_ver (v : Ver) (h0 : 0 ≤ v.lo) (h1 : v.lo < v.hi) (h2 : v.hi ≤ 1000000) (day : Int) : atDay [tupOf v] day = if v.lo ≤ day ∧ day < v.hi then [⟨v.vals, []⟩] else [] := by
  have e : (pincl v.lo v.hi day = true) ↔ (v.lo ≤ day ∧ day < v.hi) := by rw [pincl_iff]; omega
  have := day_one v.vals v.lo v.hi day []
  rw [ite_iff e] at this
  exact this
theorem day_vers (L : List Ver) (day : Int) : atDay (L.map tupOf) day = L.flatMap fun v => atDay [tupOf v] day := by
  induction L with
  | nil => rfl
  | cons v L ih =>
    rw [List.map_cons, List.flatMap_cons, ← ih, ← atDay_append]
    rfl
/-- Outside of the period an edit leaves the rows of a day. -/
theorem rows_out (plo phi : Int) (e : List GExp) (pred : Int) (chg : Option (List GVal → List GVal)) (L : List Ver) (n first day : Int) (hc : Cur L) (hF : Fit L n first) (h1 : 1 < n) (h2 : n < 1099511627776) (hd : ¬ (plo ≤ day ∧ day < phi)) :
    sortR (atDay (atT (applyL L ((affV plo phi e pred L).map Ver.id) ((affV plo phi e pred L).flatMap (partsV plo phi chg)) n first) n) day) = sortR (atDay (atT L n) day) := by
  refine sortR_congr ((rows_after plo phi e pred chg L n first day hc hF.ids h1 h2).trans ?_)
  rw [atT_cur hc (by omega) h2]
  have hk : ((L.filter (keepV plo phi e pred)).flatMap fun v => atDay ((partsV plo phi chg v).map strip) day) = atDay ((L.filter (keepV plo phi e pred)).map tupOf) day := by
    rw [day_vers]
    have key : ∀ v ∈ L.filter (keepV plo phi e pred), atDay ((partsV plo phi chg v).map strip) day = atDay [tupOf v] day := fun v hv => by
      obtain ⟨hv1, hv2⟩ := List.mem_filter.1 hv
      obtain ⟨g1, g2, g3⟩ := hF.days v hv1
      unfold keepV at hv2
      simp only [Bool.and_eq_true] at hv2
      rw [parts_day plo phi day chg v g1 g2 g3 hv2.1.2, day_ver v g1 g2 g3, if_neg hd]
    rw [fm_congr key]
  rw [hk, ← atDay_append, ← List.map_append]
  refine atDay_perm (List.Perm.map _ ?_) day
  exact List.perm_append_comm.trans (List.filter_append_perm _ _)
theorem atT_len (l : List Ver) (t : Int) : (atT l t).length ≤ l.length := by unfold atT; rw [List.length_map]; exact List.length_filter_le _ _
theorem atT_small {l : List Ver} (h : ∀ x ∈ l, x.vals.length ≤ 1000) (t : Int) : ∀ x ∈ atT l t, x.vals.length ≤ 1000 ∧ x.lin.length ≤ 1000 := by
  intro x hx
  unfold atT at hx
  obtain ⟨v, hv, rfl⟩ := List.mem_map.1 hx
  exact ⟨h v (List.mem_filter.1 hv).1, Nat.zero_le _⟩
theorem asg1_len (e : List GExp) (old vals : List GVal) (s : Asg) : (asg1 e old vals s).length = vals.length := by
  unfold asg1
  split
  · rw [List.length_set]
  · rfl
theorem asgV_len (e : List GExp) (st : List Asg) (r : List GVal) : (asgV e st r).length = r.length := by
  unfold asgV
  have h : ∀ (st : List Asg) (v : List GVal), (st.foldl (asg1 e r) v).length = v.length := by
    intro st
    induction st with
    | nil => intro v; rfl
    | cons s st ih => intro v; rw [List.foldl_cons, ih, asg1_len]
  exact h st r
theorem parts_vals' {plo phi : Int} (chg : Option (List GVal → List GVal)) (hchg : ∀ f, chg = some f → ∀ r, (f r).length = r.length) (L : List Ver) (hL : ∀ x ∈ L, x.vals.length ≤ 1000) : ∀ t ∈ L.flatMap (partsV plo phi chg), t.vals.length ≤ 1000 := by
  intro t ht
  obtain ⟨v, hv, ht⟩ := List.mem_flatMap.1 ht
  have h := hL v hv
  unfold partsV partL partM partR at ht
  rcases List.mem_append.1 ht with ht | ht
  · rcases List.mem_append.1 ht with ht | ht
    · split at ht
      · simp at ht; subst ht; exact h
      · cases ht
    · cases chg with
      | none => cases ht
      | some f =>
        have hf := hchg f rfl v.vals
        dsimp only at ht
        split at ht
        · simp at ht; subst ht; show (f v.vals).length ≤ 1000; rw [hf]; exact h
        · cases ht
  · split at ht
    · simp at ht; subst ht; exact h
    · cases ht
theorem applyL_vals {L : List Ver} {cl : List Int} {ad : List Tup} {n first : Int} (hvl : ∀ x ∈ L, x.vals.length ≤ 1000) (hal : ∀ x ∈ ad, x.vals.length ≤ 1000) : ∀ x ∈ applyL L cl ad n first, x.vals.length ≤ 1000 := by
  intro x hx
  unfold applyL at hx
  rcases List.mem_append.1 hx with hx | hx
  · obtain ⟨v, hv, hx⟩ := List.mem_flatMap.1 hx
    have h := hvl v hv
    unfold keepOne at hx
    split at hx
    · split at hx
      · cases hx
      · simp at hx; subst hx; exact h
    · simp at hx; subst hx; exact h
  · unfold newV at hx
    obtain ⟨i, hi, rfl⟩ := List.mem_mapIdx.1 hx
    exact hal _ (List.getElem_mem hi)
end Go.Proofs.Ytminnkihcohflaa
