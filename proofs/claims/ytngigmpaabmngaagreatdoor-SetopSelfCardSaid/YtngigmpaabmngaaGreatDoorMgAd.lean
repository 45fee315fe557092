/- A part of the proofs: SopR, SopS, MapS, ShSe, Lvp, Evs, Lvw, SopC, Nrp, ShSt, Cmt, Nrm, Put, Hand. No condition beside sizes and tables that read as laid. -/
import Derived.Test.YtngigmpaabmngaaGreatDoorMgAc
import Derived.Test.YtngigmpaabmngaaGreatDoorMgAa
import Derived.Maps.OwnSet
import Derived.Maps.OwnOps
import Derived.Maps.RangeWalk
import Derived.Maps.Views
import Derived.Shelf.SlLaysF0
import Derived.Test.YtngigmpaabmngaaGreatDoorProg
import Derived.Test.YtngigmpaabmngaaGreatDoorMgAb
import Derived.Lib.SmallJoins
import Derived.Shelf.SlSortCmp.NoneTotal
import Derived.Deep.RegionHeld3
namespace Go.Proofs.YtngigmpaabmngaaGreatDoor
open Go.RowKit

/-- A run of rows with the same values: how many, and their lineages merged. -/
structure GRun where
  vals : List GVal
  n : Nat
  lin : List Int
def runStep (out : List GRun) (r : GRow) : List GRun :=
  match out.getLast? with
  | some g => if cmpRows g.vals r.vals = 0 then out.dropLast ++ [⟨g.vals, g.n + 1, mergeL g.lin r.lin⟩] else out ++ [⟨r.vals, 1, mergeL [] r.lin⟩]
  | none => out ++ [⟨r.vals, 1, mergeL [] r.lin⟩]
theorem runStep_same {out : List GRun} {g : GRun} {r : GRow} (h : cmpRows g.vals r.vals = 0) : runStep (out ++ [g]) r = out ++ [⟨g.vals, g.n + 1, mergeL g.lin r.lin⟩] := by
  unfold runStep
  rw [List.getLast?_append, List.getLast?_singleton]
  simp only [Option.some_or, if_pos h, List.dropLast_concat]
theorem runStep_new {out : List GRun} {r : GRow} (h : ∀ g, out.getLast? = some g → cmpRows g.vals r.vals ≠ 0) : runStep out r = out ++ [⟨r.vals, 1, mergeL [] r.lin⟩] := by
  unfold runStep
  cases e : out.getLast? with
  | none => rfl
  | some g => simp only [if_neg (h g e)]
def runsL (l : List GRow) : List GRun := l.foldl runStep []
theorem runsL_snoc {l : List GRow} {k : Nat} {r : GRow} (h : l[k]? = some r) : runsL (l.take (k + 1)) = runStep (runsL (l.take k)) r := by
  unfold runsL
  rw [take_get h, List.foldl_append]
  rfl
/-- What the runs of rows in order hold. -/
structure RunI (P : List GRow) (out : List GRun) : Prop where
  asc : out.Pairwise fun a b => cmpRows a.vals b.vals < 0
  num : ∀ g ∈ out, g.n = multL P g.vals ∧ 0 < g.n
  lin : ∀ g ∈ out, g.lin.Pairwise (· < ·) ∧ ∀ x, x ∈ g.lin ↔ x ∈ linsL P g.vals
  all : ∀ r ∈ P, ∃ g ∈ out, g.vals = r.vals
theorem linsL_append (l m : List GRow) (vs : List GVal) : linsL (l ++ m) vs = linsL l vs ++ linsL m vs := by unfold linsL; rw [List.filter_append, List.flatMap_append]
theorem linsL_one (r : GRow) (vs : List GVal) : linsL [r] vs = if cmpRows r.vals vs = 0 then r.lin else [] := by
  unfold linsL
  rw [List.filter_cons, List.filter_nil]
  by_cases h : cmpRows r.vals vs = 0
  · rw [if_pos h, if_pos (by simpa using h)]; simp
  · rw [if_neg h, if_neg (by simpa using h)]; rfl
theorem multL_append (l m : List GRow) (vs : List GVal) : multL (l ++ m) vs = multL l vs + multL m vs := List.countP_append
theorem multL_one (r : GRow) (vs : List GVal) : multL [r] vs = if cmpRows r.vals vs = 0 then 1 else 0 := by
  unfold multL
  rw [List.countP_singleton]
  by_cases h : cmpRows r.vals vs = 0
  · rw [if_pos h, if_pos (by simpa using h)]
  · rw [if_neg h, if_neg (by simpa using h)]
theorem multL_mem {l : List GRow} {vs : List GVal} (h : 0 < multL l vs) : ∃ x ∈ l, x.vals = vs := by
  obtain ⟨x, hx, he⟩ := List.countP_pos_iff.1 h
  exact ⟨x, hx, (cmpRows_zero _ _).1 (of_decide_eq_true he)⟩
theorem multL_none {l : List GRow} {vs : List GVal} (h : ∀ x ∈ l, x.vals ≠ vs) : multL l vs = 0 := by
  rcases Nat.eq_zero_or_pos (multL l vs) with e | e
  · exact e
  · obtain ⟨x, hx, hv⟩ := multL_mem e; exact absurd hv (h x hx)
theorem linsL_none {l : List GRow} {vs : List GVal} (h : ∀ x ∈ l, x.vals ≠ vs) : linsL l vs = [] := by
  unfold linsL
  have : (l.filter fun r => decide (cmpRows r.vals vs = 0)) = [] := by
    rw [List.filter_eq_nil_iff]
    intro x hx he
    exact h x hx ((cmpRows_zero _ _).1 (of_decide_eq_true he))
  rw [this]; rfl
theorem cmpRows_lt_trans {a b c : List GVal} (h : cmpRows a b < 0) (k : cmpRows b c ≤ 0) : cmpRows a c < 0 := by
  have := sgn_rows a b c
  unfold Sgn3 at this
  omega
theorem cmpRow_vals {a b : GRow} (h : cmpRow a b ≤ 0) : cmpRows a.vals b.vals ≤ 0 := by
  unfold cmpRow at h
  split at h <;> omega
theorem RunI.nil : RunI [] [] := ⟨.nil, by simp, by simp, by simp⟩
theorem RunI.step {P : List GRow} {out : List GRun} (h : RunI P out) {r : GRow} (hs : ∀ x ∈ P, cmpRow x r ≤ 0) : RunI (P ++ [r]) (runStep out r) := by
  have hle : ∀ g ∈ out, cmpRows g.vals r.vals ≤ 0 := fun g hg => by
    obtain ⟨x, hx, he⟩ := multL_mem ((h.num g hg).1 ▸ (h.num g hg).2)
    rw [← he]
    exact cmpRow_vals (hs x hx)
  rcases List.eq_nil_or_concat out with rfl | ⟨o, g, rfl⟩
  · have hP : P = [] := by
      rcases P with _ | ⟨x, P⟩
      · rfl
      · obtain ⟨g, hg, _⟩ := h.all x (List.mem_cons_self ..); cases hg
    subst hP
    rw [runStep_new (by simp)]
    refine ⟨by simp, fun g hg => ?_, fun g hg => ?_, fun x hx => ?_⟩
    · simp at hg; subst hg
      dsimp only
      rw [List.nil_append, multL_one, if_pos ((cmpRows_zero _ _).2 rfl)]
      exact ⟨rfl, by decide⟩
    · simp at hg; subst hg
      dsimp only
      rw [List.nil_append, linsL_one, if_pos ((cmpRows_zero _ _).2 rfl)]
      exact ⟨mergeL_asc _ _, fun x => by rw [mergeL_mem]; simp⟩
    · simp at hx; subst hx
      exact ⟨_, List.mem_cons_self .., rfl⟩
  · rw [List.concat_eq_append] at h hle ⊢
    obtain ⟨ha, _, hab⟩ := List.pairwise_append.1 h.asc
    by_cases he : cmpRows g.vals r.vals = 0
    · have hv := (cmpRows_zero _ _).1 he
      rw [runStep_same he]
      have hno : ∀ q ∈ o, cmpRows r.vals q.vals ≠ 0 := fun q hq e => by
        have := hab q hq g (List.mem_singleton.2 rfl)
        rw [(cmpRows_zero _ _).1 e] at hv
        rw [hv, (cmpRows_zero _ _).2 rfl] at this
        omega
      refine ⟨?_, fun q hq => ?_, fun q hq => ?_, fun x hx => ?_⟩
      · refine List.pairwise_append.2 ⟨ha, by simp, fun a ha' b hb => ?_⟩
        simp at hb; subst hb
        exact hab a ha' g (List.mem_singleton.2 rfl)
      · rcases List.mem_append.1 hq with hq | hq
        · rw [multL_append, multL_one, if_neg (hno q hq)]
          exact h.num q (List.mem_append_left _ hq)
        · simp at hq; subst hq
          have := h.num g (by simp)
          dsimp only
          rw [multL_append, multL_one, if_pos (by rw [hv]; exact (cmpRows_zero _ _).2 rfl)]
          omega
      · rcases List.mem_append.1 hq with hq | hq
        · rw [linsL_append, linsL_one, if_neg (hno q hq), List.append_nil]
          exact h.lin q (List.mem_append_left _ hq)
        · simp at hq; subst hq
          have := h.lin g (by simp)
          dsimp only
          rw [linsL_append, linsL_one, if_pos (by rw [hv]; exact (cmpRows_zero _ _).2 rfl)]
          exact ⟨mergeL_asc _ _, fun x => by rw [mergeL_mem, this.2 x, List.mem_append]⟩
      · rcases List.mem_append.1 hx with hx | hx
        · obtain ⟨q, hq, hqv⟩ := h.all x hx
          rcases List.mem_append.1 hq with hq | hq
          · exact ⟨q, List.mem_append_left _ hq, hqv⟩
          · simp at hq; subst hq
            exact ⟨_, List.mem_append_right _ (List.mem_singleton.2 rfl), hqv⟩
        · simp at hx; subst hx
          exact ⟨_, List.mem_append_right _ (List.mem_singleton.2 rfl), hv⟩
    · have hlt : cmpRows g.vals r.vals < 0 := by have := hle g (by simp); omega
      have hall : ∀ q ∈ o ++ [g], cmpRows q.vals r.vals < 0 := fun q hq => by
        rcases List.mem_append.1 hq with hq | hq
        · exact cmpRows_lt_trans (hab q hq g (List.mem_singleton.2 rfl)) (Int.le_of_lt hlt)
        · simp at hq; subst hq; exact hlt
      have hno : ∀ q ∈ o ++ [g], cmpRows r.vals q.vals ≠ 0 := fun q hq e => by
        have := hall q hq
        rw [(cmpRows_zero _ _).1 e, (cmpRows_zero _ _).2 rfl] at this
        omega
      have hnP : ∀ x ∈ P, x.vals ≠ r.vals := fun x hx e => by
        obtain ⟨q, hq, hqv⟩ := h.all x hx
        exact hno q hq (by rw [hqv, e]; exact (cmpRows_zero _ _).2 rfl)
      rw [runStep_new (fun q hq => by rw [List.getLast?_append, List.getLast?_singleton] at hq; simp at hq; subst hq; exact he)]
      refine ⟨?_, fun q hq => ?_, fun q hq => ?_, fun x hx => ?_⟩
      · refine List.pairwise_append.2 ⟨h.asc, by simp, fun a ha' b hb => ?_⟩
        simp at hb; subst hb
        exact hall a ha'
      · rcases List.mem_append.1 hq with hq | hq
        · rw [multL_append, multL_one, if_neg (hno q hq)]
          exact h.num q hq
        · simp at hq; subst hq
          dsimp only
          rw [multL_append, multL_one, if_pos ((cmpRows_zero _ _).2 rfl), multL_none hnP]
          omega
      · rcases List.mem_append.1 hq with hq | hq
        · rw [linsL_append, linsL_one, if_neg (hno q hq), List.append_nil]
          exact h.lin q hq
        · simp at hq; subst hq
          dsimp only
          rw [linsL_append, linsL_one, if_pos ((cmpRows_zero _ _).2 rfl), linsL_none hnP]
          exact ⟨mergeL_asc _ _, fun x => by rw [mergeL_mem, List.nil_append]; simp⟩
      · rcases List.mem_append.1 hx with hx | hx
        · obtain ⟨q, hq, hqv⟩ := h.all x hx
          exact ⟨q, List.mem_append_left _ hq, hqv⟩
        · simp at hx; subst hx
          exact ⟨_, List.mem_append_right _ (List.mem_singleton.2 rfl), rfl⟩
theorem runsL_take {l : List GRow} (hs : l.Pairwise fun a b => cmpRow a b ≤ 0) (k : Nat) (hk : k ≤ l.length) : RunI (l.take k) (runsL (l.take k)) := by
  induction k with
  | zero => exact RunI.nil
  | succ k ih =>
    have hg : l[k]? = some (l[k]'(by omega)) := List.getElem?_eq_getElem (by omega)
    rw [runsL_snoc hg, take_get hg]
    refine (ih (by omega)).step fun x hx => ?_
    obtain ⟨i, hi, rfl⟩ := List.getElem_of_mem hx
    rw [List.length_take] at hi
    rw [List.getElem_take]
    exact List.pairwise_iff_getElem.1 hs i k _ _ (by omega)
theorem runs_all {l : List GRow} (hs : l.Pairwise fun a b => cmpRow a b ≤ 0) : RunI l (runsL l) := by
  have := runsL_take hs l.length (Nat.le_refl _)
  rwa [List.take_length] at this
theorem RunI.len {P : List GRow} {out : List GRun} (h : RunI P out) : out.length ≤ P.length := by
  have hsum : ∀ (o : List GRun), o.Pairwise (fun a b => cmpRows a.vals b.vals < 0) → (∀ g ∈ o, 0 < multL P g.vals) → ∀ Q : List GRow, (∀ g ∈ o, multL P g.vals ≤ multL Q g.vals) → o.length ≤ Q.length := by
    intro o
    induction o with
    | nil => intro _ _ Q _; exact Nat.zero_le _
    | cons g o ih =>
      intro ha hn Q hQ
      rw [List.pairwise_cons] at ha
      obtain ⟨x, hx, hv⟩ := multL_mem (Nat.lt_of_lt_of_le (hn g (List.mem_cons_self ..)) (hQ g (List.mem_cons_self ..)))
      obtain ⟨s, t, rfl⟩ := List.append_of_mem hx
      have h2 := ih ha.2 (fun q hq => hn q (List.mem_cons_of_mem _ hq)) (s ++ t) (fun q hq => by
        have h3 := hQ q (List.mem_cons_of_mem _ hq)
        have e : multL (s ++ x :: t) q.vals = multL (s ++ t) q.vals := by
          rw [multL_append, multL_append, show x :: t = [x] ++ t from rfl, multL_append, multL_one, if_neg (fun e => by
            have h4 := ha.1 q hq
            rw [← hv, (cmpRows_zero _ _).1 e, (cmpRows_zero _ _).2 rfl] at h4
            omega)]
          omega
        rwa [e] at h3)
      simp at h2 ⊢
      omega
  exact hsum out h.asc (fun g hg => (h.num g hg).1 ▸ (h.num g hg).2) P fun _ _ => Nat.le_refl _
/-- Rows of a difference or an intersection. -/
def comL (f : Nat → Nat → Nat) (rs : List GRun) (y : List GRow) (lo : List GVal → List Int) : List GRow := rs.flatMap fun g => List.replicate (f g.n (multL y g.vals)) ⟨g.vals, mergeL g.lin (lo g.vals)⟩
theorem comL_cnt {f : Nat → Nat → Nat} (hf : ∀ n, f 0 n = 0) {x y : List GRow} {rs : List GRun} (h : RunI x rs) {lo : List GVal → List Int} (hlo : ∀ vs z, z ∈ lo vs ↔ z ∈ linsL y vs) (r : GRow) :
    cntR (comL f rs y lo) r = semN f x y r := by
  have hone : ∀ g ∈ rs, cntR (List.replicate (f g.n (multL y g.vals)) ⟨g.vals, mergeL g.lin (lo g.vals)⟩) r = if cmpRows g.vals r.vals = 0 then semN f x y r else 0 := fun g hg => by
    rw [cntR_replicate]
    by_cases hv : cmpRows g.vals r.vals = 0
    · rw [if_pos hv]
      have hv' := (cmpRows_zero _ _).1 hv
      have hm : mergeL g.lin (lo g.vals) = mergeL (linsL x r.vals) (linsL y r.vals) := asc_unique (mergeL_asc _ _) (mergeL_asc _ _) fun z => by
        rw [mergeL_mem, mergeL_mem, (h.lin g hg).2 z, hlo, hv']
      unfold semN
      by_cases hl : r.lin = mergeL (linsL x r.vals) (linsL y r.vals)
      · rw [if_pos hl, if_pos (cmpRow_zero.2 (by obtain ⟨rv, rl⟩ := r; dsimp only at hl hv' hm ⊢; rw [hm, hv', hl])), (h.num g hg).1, hv']
      · rw [if_neg hl, if_neg (fun e => hl (by have := congrArg GRow.lin (cmpRow_zero.1 e); rw [← this]; exact hm))]
    · rw [if_neg hv, if_neg (fun e => hv ((cmpRows_zero _ _).2 (congrArg GRow.vals (cmpRow_zero.1 e))))]
  have hsum : ∀ o : List GRun, o.Pairwise (fun a b => cmpRows a.vals b.vals < 0) → (∀ g ∈ o, g ∈ rs) → cntR (comL f o y lo) r = if ∃ g ∈ o, cmpRows g.vals r.vals = 0 then semN f x y r else 0 := by
    classical
    intro o
    induction o with
    | nil => intro _ _; rw [if_neg (by simp)]; rfl
    | cons g o ih =>
      intro ha hm
      rw [List.pairwise_cons] at ha
      have e : comL f (g :: o) y lo = List.replicate (f g.n (multL y g.vals)) ⟨g.vals, mergeL g.lin (lo g.vals)⟩ ++ comL f o y lo := rfl
      rw [e, cntR_append, hone g (hm g (List.mem_cons_self ..)), ih ha.2 fun q hq => hm q (List.mem_cons_of_mem _ hq)]
      by_cases hv : cmpRows g.vals r.vals = 0
      · rw [if_pos hv, if_pos (show ∃ q ∈ g :: o, cmpRows q.vals r.vals = 0 from ⟨g, List.mem_cons_self .., hv⟩), if_neg (fun ⟨q, hq, hqv⟩ => by
          have h4 := ha.1 q hq
          rw [(cmpRows_zero _ _).1 hv, (cmpRows_zero _ _).1 hqv, (cmpRows_zero _ _).2 rfl] at h4
          omega)]
        omega
      · rw [if_neg hv]
        by_cases hq : ∃ q ∈ o, cmpRows q.vals r.vals = 0
        · rw [if_pos hq, if_pos (by obtain ⟨q, hq, hqv⟩ := hq; exact ⟨q, List.mem_cons_of_mem _ hq, hqv⟩)]; omega
        · rw [if_neg hq, if_neg (fun ⟨q, hq', hqv⟩ => by
            rcases List.mem_cons.1 hq' with rfl | hq'
            · exact hv hqv
            · exact hq ⟨q, hq', hqv⟩)]
  classical
  rw [hsum rs h.asc fun _ hg => hg]
  by_cases hex : ∃ g ∈ rs, cmpRows g.vals r.vals = 0
  · rw [if_pos hex]
  · rw [if_neg hex]
    have : ∀ z ∈ x, z.vals ≠ r.vals := fun z hz e => hex (by
      obtain ⟨g, hg, hgv⟩ := h.all z hz
      exact ⟨g, hg, by rw [hgv, e]; exact (cmpRows_zero _ _).2 rfl⟩)
    unfold semN
    rw [multL_none this, hf]
    split <;> rfl
/-- The lineage that the definition gathers for some values. -/
def loL (y : List GRow) (vs : List GVal) : List Int := (y.filter fun r => decide (cmpRows r.vals vs = 0)).foldl (fun a r => mergeL a r.lin) []
theorem loL_mem (y : List GRow) (vs : List GVal) (z : Int) : z ∈ loL y vs ↔ z ∈ linsL y vs := by
  have key : ∀ (l : List GRow) (a : List Int), z ∈ l.foldl (fun a r => mergeL a r.lin) a ↔ z ∈ a ∨ z ∈ l.flatMap GRow.lin := by
    intro l
    induction l with
    | nil => intro a; simp
    | cons r l ih => intro a; rw [List.foldl_cons, ih, mergeL_mem, List.flatMap_cons, List.mem_append, or_assoc]
  unfold loL linsL
  rw [key]
  simp
theorem loL_snoc {y : List GRow} {k : Nat} {r : GRow} (h : y[k]? = some r) (vs : List GVal) : loL (y.take (k + 1)) vs = if cmpRows r.vals vs = 0 then mergeL (loL (y.take k) vs) r.lin else loL (y.take k) vs := by
  unfold loL
  rw [take_get h, List.filter_append, List.foldl_append, List.filter_cons, List.filter_nil]
  by_cases hv : cmpRows r.vals vs = 0
  · rw [if_pos hv, if_pos (by simpa using hv)]; rfl
  · rw [if_neg hv, if_neg (by simpa using hv)]; rfl
/-- The distinct rows. -/
def disL (rs : List GRun) : List GRow := rs.map fun g => ⟨g.vals, g.lin⟩
theorem disL_com {x : List GRow} {rs : List GRun} (h : RunI x rs) : disL rs = comL (fun m _ => min m 1) rs [] fun _ => [] := by
  have : ∀ o : List GRun, (∀ g ∈ o, g ∈ rs) → disL o = comL (fun m _ => min m 1) o [] fun _ => [] := by
    intro o
    induction o with
    | nil => intro _; rfl
    | cons g o ih =>
      intro hm
      have hg := hm g (List.mem_cons_self ..)
      have e : comL (fun m _ => min m 1) (g :: o) [] (fun _ => []) = List.replicate (min g.n 1) ⟨g.vals, mergeL g.lin []⟩ ++ comL (fun m _ => min m 1) o [] fun _ => [] := rfl
      have e1 : min g.n 1 = 1 := by have := (h.num g hg).2; omega
      have e2 : mergeL g.lin [] = g.lin := asc_unique (mergeL_asc _ _) (h.lin g hg).1 fun z => by rw [mergeL_mem]; simp
      rw [e, e1, e2, ← ih fun q hq => hm q (List.mem_cons_of_mem _ hq)]
      rfl
  exact this rs fun _ h => h
end Go.Proofs.YtngigmpaabmngaaGreatDoor

namespace Go.Proofs.YtngigmpaabmngaaGreatDoor
open Go.RowKit

def fExc (m n : Nat) : Nat := m - n
def fInt (m n : Nat) : Nat := min m n
def fDis (m _n : Nat) : Nat := min m 1
theorem fExc_zero (n : Nat) : fExc 0 n = 0 := Nat.zero_sub n
theorem fInt_zero (n : Nat) : fInt 0 n = 0 := Nat.zero_min n
theorem fDis_zero (n : Nat) : fDis 0 n = 0 := rfl
/-- What is made of the classes that are done; L: those that are not. -/
structure SopI (f : Nat → Nat → Nat) (a b : List Tup) (L : List UInt8 → Bool) (out : List Tup) : Prop where
  cnt : ∀ t r, cntR (atDay out t) r = if L (keyL r.vals) = true then 0 else semN f (atDay a t) (atDay b t) r
theorem SopI.start {f : Nat → Nat → Nat} (hf : f 0 0 = 0) {a b : List Tup} {L : List UInt8 → Bool} (ha : ∀ x ∈ a, L (keyL x.vals) = true) (hb : ∀ x ∈ b, L (keyL x.vals) = true) : SopI f a b L [] := by
  refine ⟨fun t r => ?_⟩
  have h0 : cntR (atDay [] t) r = 0 := rfl
  rw [h0]
  split
  · rfl
  · rename_i h
    refine (semN_absent hf (fun z hz e => ?_) fun z hz e => ?_).symm
    · obtain ⟨x, hx, rfl, _⟩ := mem_atDay.1 hz
      exact h (by rw [← e]; exact ha x hx)
    · obtain ⟨x, hx, rfl, _⟩ := mem_atDay.1 hz
      exact h (by rw [← e]; exact hb x hx)
theorem SopI.step {f : Nat → Nat → Nat} (hf : f 0 0 = 0) {a b out : List Tup} {L : List UInt8 → Bool} {vs : List GVal} (h : SopI f a b L out) (hL : L (keyL vs) = true) : SopI f a b (fun z => L z && !(z == keyL vs)) (out ++ clsOut f a b vs) := by
  refine ⟨fun t r => ?_⟩
  rw [atDay_append, cntR_append, h.cnt t r, clsOut_day hf]
  by_cases hv : cmpRows r.vals vs = 0
  · have e := (cmpRows_zero _ _).1 hv
    rw [if_pos hv, e, if_pos hL, if_neg (by simp)]
    omega
  · have hk : keyL r.vals ≠ keyL vs := fun e => hv ((cmpRows_zero _ _).2 ((key_inj _ _).1 e))
    have hb : (keyL r.vals == keyL vs) = false := by simpa using hk
    rw [if_neg hv, hb]
    simp
theorem SopI.done {f : Nat → Nat → Nat} {a b out : List Tup} {L : List UInt8 → Bool} (h : SopI f a b L out) (hL : ∀ z, L z = false) : SemOf f a b out := fun t r => by rw [h.cnt t r, hL]; rfl
/-- The result of a set operation. -/
def NFS (f : Nat → Nat → Nat) (a b T : List Tup) : Prop := ∃ out, SemOf f a b out ∧ IsNF out T
theorem NFS.unique {f : Nat → Nat → Nat} {a b S T : List Tup} (h : NFS f a b S) (k : NFS f a b T) : S = T := by
  obtain ⟨o, h1, h2⟩ := h
  obtain ⟨p, k1, k2⟩ := k
  exact h1.nf k1 h2 k2
theorem NFS.perm {f : Nat → Nat → Nat} {a b a' b' T : List Tup} (h : NFS f a b T) (ha : ∀ t, (atDay a t).Perm (atDay a' t)) (hb : ∀ t, (atDay b t).Perm (atDay b' t)) : NFS f a' b' T := by
  obtain ⟨o, h1, h2⟩ := h
  exact ⟨o, h1.perm ha hb, h2⟩
theorem NFS.cnt {f : Nat → Nat → Nat} {a b T : List Tup} (h : NFS f a b T) (t : Int) (r : GRow) : cntR (atDay T t) r = semN f (atDay a t) (atDay b t) r := by
  obtain ⟨o, h1, h2⟩ := h
  rw [cntR_perm (h2.day t), h1 t r]
theorem NFS.again {f : Nat → Nat → Nat} {a b T T' : List Tup} (h : NFS f a b T) (h' : IsNF T T') : T' = T := by
  obtain ⟨_, _, h2⟩ := h
  exact h2.again h'
/-- Every row of the result on a day: its lineage is the merged one. -/
theorem NFS.lin {f : Nat → Nat → Nat} {a b T : List Tup} (h : NFS f a b T) {t : Int} {r : GRow} (hr : r ∈ atDay T t) : r.lin = mergeL (linsL (atDay a t) r.vals) (linsL (atDay b t) r.vals) ∧ 0 < f (multL (atDay a t) r.vals) (multL (atDay b t) r.vals) := by
  have hp : 0 < cntR (atDay T t) r := List.countP_pos_iff.2 ⟨r, hr, by simpa using cmpRow_zero.2 rfl⟩
  rw [h.cnt t r] at hp
  unfold semN at hp
  split at hp
  · exact ⟨by assumption, hp⟩
  · omega
theorem NFS.mult {f : Nat → Nat → Nat} {a b T : List Tup} (h : NFS f a b T) (t : Int) (vs : List GVal) : multL (atDay T t) vs = f (multL (atDay a t) vs) (multL (atDay b t) vs) := by
  have e : multL (atDay T t) vs = cntR (atDay T t) ⟨vs, mergeL (linsL (atDay a t) vs) (linsL (atDay b t) vs)⟩ := by
    unfold multL cntR
    refine List.countP_congr fun x hx => ?_
    rw [decide_eq_true_eq, decide_eq_true_eq, cmpRow_zero, cmpRows_zero]
    constructor
    · intro hv
      obtain ⟨xv, xl⟩ := x
      dsimp only at hv
      subst hv
      have := (h.lin hx).1
      dsimp only at this
      rw [this]
    · intro e; rw [e]
  rw [e, h.cnt]
  unfold semN
  rw [if_pos rfl]
theorem sort_mult (l : List GRow) (vs : List GVal) : multL (sortR l) vs = multL l vs := by rw [multL_perm (sortR_perm l)]
theorem sort_lins (l : List GRow) (vs : List GVal) (x : Int) : x ∈ linsL (sortR l) vs ↔ x ∈ linsL l vs := (linsL_perm (sortR_perm l) vs).mem_iff
theorem len_mult : ∀ {x y : List GRow}, (∀ vs, multL x vs = multL y vs) → x.length = y.length
  | [], y, h => by
    cases y with
    | nil => rfl
    | cons r y =>
      have := h r.vals
      rw [show r :: y = [r] ++ y from rfl, multL_append, multL_one, if_pos ((cmpRows_zero _ _).2 rfl)] at this
      have h0 : multL [] r.vals = 0 := rfl
      omega
  | r :: x, y, h => by
    have h1 := h r.vals
    rw [show r :: x = [r] ++ x from rfl, multL_append, multL_one, if_pos ((cmpRows_zero _ _).2 rfl)] at h1
    obtain ⟨z, hz, hzv⟩ := multL_mem (l := y) (vs := r.vals) (by omega)
    obtain ⟨s, t, rfl⟩ := List.append_of_mem hz
    have := len_mult (x := x) (y := s ++ t) fun vs => by
      have h2 := h vs
      rw [show r :: x = [r] ++ x from rfl, multL_append, multL_append, show z :: t = [z] ++ t from rfl, multL_append, multL_one, multL_one, hzv] at h2
      rw [multL_append]
      omega
    simp only [List.length_cons, List.length_append] at this ⊢
    omega
/-- The balance of difference and intersection. -/
theorem nfs_balance {a b D M : List Tup} (hD : NFS fExc a b D) (hM : NFS fInt a b M) (t : Int) : (∀ vs, multL (atDay D t) vs + multL (atDay M t) vs = multL (atDay a t) vs) ∧ (atDay D t).length + (atDay M t).length = (atDay a t).length := by
  have h : ∀ vs, multL (atDay D t) vs + multL (atDay M t) vs = multL (atDay a t) vs := fun vs => by
    rw [hD.mult, hM.mult]
    unfold fExc fInt
    omega
  refine ⟨h, ?_⟩
  rw [← List.length_append]
  exact len_mult fun vs => by rw [multL_append]; exact h vs
theorem nfu_day {a b U : List Tup} (hU : IsNF (a ++ b) U) (t : Int) : (∀ vs, multL (atDay U t) vs = multL (atDay a t) vs + multL (atDay b t) vs) ∧ (atDay U t).length = (atDay a t).length + (atDay b t).length := by
  have hp := hU.day t
  rw [atDay_append] at hp
  exact ⟨fun vs => by rw [multL_perm hp, multL_append], by rw [hp.length_eq, List.length_append]⟩
/-- Nothing of a relation is left when it is taken from itself. -/
theorem nfs_self {a T : List Tup} (h : NFS fExc a a T) : T = [] := by
  obtain ⟨o, h1, h2⟩ := h
  cases T with
  | nil => rfl
  | cons x T =>
    exfalso
    have hv := h2.lev.valid x (List.mem_cons_self ..)
    have hv' := of_decide_eq_true (show decide _ = true from hv)
    have hx : x.row ∈ atDay (x :: T) x.lo := mem_atDay.2 ⟨x, List.mem_cons_self .., rfl, pincl_iff.2 ⟨hv, Int.le_refl _, hv'.2.1⟩⟩
    have h3 := (NFS.lin ⟨o, h1, h2⟩ hx).2
    unfold fExc at h3
    omega
theorem nfs_int_self {a T : List Tup} (h : NFS fInt a a T) (t : Int) (vs : List GVal) : multL (atDay T t) vs = multL (atDay a t) vs := by
  rw [h.mult]; unfold fInt; omega
/-- Once each, with all lineages merged. -/
theorem nfs_once {a T : List Tup} (h : NFS fDis a [] T) (t : Int) : (∀ r ∈ atDay T t, multL (atDay T t) r.vals = 1 ∧ r.lin.Pairwise (· < ·) ∧ (∀ x, x ∈ r.lin ↔ x ∈ linsL (atDay a t) r.vals) ∧ 0 < multL (atDay a t) r.vals) ∧ ∀ s ∈ atDay a t, multL (atDay T t) s.vals = 1 := by
  refine ⟨fun r hr => ?_, fun s hs => ?_⟩
  · obtain ⟨h1, h2⟩ := h.lin hr
    unfold fDis at h2
    refine ⟨by rw [h.mult]; unfold fDis; omega, ?_, fun x => ?_, by omega⟩
    · rw [h1]; exact mergeL_asc _ _
    · rw [h1, mergeL_mem, atDay_nil]
      simp [linsL]
  · have hp : 0 < multL (atDay a t) s.vals := List.countP_pos_iff.2 ⟨s, hs, by simpa using (cmpRows_zero _ _).2 rfl⟩
    rw [h.mult]
    unfold fDis
    omega
/-- What the definition makes between each two points. -/
def opRows (op : Nat) (x y : List GRow) : List GRow :=
  if op = 0 then x ++ y else if op = 1 then comL fExc (runsL (sortR x)) y (loL y) else if op = 2 then comL fInt (runsL (sortR x)) y (loL y) else disL (runsL (sortR x))
def opF (op : Nat) : Nat → Nat → Nat := if op = 1 then fExc else if op = 2 then fInt else fDis
theorem opRows_cnt {op : Nat} (h0 : op ≠ 0) (h3 : op ≤ 3) (x y : List GRow) (hy : op = 3 → y = []) (r : GRow) : cntR (opRows op x y) r = semN (opF op) x y r := by
  have hI : RunI (sortR x) (runsL (sortR x)) := runs_all (sortR_pairwise x)
  unfold opRows opF
  rw [if_neg h0]
  by_cases h1 : op = 1
  · rw [if_pos h1, if_pos h1, comL_cnt fExc_zero hI (loL_mem y) r]
    exact semN_perm (sortR_perm x) (.refl _) r
  rw [if_neg h1, if_neg h1]
  by_cases h2 : op = 2
  · rw [if_pos h2, if_pos h2, comL_cnt fInt_zero hI (loL_mem y) r]
    exact semN_perm (sortR_perm x) (.refl _) r
  rw [if_neg h2, if_neg h2]
  have hy0 := hy (by omega)
  subst hy0
  rw [disL_com hI]
  rw [show (fun m _ => min m 1 : Nat → Nat → Nat) = fDis from rfl, comL_cnt fDis_zero hI (fun vs z => by simp [linsL]) r]
  exact semN_perm (sortR_perm x) (.refl _) r
/-- The definition's relation before it is put in normal form. -/
def binOut (op : Nat) (a b : List Tup) : List Tup := segOut (fun s => opRows op (sortR (atDay a s)) (sortR (atDay b s))) (refBnd (a ++ b))
theorem opRows_nil (op : Nat) : opRows op (sortR []) (sortR []) = [] := by
  have e : sortR [] = [] := List.eq_nil_of_length_eq_zero (by rw [sortR_length]; rfl)
  rw [e]
  unfold opRows
  rw [e]
  repeat' split
  all_goals rfl
theorem binOut_day (op : Nat) (a b : List Tup) (t : Int) : atDay (binOut op a b) t = opRows op (sortR (atDay a t)) (sortR (atDay b t)) :=
  segOut_two (fun x y => opRows op (sortR x) (sortR y)) (opRows_nil op) a b t
theorem binOut_sem {op : Nat} (h0 : op ≠ 0) (h3 : op ≤ 3) (a b : List Tup) (hb : op = 3 → b = []) : SemOf (opF op) a b (binOut op a b) := fun t r => by
  rw [binOut_day, opRows_cnt h0 h3 _ _ (fun e => by rw [hb e]; exact List.eq_nil_of_length_eq_zero (by rw [sortR_length]; rfl))]
  exact semN_perm (sortR_perm _) (sortR_perm _) r
theorem binOut_union (a b : List Tup) (t : Int) : (atDay (binOut 0 a b) t).Perm (atDay (a ++ b) t) := by
  rw [binOut_day, atDay_append]
  exact (sortR_perm _).append (sortR_perm _)
end Go.Proofs.YtngigmpaabmngaaGreatDoor

namespace Go.Proofs.YtngigmpaabmngaaGreatDoor
open Go.RowKit Go.Lib Go.Maps

theorem str_law : Keyed Tryz.prog 9 := string_keyed Tryz.underlying9
/-- An element is read as itself. -/
def rawElem (v : Value) : Option (DataW Value × List MemPlace) := some (.held v, [])
theorem skey {s : ByteArray} (h : s.size ≤ maxLen) : Go.keyOf Tryz.prog 9 (.string s) = some (.string s.data.toList) := by simp [Go.keyOf, mapKey, Tryz.underlying9, h]
theorem skey_inv {key : Value} {kl : Lit} (h : Go.keyOf Tryz.prog 9 key = some kl) : ∃ s : ByteArray, key = .string s ∧ kl = .string s.data.toList ∧ s.size ≤ maxLen := by
  cases key <;> simp [Go.keyOf, mapKey, Tryz.underlying9] at h
  exact ⟨_, rfl, h.2.symm, h.1⟩
theorem sAtKey_not_has {D : DataW Value} {k : Lit} (h : has D k = false) (hm : IsMap D) (z : DataW Value) : D.atKey k z = z := by
  obtain ⟨es, rfl⟩ := hm
  simp only [DataW.atKey]
  cases hf : es.find? (fun p => p.1.sameKey k) with
  | none => rfl
  | some p =>
    have h1 := List.find?_some hf
    have h2 := List.mem_of_find?_eq_some hf
    rw [has_eq] at h
    have := List.any_eq_false.1 h p h2
    exact absurd h1 (by simpa using this)
/-- What a map holds. -/
structure HoldsS (D : DataW Value) (f : List UInt8 → Option Value) : Prop where
  has : ∀ s, has D (.string s) = (f s).isSome
  at' : ∀ s v, f s = some v → ∀ zd, D.atKey (.string s) zd = .held v
/-- A map of the call's own from strings: what it holds. -/
def OwnSV (w : World) (b n : Nat) (f : List UInt8 → Option Value) : Prop :=
  ∃ D : DataW Value, w.ownsMap Tryz.prog 9 rawElem b n D ∧ HoldsS D f
theorem OwnSV.kept {w w' : World} {b n : Nat} {f : List UInt8 → Option Value} {G : Nat → Prop} (h : OwnSV w b n f) (hk : Kept G w w') (hb : ¬ G b) : OwnSV w' b n f := by
  obtain ⟨D, ⟨es, clock, h1, h2⟩, h3⟩ := h
  exact ⟨D, ⟨es, clock, (hk.2 b (Array.getElem?_eq_some_iff.1 h1).1 hb).trans h1, h2⟩, h3⟩
theorem OwnSV.below {w w' : World} {b n : Nat} {f : List UInt8 → Option Value} (h : OwnSV w b n f) (hb : Below w.heap.size w w') : OwnSV w' b n f := h.kept (G := fun _ => False) (.of_below hb) (fun h => h)
theorem OwnSV.lt {w : World} {b n : Nat} {f : List UInt8 → Option Value} (h : OwnSV w b n f) : b < w.heap.size := by obtain ⟨D, h1, _⟩ := h; exact h1.lt
theorem OwnSV.made (w : World) : OwnSV (w.alloc (.map #[] 0)) w.heap.size 0 (fun _ => none) := ⟨.map [], World.ownsMap_made w _ _ _, ⟨fun _ => rfl, fun _ _ h => by cases h⟩⟩
/-- The block of a map is no row's. -/
theorem OwnSV.no_row {P : Program} {α : Type} {E : El P α} {w : World} {b n B : Nat} {f : List UInt8 → Option Value} {v : Value} {l : List α} (h : OwnSV w b n f) (hO : Own E w B v l) : v.ownBlock ≠ some b := by
  intro e
  obtain ⟨D, ⟨es, clock, h1, _⟩, _⟩ := h
  obtain ⟨xs, ⟨_, h2⟩, _⟩ := hO
  rcases h2 with ⟨rfl, _⟩ | ⟨g, cap, cur, rfl, _, hh, _⟩
  · cases e
  · have e' : some g = some b := e
    cases e'
    rw [h1] at hh
    cases hh
section
variable {t e : TypeId} (ht : Tryz.prog.underlying t = some (.map 9 e))
include ht
/-- 'm[x]'. -/
theorem OwnSV.look {w : World} {b n : Nat} {f : List UInt8 → Option Value} {z : Value} (h : OwnSV w b n f) (hz : (zeroValue e).run Tryz.prog w = .ok z w) {s : ByteArray} (hs : s.size ≤ maxLen) :
    (Instr.lookup t (.map (some b)) (.string s) false).run Tryz.prog w = .ok ((f s.data.toList).getD z) w := by
  obtain ⟨D, h1, h2⟩ := h
  obtain ⟨v, ps, hrun, hv⟩ := h1.lookup str_law ht hz (zd := .held z) (zp := []) rfl (skey hs)
  rw [hrun]
  cases hf : f s.data.toList with
  | none =>
    rw [sAtKey_not_has (by rw [h2.has, hf]; rfl) h1.isMap] at hv
    cases hv
    rfl
  | some d =>
    rw [h2.at' _ d hf] at hv
    cases hv
    rfl
end
section
variable {t e : TypeId} (ht : Tryz.prog.underlying t = some (.map 9 e)) {ops : Array Oper} {rest : List Oper} {o : Oper} {a : Act} {Q : Exit → Act → World → Prop}
include ht
/-- 'm[x] = v'. -/
theorem OwnSV.put {w : World} {b n : Nat} {f : List UInt8 → Option Value} (h : OwnSV w b n f) (hn : n < maxLen) {s : ByteArray} (hs : s.size ≤ maxLen) (c : Value) :
    ∃ w', (Instr.mapUpdate t (.map (some b)) (.string s) c).run Tryz.prog w = .ok () w' ∧ OwnSV w' b (n + 1) (fun y => if y = s.data.toList then some c else f y) ∧ w.grownBy w' (some b) := by
  obtain ⟨D, h1, h2⟩ := h
  obtain ⟨w', hrun, r1, r2⟩ := h1.update str_law ht hn (skey hs) (val := c) rfl
  refine ⟨w', hrun, ?_, r2⟩
  have hm' := h1.isMap
  have hk : WideAt.IsKeyLit (.string s.data.toList) := str_law.key (skey hs)
  have hne : ∀ y, y ≠ s.data.toList → (Lit.string y) ≠ .string s.data.toList := fun y h e => h (by cases e; rfl)
  refine ⟨_, r1, ⟨fun y => ?_, fun y d hd zd => ?_⟩⟩
  · by_cases e : y = s.data.toList
    · subst e; rw [has_put_same hm' hk, if_pos rfl]; rfl
    · rw [has_put_other (hne y e), if_neg e, h2.has y]
  · by_cases e : y = s.data.toList
    · subst e; rw [if_pos rfl] at hd; cases hd; exact atKey_put_same hm' hk _ _
    · rw [if_neg e] at hd; rw [atKey_put_other (hne y e)]; exact h2.at' y d hd zd
theorem wpList_putSV (w : World) (hg : o.guard = none) (m x v : Operand) (hop : o.op = Op.mapUpdate t m x v) (b n : Nat) (f : List UInt8 → Option Value) (hm : a.eval m = .map (some b)) (hown : OwnSV w b n f) (hn : n < maxLen) (s : ByteArray) (c : Value)
    (hx : a.eval x = .string s) (hv : a.eval v = c) (hs : s.size ≤ maxLen)
    (hK : ∀ w', OwnSV w' b (n + 1) (fun y => if y = s.data.toList then some c else f y) → w.grownBy w' (some b) → wpList Tryz.prog ops Q rest (a.put o.dst undef) w') : wpList Tryz.prog ops Q (o :: rest) a w := by
  refine wpList_plain hg fun K' hK' => ?_
  obtain ⟨w', hrun, r1, r2⟩ := hown.put ht hn hs c
  unfold Oper.wp
  simp [execOp, hop, hm, hx, hv, hrun, Result.andThen]
  exact hK' _ _ (hK w' r1 r2)
end
/-- A range over such a map: what it holds, what is still to come. -/
def RngSV (w : World) (b r n : Nat) (f : List UInt8 → Option Value) (L : List UInt8 → Bool) (cnt : Nat) : Prop :=
  ∃ (D : DataW Value) (left : Lit → Bool), w.ranges Tryz.prog 9 rawElem b r n D left cnt ∧ HoldsS D f ∧ ∀ s, left (.string s) = L s
theorem RngSV.left_eq {w : World} {b r n : Nat} {f : List UInt8 → Option Value} {L : List UInt8 → Bool} {cnt : Nat} (h : RngSV w b r n f L cnt) : w.rangeLeft b r = cnt := by obtain ⟨D, left, h1, _⟩ := h; exact h1.left_eq
theorem RngSV.kept {w w' : World} {b r n : Nat} {f : List UInt8 → Option Value} {L : List UInt8 → Bool} {cnt : Nat} {G : Nat → Prop} (h : RngSV w b r n f L cnt) (hk : Kept G w w') (hb : ¬ G b) (hr : ¬ G r) : RngSV w' b r n f L cnt := by
  obtain ⟨D, left, ⟨es, clock, since, seen, c0, h1, F, hs, hD, h2, rest⟩, h3⟩ := h
  exact ⟨D, left, ⟨es, clock, since, seen, c0, (hk.2 b (Array.getElem?_eq_some_iff.1 h1).1 hb).trans h1, F, hs, hD, (hk.2 r (Array.getElem?_eq_some_iff.1 h2).1 hr).trans h2, rest⟩, h3⟩
theorem RngSV.below {w w' : World} {B b r n : Nat} {f : List UInt8 → Option Value} {L : List UInt8 → Bool} {cnt : Nat} (h : RngSV w b r n f L cnt) (hb : Below B w w') (h1 : b < B) (h2 : r < B) : RngSV w' b r n f L cnt :=
  h.kept (G := fun k => B ≤ k) ⟨hb.size, fun k _ hn => hb.block k (by omega)⟩ (by omega) (by omega)
section
variable {t e : TypeId} (ht : Tryz.prog.underlying t = some (.map 9 e)) {ops : Array Oper} {rest : List Oper} {o : Oper} {a : Act} {Q : Exit → Act → World → Prop}
include ht
/-- 'range m'. -/
theorem wpList_rangeSV (w : World) (hg : o.guard = none) (m : Operand) (hop : o.op = Op.range t m) (b n : Nat) (f : List UInt8 → Option Value) (hm : a.eval m = .map (some b)) (hown : OwnSV w b n f)
    (hK : ∀ w' cnt, RngSV w' b w.heap.size n f (fun s => (f s).isSome) cnt → w.grownBy w' none → w'.heap.size = w.heap.size + 1 → wpList Tryz.prog ops Q rest (a.put o.dst (.pointer (some ⟨w.heap.size, 0, none⟩))) w') :
    wpList Tryz.prog ops Q (o :: rest) a w := by
  obtain ⟨D, h1, h2⟩ := hown
  exact wpList_range_own w hg m t hop 9 e str_law ht rawElem b n D hm h1 fun w' h3 h4 h5 => hK w' _ ⟨D, _, h3, h2, h2.has⟩ h4 h5
end
section
variable {ops : Array Oper} {rest : List Oper} {o : Oper} {a : Act} {Q : Exit → Act → World → Prop}
/-- The step. -/
theorem wpList_nextSV (w : World) (hg : o.guard = none) (it : Operand) (hop : o.op = Op.next it false) (b r n : Nat) (f : List UInt8 → Option Value) (L : List UInt8 → Bool) (cnt : Nat) (hit : a.eval it = .pointer (some ⟨r, 0, none⟩)) (h : RngSV w b r n f L cnt)
    (hDone : (∀ s, L s = false) → wpList Tryz.prog ops Q rest (a.put o.dst (.tuple #[.bool false])) w)
    (hMore : ∀ (s : ByteArray) (v : Value) (w' : World) (cnt' : Nat), s.size ≤ maxLen → f s.data.toList = some v → L s.data.toList = true → RngSV w' b r n f (fun z => L z && !(z == s.data.toList)) cnt' → cnt' < cnt →
      w.grownBy w' (some r) → w'.heap.size = w.heap.size → (Instr.entry (.pointer (some ⟨r, 0, none⟩))).run Tryz.prog w' = .ok (.tuple #[.string s, v]) w' → wpList Tryz.prog ops Q rest (a.put o.dst (.tuple #[.bool true, .string s, v])) w') :
    wpList Tryz.prog ops Q (o :: rest) a w := by
  obtain ⟨D, left, h1, h2, h3⟩ := h
  refine wpList_next_ranges w hg it hop 9 str_law rawElem Value.string (fun v : Value => v) (fun key kl hkey => by obtain ⟨x, rfl, _⟩ := skey_inv hkey; exact ⟨x, rfl⟩) (fun v y _ => ⟨v, rfl⟩)
    b r n D left cnt hit h1 (fun _ hl => hDone fun s => by rw [← h3]; exact hl _) (fun s c kl y w' cnt' hkey hlk hv hat hrg hlt hgr hsz hen => ?_)
  obtain ⟨s', es, rfl, hss⟩ := skey_inv hkey
  cases es
  cases hv
  have hh := has_true_of_atKey hat
  rw [h2.has] at hh
  obtain ⟨v, hv⟩ := Option.isSome_iff_exists.1 hh
  have e1 := (hat .nil).symm.trans (h2.at' _ v hv .nil)
  cases e1
  refine hMore s c w' cnt' hss hv (by rw [← h3]; exact hlk) ⟨D, _, hrg, h2, fun z => ?_⟩ hlt hgr hsz hen
  dsimp only
  rw [h3]
  congr 1
end
end Go.Proofs.YtngigmpaabmngaaGreatDoor

namespace Go.Proofs.YtngigmpaabmngaaGreatDoor
open Go.Shelf
def sh_sortEvs_ren : Go.Shelf.Ren := ⟨fun | 6 => 80 | 15 => 84 | 14 => 115 | 28 => 124 | 29 => 125 | 20 => 146 | 21 => 147 | 22 => 148 | 23 => 149 | 24 => 150 | 25 => 151 | 26 => 152 | 27 => 153 | 46 => 181 | 47 => 155 | 48 => 156 | 49 => 182 | 50 => 183 | 57 => 194 | n => n, fun | 22 => 108 | 24 => 110 | 25 => 112 | 3 => 3 | 39 => 92 | 0 => 0 | 53 => 157 | 55 => 159 | 4 => 4 | 46 => 151 | 45 => 150 | 50 => 60 | 5 => 5 | 9 => 9 | 66 => 180 | 70 => 184 | 76 => 207 | 77 => 208 | n => n, fun | n => n⟩
theorem sh_sortEvs : Go.Proofs.SlLaysF0.n6 Tryz.prog sh_sortEvs_ren := {
  mixed := by kernel_rfl
  f6 := ⟨Tryz.f80.name, by decide, Tryz.func80.trans (congrArg some (by kernel_rfl))⟩
  f14 := ⟨Tryz.f115.name, by decide, Tryz.func115.trans (congrArg some (by kernel_rfl))⟩
  f15 := Tryz.func84.trans (congrArg some (by kernel_rfl))
  f20 := ⟨Tryz.f146.name, by decide, Tryz.func146.trans (congrArg some (by kernel_rfl))⟩
  f21 := ⟨Tryz.f147.name, by decide, Tryz.func147.trans (congrArg some (by kernel_rfl))⟩
  f22 := ⟨Tryz.f148.name, by decide, Tryz.func148.trans (congrArg some (by kernel_rfl))⟩
  f23 := ⟨Tryz.f149.name, by decide, Tryz.func149.trans (congrArg some (by kernel_rfl))⟩
  f24 := ⟨Tryz.f150.name, by decide, Tryz.func150.trans (congrArg some (by kernel_rfl))⟩
  f25 := ⟨Tryz.f151.name, by decide, Tryz.func151.trans (congrArg some (by kernel_rfl))⟩
  f26 := ⟨Tryz.f152.name, by decide, Tryz.func152.trans (congrArg some (by kernel_rfl))⟩
  f27 := ⟨Tryz.f153.name, by decide, Tryz.func153.trans (congrArg some (by kernel_rfl))⟩
  f28 := Tryz.func124.trans (congrArg some (by kernel_rfl))
  f29 := Tryz.func125.trans (congrArg some (by kernel_rfl))
  f46 := ⟨Tryz.f181.name, by decide, Tryz.func181.trans (congrArg some (by kernel_rfl))⟩
  f47 := Tryz.func155.trans (congrArg some (by kernel_rfl))
  f48 := Tryz.func156.trans (congrArg some (by kernel_rfl))
  f49 := ⟨Tryz.f182.name, by decide, Tryz.func182.trans (congrArg some (by kernel_rfl))⟩
  f50 := ⟨Tryz.f183.name, by decide, Tryz.func183.trans (congrArg some (by kernel_rfl))⟩
  f57 := ⟨Tryz.f194.name, by decide, Tryz.func194.trans (congrArg some (by kernel_rfl))⟩
  t0 := Tryz.underlying0
  a0 := Tryz.isAgg0
  z0 := Tryz.sizeOf0
  v0 := Tryz.zeroValue0
  t3 := Tryz.underlying3
  a3 := Tryz.isAgg3
  z3 := Tryz.sizeOf3
  v3 := Tryz.zeroValue3
  t4 := Tryz.underlying4
  a4 := Tryz.isAgg4
  z4 := Tryz.sizeOf4
  v4 := Tryz.zeroValue4
  t5 := Tryz.underlying5
  a5 := Tryz.isAgg5
  z5 := Tryz.sizeOf5
  v5 := Tryz.zeroValue5
  t9 := Tryz.underlying9
  a9 := Tryz.isAgg9
  z9 := Tryz.sizeOf9
  v9 := Tryz.zeroValue9
  t22 := Tryz.underlying108
  a22 := Tryz.isAgg108
  z22 := Tryz.sizeOf108
  v22 := Tryz.zeroValue108
  t25 := Tryz.underlying112
  a25 := Tryz.isAgg112
  z25 := Tryz.sizeOf112
  v25 := Tryz.zeroValue112
  t39 := Tryz.underlying92
  a39 := Tryz.isAgg92
  z39 := Tryz.sizeOf92
  v39 := Tryz.zeroValue92
  t45 := Tryz.underlying150
  a45 := Tryz.isAgg150
  z45 := Tryz.sizeOf150
  v45 := Tryz.zeroValue150
  t46 := Tryz.underlying151
  a46 := Tryz.isAgg151
  z46 := Tryz.sizeOf151
  v46 := Tryz.zeroValue151
  t50 := Tryz.underlying60
  a50 := Tryz.isAgg60
  z50 := Tryz.sizeOf60
  v50 := Tryz.zeroValue60
  t53 := Tryz.underlying157
  a53 := Tryz.isAgg157
  z53 := Tryz.sizeOf157
  v53 := Tryz.zeroValue157
  t55 := Tryz.underlying159
  a55 := Tryz.isAgg159
  z55 := Tryz.sizeOf159
  v55 := Tryz.zeroValue159
  t66 := Tryz.underlying180
  a66 := Tryz.isAgg180
  z66 := Tryz.sizeOf180
  v66 := Tryz.zeroValue180
  t70 := Tryz.underlying184
  a70 := Tryz.isAgg184
  z70 := Tryz.sizeOf184
  v70 := Tryz.zeroValue184
  t76 := Tryz.underlying207
  a76 := Tryz.isAgg207
  z76 := Tryz.sizeOf207
  v76 := Tryz.zeroValue207
  t77 := Tryz.underlying208
  a77 := Tryz.isAgg208
  z77 := Tryz.sizeOf208
  v77 := Tryz.zeroValue208 }
end Go.Proofs.YtngigmpaabmngaaGreatDoor

namespace Go.Proofs.YtngigmpaabmngaaGreatDoor
open Go.RowKit

/-- How many periods hold at t. -/
def cntP (ps : List (Int × Int)) (t : Int) : Nat := ps.countP fun p => pincl p.1 p.2 t
/-- Two periods are apart (they do not touch), or one lies in the other. -/
def LamP (p q : Int × Int) : Prop := p.2 < q.1 ∨ q.2 < p.1 ∨ (p.1 ≤ q.1 ∧ q.2 ≤ p.2) ∨ (q.1 ≤ p.1 ∧ p.2 ≤ q.2)
theorem LamP.symm {p q : Int × Int} (h : LamP p q) : LamP q p := by unfold LamP at *; omega
/-- M are the levels of ps. -/
structure LevOf (ps M : List (Int × Int)) : Prop where
  valid : ∀ p ∈ M, pvalid p.1 p.2 = true
  lam : M.Pairwise LamP
  cnt : ∀ t, cntP M t = cntP ps t
/-- The number of open levels that started by t. -/
def opn (open' : List Int) (t : Int) : Nat := open'.countP fun o => decide (o ≤ t)
theorem opn_all {l : List Int} {t : Int} (h : ∀ o ∈ l, o ≤ t) : opn l t = l.length := by unfold opn; rw [List.countP_eq_length]; intro o ho; simpa using h o ho
theorem cnt_none {l : List (Int × Int)} {t : Int} (h : ∀ p ∈ l, p.2 ≤ t) : cntP l t = 0 := by
  unfold cntP
  rw [List.countP_eq_zero]
  intro p hp hi
  have := (pincl_iff.1 hi).2.2
  have := h p hp
  omega
/-- What holds of the open levels and of the periods made so far, up to X. -/
structure LvI (c : Int → Nat) (X : Int) (open' : List Int) (out : List (Int × Int)) : Prop where
  lam : out.Pairwise LamP
  val : ∀ p ∈ out, pvalid p.1 p.2 = true ∧ p.2 ≤ X
  bnd : ∀ o ∈ open', 0 ≤ o ∧ o ≤ X
  srt : open'.Pairwise (· ≤ ·)
  rel : ∀ p ∈ out, ∀ o ∈ open', p.2 < o ∨ o ≤ p.1
  cnt : ∀ t, t < X → cntP out t + opn open' t = c t
theorem LvI.start {c : Int → Nat} (h : ∀ t, t < 0 → c t = 0) : LvI c (-1) [] [] :=
  ⟨.nil, by simp, by simp, .nil, by simp, fun t ht => by rw [h t (by omega)]; rfl⟩
theorem LvI.raise {c : Int → Nat} {X Y : Int} {open' : List Int} {out : List (Int × Int)} (h : LvI c X open' out) (hXY : X < Y) (hc : ∀ t, X ≤ t → t < Y → c t = open'.length) :
    LvI c Y open' out ∧ (∀ o ∈ open', o < Y) ∧ ∀ p ∈ out, p.2 < Y := by
  refine ⟨⟨h.lam, fun p hp => ⟨(h.val p hp).1, by have := (h.val p hp).2; omega⟩, fun o ho => ⟨(h.bnd o ho).1, by have := (h.bnd o ho).2; omega⟩, h.srt, h.rel, fun t ht => ?_⟩, fun o ho => by have := (h.bnd o ho).2; omega, fun p hp => by have := (h.val p hp).2; omega⟩
  by_cases h1 : t < X
  · exact h.cnt t h1
  · rw [cnt_none (fun p hp => by have := (h.val p hp).2; omega), opn_all (fun o ho => by have := (h.bnd o ho).2; omega), hc t (by omega) ht, Nat.zero_add]
theorem LvI.pop {c : Int → Nat} {X o : Int} {open' : List Int} {out : List (Int × Int)} (h : LvI c X (open' ++ [o]) out) (ho : o < X) (hX : X ≤ 1099511627776) : LvI c X open' (out ++ [(o, X)]) := by
  have ho0 := (h.bnd o (by simp)).1
  have hv : pvalid o X = true := pvalid_iff.2 ⟨ho0, ho, hX⟩
  refine ⟨?_, ?_, fun x hx => h.bnd x (by simp [hx]), (List.pairwise_append.1 h.srt).1, ?_, fun t ht => ?_⟩
  · rw [List.pairwise_append]
    refine ⟨h.lam, by simp, fun p hp q hq => ?_⟩
    simp at hq
    subst hq
    have h1 := (h.val p hp).2
    have h2 := h.rel p hp o (by simp)
    unfold LamP
    dsimp only
    omega
  · intro p hp
    rw [List.mem_append] at hp
    rcases hp with hp | hp
    · exact h.val p hp
    · simp at hp; subst hp; exact ⟨hv, Int.le_refl _⟩
  · intro p hp x hx
    rw [List.mem_append] at hp
    rcases hp with hp | hp
    · exact h.rel p hp x (by simp [hx])
    · simp at hp
      subst hp
      exact .inr ((List.pairwise_append.1 h.srt).2.2 x hx o (by simp))
  · have h1 := h.cnt t ht
    unfold cntP opn at h1 ⊢
    rw [List.countP_append] at h1 ⊢
    have e : List.countP (fun p : Int × Int => pincl p.1 p.2 t) [(o, X)] = List.countP (fun o => decide (o ≤ t)) [o] := by
      rw [List.countP_singleton, List.countP_singleton]
      dsimp only
      have : pincl o X t = decide (o ≤ t) := by
        rw [Bool.eq_iff_iff, pincl_iff, decide_eq_true_eq]
        exact ⟨fun h => h.2.1, fun h => ⟨hv, h, ht⟩⟩
      rw [this]
    omega
theorem LvI.push {c : Int → Nat} {X : Int} {open' : List Int} {out : List (Int × Int)} (h : LvI c X open' out) (h0 : 0 ≤ X) (hp : ∀ p ∈ out, p.2 < X) : LvI c X (open' ++ [X]) out := by
  refine ⟨h.lam, h.val, fun o ho => ?_, ?_, fun p hp' o ho => ?_, fun t ht => ?_⟩
  · rw [List.mem_append] at ho
    rcases ho with ho | ho
    · exact h.bnd o ho
    · simp at ho; subst ho; exact ⟨h0, Int.le_refl _⟩
  · rw [List.pairwise_append]
    refine ⟨h.srt, by simp, fun a ha b hb => ?_⟩
    simp at hb
    subst hb
    exact (h.bnd a ha).2
  · rw [List.mem_append] at ho
    rcases ho with ho | ho
    · exact h.rel p hp' o ho
    · simp at ho; subst ho; exact .inl (hp p hp')
  · have h1 := h.cnt t ht
    unfold opn at h1 ⊢
    rw [List.countP_append, List.countP_singleton]
    have : decide (X ≤ t) = false := by simp; omega
    rw [this]
    simpa using h1

/-- The events of some periods: a start counts 1, an end -1. -/
def evsOf (ps : List (Int × Int)) : List (Int × Int) := ps.flatMap fun p => [(p.1, 1), (p.2, -1)]
def sumE (es : List (Int × Int)) : Int := (es.map (·.2)).sum
theorem sumE_append (a b : List (Int × Int)) : sumE (a ++ b) = sumE a + sumE b := by unfold sumE; rw [List.map_append, List.sum_append]
theorem sumE_cons (x : Int × Int) (b : List (Int × Int)) : sumE (x :: b) = x.2 + sumE b := rfl
theorem sumE_perm {a b : List (Int × Int)} (h : a.Perm b) : sumE a = sumE b := by
  induction h with
  | nil => rfl
  | cons x _ ih => rw [sumE_cons, sumE_cons, ih]
  | swap x y l => rw [sumE_cons, sumE_cons, sumE_cons, sumE_cons]; omega
  | trans _ _ ih1 ih2 => rw [ih1, ih2]
theorem sumE_upto (ps : List (Int × Int)) (hv : ∀ p ∈ ps, pvalid p.1 p.2 = true) (t : Int) : sumE ((evsOf ps).filter fun e => decide (e.1 ≤ t)) = cntP ps t := by
  induction ps with
  | nil => rfl
  | cons p ps ih =>
    have h1 := ih fun x hx => hv x (.tail _ hx)
    have h2 := hv p (.head _)
    obtain ⟨_, h3, _⟩ := pvalid_iff.1 h2
    have e : evsOf (p :: ps) = (p.1, 1) :: (p.2, -1) :: evsOf ps := rfl
    have ec : cntP (p :: ps) t = cntP ps t + if pincl p.1 p.2 t = true then 1 else 0 := by unfold cntP; rw [List.countP_cons]
    rw [e, ec, List.filter_cons, List.filter_cons]
    dsimp only
    by_cases hi : pincl p.1 p.2 t = true
    · obtain ⟨_, h4, h5⟩ := pincl_iff.1 hi
      rw [if_pos hi, if_pos (by simpa using h4), if_neg (by simp; omega), sumE_cons, h1]
      dsimp only
      omega
    · have h6 : ¬ (p.1 ≤ t ∧ t < p.2) := fun h => hi (pincl_iff.2 ⟨h2, h⟩)
      rw [if_neg hi]
      by_cases h7 : p.1 ≤ t
      · rw [if_pos (by simpa using h7), if_pos (by simp; omega), sumE_cons, sumE_cons, h1]
        dsimp only
        omega
      · rw [if_neg (by simpa using h7), if_neg (by simp; omega), h1]
        omega
theorem sumE_all (ps : List (Int × Int)) : sumE (evsOf ps) = 0 := by
  induction ps with
  | nil => rfl
  | cons p ps ih => show sumE ((p.1, 1) :: (p.2, -1) :: evsOf ps) = 0; rw [sumE_cons, sumE_cons, ih]; rfl
/-- The sum of the events up to a place that parts them from the later ones. -/
theorem sumE_cut {ps es a b : List (Int × Int)} (hp : es.Perm (evsOf ps)) (hv : ∀ p ∈ ps, pvalid p.1 p.2 = true) (e : es = a ++ b) {t : Int} (ha : ∀ x ∈ a, x.1 ≤ t) (hb : ∀ x ∈ b, t < x.1) : sumE a = cntP ps t := by
  rw [← sumE_upto ps hv t, ← sumE_perm (hp.filter _), e, List.filter_append, List.filter_eq_self.2 (fun x hx => by simpa using ha x hx), List.filter_eq_nil_iff.2 (fun x hx => by have := hb x hx; simp; omega), List.append_nil]
theorem evs_range {ps : List (Int × Int)} (hv : ∀ p ∈ ps, pvalid p.1 p.2 = true) : ∀ e ∈ evsOf ps, 0 ≤ e.1 ∧ e.1 ≤ 1099511627776 ∧ (e.2 = 1 ∨ e.2 = -1) := by
  intro e he
  unfold evsOf at he
  rw [List.mem_flatMap] at he
  obtain ⟨p, hp, he⟩ := he
  obtain ⟨h1, h2, h3⟩ := pvalid_iff.1 (hv p hp)
  simp at he
  rcases he with rfl | rfl
  · exact ⟨h1, by dsimp only; omega, .inl rfl⟩
  · exact ⟨by dsimp only; omega, h3, .inr rfl⟩
theorem cnt_below {ps : List (Int × Int)} (hv : ∀ p ∈ ps, pvalid p.1 p.2 = true) {t : Int} (ht : t < 0) : cntP ps t = 0 := by
  unfold cntP
  rw [List.countP_eq_zero]
  intro p hp hi
  have := (pincl_iff.1 hi).2.1
  have := (pvalid_iff.1 (hv p hp)).1
  omega
theorem evs_length (ps : List (Int × Int)) : (evsOf ps).length = 2 * ps.length := by
  induction ps with
  | nil => rfl
  | cons p ps ih => show ((p.1, 1) :: (p.2, -1) :: evsOf ps).length = _; rw [List.length_cons, List.length_cons, ih, List.length_cons]; omega
/-- The end: nothing is open any more, and what was made are the levels. -/
theorem LvI.done {ps es open' out : List _} {X : Int} (h : LvI (cntP ps) X open' out) (hp : es.Perm (evsOf ps)) (hv : ∀ p ∈ ps, pvalid p.1 p.2 = true) (hX : ∀ e ∈ es, e.1 ≤ X) (hs : (open'.length : Int) = sumE es) : LevOf ps out := by
  have h0 : open'.length = 0 := by rw [sumE_perm hp, sumE_all] at hs; omega
  have h1 := List.eq_nil_of_length_eq_zero h0
  subst h1
  refine ⟨fun p hp => (h.val p hp).1, h.lam, fun t => ?_⟩
  by_cases ht : t < X
  · have := h.cnt t ht
    simpa [opn] using this
  · rw [cnt_none (fun p hp => by have := (h.val p hp).2; omega)]
    have := sumE_cut (a := es) (b := []) hp hv (by simp) (t := t) (fun x hx => by have := hX x hx; omega) (by simp)
    rw [sumE_perm hp, sumE_all] at this
    omega
/-- The levels of a row's periods, as tuples of that row. -/
theorem lev_rows {ps M : List (Int × Int)} (h : LevOf ps M) (r : GRow) : Lev (M.map fun p => (⟨r.vals, p.1, p.2, r.lin⟩ : Tup)) ∧ ∀ t, atDay (M.map fun p => (⟨r.vals, p.1, p.2, r.lin⟩ : Tup)) t = List.replicate (cntP ps t) r := by
  refine ⟨⟨fun x hx => ?_, ?_⟩, fun t => ?_⟩
  · obtain ⟨p, hp, rfl⟩ := List.mem_map.1 hx
    exact h.valid p hp
  · rw [List.pairwise_map]
    exact h.lam.imp (fun {a b} (h : LamP a b) => fun _ => h)
  · rw [← h.cnt t]
    clear h
    induction M with
    | nil => rfl
    | cons p M ih =>
      have ec : cntP (p :: M) t = cntP M t + if pincl p.1 p.2 t = true then 1 else 0 := by unfold cntP; rw [List.countP_cons]
      rw [List.map_cons, atDay_cons, ih, ec]
      dsimp only
      split
      · rw [List.replicate_succ]; rfl
      · rfl
/-- What holds between two groups of events: k of them are done, up to X. -/
structure LvS (ps es : List (Int × Int)) (k : Nat) (X : Int) (ol : List Int) (M : List (Int × Int)) : Prop where
  inv : LvI (cntP ps) X ol M
  depth : (ol.length : Int) = sumE (es.take k)
  old : ∀ e ∈ es.take k, e.1 ≤ X
  new : ∀ e ∈ es.drop k, X < e.1
  size : 2 * M.length + ol.length ≤ k
/-- The sorted events of some periods. -/
structure EvOf (ps es : List (Int × Int)) : Prop where
  valid : ∀ p ∈ ps, pvalid p.1 p.2 = true
  perm : es.Perm (evsOf ps)
  sorted : es.Pairwise fun x y => x.1 ≤ y.1
theorem EvOf.range {ps es : List (Int × Int)} (h : EvOf ps es) : ∀ e ∈ es, 0 ≤ e.1 ∧ e.1 ≤ 1099511627776 ∧ (e.2 = 1 ∨ e.2 = -1) := fun e he => evs_range h.valid e (h.perm.mem_iff.1 he)
theorem LvS.start {ps es : List (Int × Int)} (h : EvOf ps es) : LvS ps es 0 (-1) [] [] :=
  ⟨LvI.start fun _ ht => cnt_below h.valid ht, rfl, by simp, fun e he => by have := (h.range e (by simpa using he)).1; omega, Nat.le_refl _⟩
theorem sumE_bound {es : List (Int × Int)} (h : ∀ e ∈ es, e.2 = 1 ∨ e.2 = -1) : -(es.length : Int) ≤ sumE es ∧ sumE es ≤ es.length := by
  induction es with
  | nil => exact ⟨Int.le_refl _, Int.le_refl _⟩
  | cons x es ih =>
    have := ih fun e he => h e (.tail _ he)
    have := h x (.head _)
    rw [sumE_cons, List.length_cons]
    omega
theorem sumE_take {ps es : List (Int × Int)} (h : EvOf ps es) (j : Nat) : -(es.length : Int) ≤ sumE (es.take j) ∧ sumE (es.take j) ≤ es.length := by
  have h1 := sumE_bound (es := es.take j) fun e he => (h.range e (List.mem_of_mem_take he)).2.2
  have h2 : (es.take j).length ≤ es.length := by rw [List.length_take]; omega
  omega
theorem sumE_step {es : List (Int × Int)} {j : Nat} {x : Int × Int} (hx : es[j]? = some x) : sumE (es.take (j + 1)) = sumE (es.take j) + x.2 := by
  rw [take_get hx, sumE_append, sumE_cons]
  show _ + (x.2 + 0) = _
  omega
/-- A group of events at one place: from the k-th to the j-th. -/
structure LvG (ps es : List (Int × Int)) (k j : Nat) (A : Int) : Prop where
  le : k ≤ j
  at' : ∀ i e, k ≤ i → i < j → es[i]? = some e → e.1 = A
theorem LvG.start (ps es : List (Int × Int)) (k : Nat) (A : Int) : LvG ps es k k A := ⟨Nat.le_refl _, fun i e h1 h2 => by omega⟩
theorem LvG.more {ps es : List (Int × Int)} {k j : Nat} {A : Int} (h : LvG ps es k j A) {x : Int × Int} (hx : es[j]? = some x) (hA : x.1 = A) : LvG ps es k (j + 1) A :=
  ⟨by have := h.le; omega, fun i e h1 h2 he => by
    by_cases hi : i < j
    · exact h.at' i e h1 hi he
    · have : i = j := by omega
      subst this
      rw [hx] at he
      cases he
      exact hA⟩
theorem LvG.first {ps es : List (Int × Int)} {k j : Nat} {A : Int} (h : LvG ps es k j A) {x : Int × Int} (hx : es[k]? = some x) (hA : x.1 = A) (hne : ∀ y, es[j]? = some y → y.1 ≠ A) (hk : k < es.length) : k < j := by
  rcases Nat.lt_or_ge k j with h1 | h1
  · exact h1
  · have := h.le
    have e : j = k := by omega
    subst e
    exact absurd hA (hne x hx)
/-- The end of a group. -/
theorem LvS.group {ps es : List (Int × Int)} (h : EvOf ps es) {k j : Nat} {X A : Int} {ol : List Int} {M : List (Int × Int)} (hs : LvS ps es k X ol M) (hg : LvG ps es k j A) {x : Int × Int} (hx : es[k]? = some x) (hA : x.1 = A) (hj : j ≤ es.length) (hne : ∀ y, es[j]? = some y → y.1 ≠ A) :
    LvI (cntP ps) A ol M ∧ (∀ o ∈ ol, o < A) ∧ (∀ p ∈ M, p.2 < A) ∧ sumE (es.take j) = cntP ps A ∧ (∀ e ∈ es.take j, e.1 ≤ A) ∧ (∀ e ∈ es.drop j, A < e.1) ∧ 2 * (M.length : Int) + cntP ps A ≤ j ∧ 2 * (M.length : Int) + 2 * ol.length ≤ j + cntP ps A ∧ 0 ≤ A ∧ A ≤ 1099511627776 ∧ k < j := by
  have hk : k < es.length := (List.getElem?_eq_some_iff.1 hx).1
  have hkj := hg.first hx hA hne hk
  have hr := h.range x (List.mem_of_getElem? hx)
  have hsrt := List.pairwise_iff_getElem.1 h.sorted
  obtain ⟨hk', hxe⟩ := List.getElem?_eq_some_iff.1 hx
  have hdk : ∀ e ∈ es.drop k, A ≤ e.1 := fun e he => by
    obtain ⟨i, hi, rfl⟩ := List.getElem_of_mem he
    rw [List.getElem_drop, ← hA, ← hxe]
    have hi' : k + i < es.length := by rw [List.length_drop] at hi; omega
    rcases Nat.eq_zero_or_pos i with h0 | h0
    · subst h0; exact Int.le_refl _
    · exact hsrt k (k + i) hk' hi' (by omega)
  have hXA : X < A := by rw [← hA]; exact hs.new x (by rw [drop_get hx]; exact .head _)
  obtain ⟨h1, h2, h3⟩ := hs.inv.raise hXA fun t ht1 ht2 => by
    have h4 := sumE_cut h.perm h.valid (List.take_append_drop k es).symm (t := t) (fun e he => by have := hs.old e he; omega) (fun e he => by have := hdk e he; omega)
    have h5 := hs.depth
    omega
  have hold : ∀ e ∈ es.take j, e.1 ≤ A := fun e he => by
    obtain ⟨i, hi, rfl⟩ := List.getElem_of_mem he
    rw [List.getElem_take]
    have hi' : i < j ∧ i < es.length := by rw [List.length_take] at hi; omega
    by_cases hik : i < k
    · have := hs.old es[i] (by rw [List.mem_take_iff_getElem]; exact ⟨i, by omega, rfl⟩)
      omega
    · have := hg.at' i _ (by omega) hi'.1 (List.getElem?_eq_getElem hi'.2)
      omega
  have hnew : ∀ e ∈ es.drop j, A < e.1 := fun e he => by
    obtain ⟨i, hi, rfl⟩ := List.getElem_of_mem he
    rw [List.getElem_drop]
    have hi' : j + i < es.length := by rw [List.length_drop] at hi; omega
    have hj' : j < es.length := by omega
    have hjA := hne _ (List.getElem?_eq_getElem hj')
    have hjk := hsrt k j hk' hj' hkj
    rw [hxe, hA] at hjk
    rcases Nat.eq_zero_or_pos i with h0 | h0
    · subst h0; show A < es[j].1; omega
    · have := hsrt j (j + i) hj' hi' (by omega); omega
  have hsum := sumE_cut h.perm h.valid (List.take_append_drop j es).symm hold hnew
  have hdiff : -((j - k : Nat) : Int) ≤ sumE (es.take j) - sumE (es.take k) ∧ sumE (es.take j) - sumE (es.take k) ≤ (j - k : Nat) := by
    have e : es.take j = es.take k ++ (es.take j).drop k := by
      have := List.take_append_drop k (es.take j)
      rw [List.take_take, Nat.min_eq_left hg.le] at this
      exact this.symm
    have hb := sumE_bound (es := (es.take j).drop k) fun e he => (h.range e (List.mem_of_mem_take (List.mem_of_mem_drop he))).2.2
    rw [e, sumE_append]
    have hl : ((es.take j).drop k).length ≤ j - k := by rw [List.length_drop, List.length_take]; omega
    omega
  have hd := hs.depth
  have hz := hs.size
  refine ⟨h1, h2, h3, hsum, hold, hnew, ?_, ?_, by omega, by omega, hkj⟩ <;> omega
theorem LvS.next {ps es : List (Int × Int)} {j d : Nat} {A : Int} {ol : List Int} {M : List (Int × Int)} (hi : LvI (cntP ps) A ol M) (hs : sumE (es.take j) = d) (ho : ∀ e ∈ es.take j, e.1 ≤ A) (hn : ∀ e ∈ es.drop j, A < e.1) (hl : ol.length = d) (hz : 2 * (M.length : Int) + d ≤ j) : LvS ps es j A ol M :=
  ⟨hi, by rw [hs, hl], ho, hn, by omega⟩
theorem LvS.done {ps es : List (Int × Int)} (h : EvOf ps es) {k : Nat} {X : Int} {ol : List Int} {M : List (Int × Int)} (hs : LvS ps es k X ol M) (hk : k = es.length) : LevOf ps M ∧ M.length ≤ ps.length := by
  subst hk
  have e : es.take es.length = es := List.take_of_length_le (Nat.le_refl _)
  refine ⟨hs.inv.done h.perm h.valid (fun x hx => hs.old x (by rw [e]; exact hx)) (by have := hs.depth; rw [e] at this; exact this), ?_⟩
  have h1 := hs.size
  have h2 := h.perm.length_eq
  rw [evs_length] at h2
  omega
end Go.Proofs.YtngigmpaabmngaaGreatDoor

namespace Go.Proofs.YtngigmpaabmngaaGreatDoor
open Go.RowKit Go.Lib Go.Shelf Go.Sort

section
variable {P : Program} {α : Type}
theorem Own.shrink {E : El P α} {w : World} {B g n c k : Nat} {l : List α} (h : Own E w B (.slice (some ⟨g, 0, none⟩) n c) l) (hn : l.length = n) (hk : k ≤ n) : Own E w B (.slice (some ⟨g, 0, none⟩) k c) (l.take k) := by
  obtain ⟨xs, ⟨h0, h1⟩, h2⟩ := h
  subst hn
  rcases h1 with ⟨h1, _⟩ | ⟨g', cap, cur, e, hg, hh, hc, hm, hs, ht⟩
  · cases h1
  cases e
  have hlk : (l.take k).length = k := by rw [List.length_take]; omega
  have hle : k * E.size ≤ l.length * E.size := Nat.mul_le_mul_right _ hk
  refine ⟨xs.take (k * E.size), ⟨by rw [List.length_take, h0, hlk]; omega, .inr ⟨g, c, cur, by rw [hlk], hg, hh, by rw [hlk]; omega, hm, hs, by rw [hlk, ← ht, List.take_take, Nat.min_eq_left hle]⟩⟩, fun i x hx => ?_⟩
  rw [List.getElem?_take] at hx
  split at hx
  · rename_i hik
    have hle2 : (i + 1) * E.size ≤ k * E.size := Nat.mul_le_mul_right _ hik
    rw [Nat.add_mul, Nat.one_mul] at hle2
    have := h2 i x hx
    rw [List.drop_take, List.take_take, Nat.min_eq_left (by omega)]
    exact this
  · cases hx
end
theorem per_info : (Tryz.prog.info? 50).map (fun i => (i.zero, i.size, i.bytes)) = some (some (.agg #[.int .i64 0, .int .i64 0]), 2, 16) := by kernel_rfl
theorem ev_info : (Tryz.prog.info? 110).map (fun i => (i.zero, i.size, i.bytes)) = some (some (.agg #[.int .i64 0, .int .i64 0]), 2, 16) := by kernel_rfl
/-- Periods. -/
def perE : El Tryz.prog (Int × Int) := El.flat 50 2 16 (by decide) (info_mk per_info rfl) (fun x => [.int .i64 x.1, .int .i64 x.2]) (fun _ => rfl) (by intro x u hu; simp at hu; rcases hu with rfl | rfl <;> rfl)
/-- Events. -/
def evE : El Tryz.prog (Int × Int) := El.flat 110 2 16 (by decide) (info_mk ev_info rfl) (fun x => [.int .i64 x.1, .int .i64 x.2]) (fun _ => rfl) (by intro x u hu; simp at hu; rcases hu with rfl | rfl <;> rfl)
theorem pers_at {w : World} {G : Nat → Prop} {a : Option Addr} {n c k : Nat} {l : List (Int × Int)} {x : Int × Int} (h : Sl perE w G (.slice a n c) l) (hk : l[k]? = some x) :
    ∃ b o, a = some ⟨b, o, none⟩ ∧ w.cell? ⟨b, o + k * 2, none⟩ = some (.int .i64 x.1) ∧ w.cell? ⟨b, o + k * 2 + 1, none⟩ = some (.int .i64 x.2) := by
  obtain ⟨b, o, cs, ha, rfl, hc⟩ := Sl.at h hk
  exact ⟨b, o, ha, hc 0 _ rfl, hc 1 _ rfl⟩
theorem evs_at {w : World} {B g n c k : Nat} {l : List (Int × Int)} {x : Int × Int} (h : Own evE w B (.slice (some ⟨g, 0, none⟩) n c) l) (hk : l[k]? = some x) :
    w.cell? ⟨g, k * 2, none⟩ = some (.int .i64 x.1) ∧ w.cell? ⟨g, k * 2 + 1, none⟩ = some (.int .i64 x.2) := by
  obtain ⟨cs, rfl, hc⟩ := Own.at h hk
  exact ⟨hc 0 _ rfl, hc 1 _ rfl⟩
theorem box_two' {w : World} {g : Nat} {x y : Value} {e : TypeId} (h : w.heap[g]? = some (.cells #[x, y] e (0, 0))) : w.cell? ⟨g, 0, none⟩ = some x ∧ w.cell? ⟨g, 1, none⟩ = some y := by
  constructor <;> simp [World.cell?, h]
set_option maxHeartbeats 1000000 in
theorem evCmp_g (a b : Int × Int) (w : World) : Calls Tryz.prog 81 #[.agg #[.int .i64 a.1, .int .i64 a.2], .agg #[.int .i64 b.1, .int .i64 b.2]] w fun e w' => e = .returned (.int .i64 (cmpI a.1 b.1)) ∧ Grew w w' := by
  obtain ⟨a1, a2⟩ := a
  obtain ⟨b1, b2⟩ := b
  dsimp only
  have HC := fun W => Lib.hid (cmpInt_any a1 b1 W)
  generalize cmpI a1 b1 = r at HC ⊢
  have hB0 := grew_alloc2 w (.cells #[.int .i64 a1, .int .i64 a2] 110) (.cells #[.int .i64 b1, .int .i64 b2] 110)
  obtain ⟨d0, d1⟩ := box_two' (heap_alloc_old' w (.cells #[.int .i64 a1, .int .i64 a2] 110) (.cells #[.int .i64 b1, .int .i64 b2] 110))
  obtain ⟨e0, e1⟩ := box_two' (heap_alloc_new' w (.cells #[.int .i64 a1, .int .i64 a2] 110) (.cells #[.int .i64 b1, .int .i64 b2] 110))
  have HB := Lib.hid hB0
  clear hB0
  go_enter Tryz.func81, Tryz.ntmps81
  go_wp2_with fail
  refine (HC _).out.mono ?_
  rintro _ w2 ⟨rfl, rfl⟩
  go_wp2_with fail
  go_ret
  exact ⟨rfl, HB.out⟩
theorem swo_ev {β : Type} (f : β → Int × Int) : SWO (ltOf fun x y : β => cmpI (f x).1 (f y).1) where
  irrefl x := by
    show decide (cmpI (f x).1 (f x).1 < 0) = false
    rw [cmpI_zero.2 rfl]
    rfl
  trans x y z h1 h2 := by
    have h := sgn_int (f x).1 (f y).1 (f z).1
    have h1' : decide (cmpI (f x).1 (f y).1 < 0) = true := h1
    have h2' : decide (cmpI (f y).1 (f z).1 < 0) = true := h2
    show decide (cmpI (f x).1 (f z).1 < 0) = true
    unfold Sgn3 at h
    rw [decide_eq_true_eq] at h1' h2' ⊢
    omega
  ntrans x y z h1 h2 := by
    have h := sgn_int (f z).1 (f y).1 (f x).1
    rw [cmpI_swap (f y).1 (f z).1, cmpI_swap (f x).1 (f y).1, cmpI_swap (f x).1 (f z).1] at h
    have h1' : decide (cmpI (f x).1 (f y).1 < 0) = false := h1
    have h2' : decide (cmpI (f y).1 (f z).1 < 0) = false := h2
    show decide (cmpI (f x).1 (f z).1 < 0) = false
    unfold Sgn3 at h
    rw [decide_eq_false_iff_not] at h1' h2' ⊢
    omega
theorem cmpI_lt {a b : Int} : cmpI a b < 0 ↔ a < b := by unfold cmpI; split <;> (try split) <;> omega
theorem sortEvs_any (v : Value) (l : List (Int × Int)) (B : Nat) (w : World) (hO : Own evE w B v l) (hl : l.length ≤ 1000000) :
    Calls Tryz.prog 80 #[v, .func (.func 81) #[] #[]] w fun e w' => e = .returned (.tuple #[]) ∧ ∃ l' : List (Int × Int), l'.Perm l ∧ l'.Pairwise (fun x y => x.1 ≤ y.1) ∧ Own evE w' B v l' ∧ Kept (fun k => some k = v.ownBlock) w w' ∧ RowKit.Below B w w' := by
  rcases Nat.eq_zero_or_pos l.length with h0 | hpos
  · have hl0 : l = [] := List.eq_nil_of_length_eq_zero h0
    subst hl0
    obtain ⟨a, c, rfl⟩ := hO.shape
    refine (AnyF.slices_SortFunc_none sh_sortEvs a c _ w).mono ?_
    rintro _ w' ⟨rfl, rfl⟩
    exact ⟨rfl, [], .refl _, .nil, hO, ⟨Nat.le_refl _, fun _ _ _ => rfl⟩, .refl _ _⟩
  · obtain ⟨g, c, rfl⟩ := Own.shape_lt hO hpos
    have hgl := (hO.lt g rfl).2
    refine (own_sorted (fun x y => cmpI x.1 y.1) hO rfl hpos fun d hd hH hK => ?_).mono ?_
    · have eg : ∀ args w, (callFunc 81 args).run Tryz.prog w = .ok (.enter 81 args) w := enters_of Tryz.func81 (by kernel_rfl) rfl
      have hcmp : CmpLays Tryz.prog 81 #[] (Cel.cells (E := evE) (w := w) (g := g)) 2 (fun x y => cmpI x.val.1 y.val.1) g 0 d.size w := fun m os dk hdk x y => by
        have e1 : x.cells = [.int .i64 x.val.1, .int .i64 x.val.2] := x.is
        have e2 : y.cells = [.int .i64 y.val.1, .int .i64 y.val.2] := y.is
        rw [e1, e2]
        exact evCmp_g x.val y.val _
      have := AnyQ.slices_SortFunc sh_sortEvs 2 (fun w => Tryz.isAgg110 w) (fun w => Tryz.sizeOf110 w) (Cel.cells (E := evE) (w := w) (g := g)) Cel.len Cel.one (fun x y => cmpI x.val.1 y.val.1) (swo_ev Cel.val) 81 #[] g 0 c d w eg hcmp hH hgl (by omega)
      have e : Value.slice (some ⟨g, 0, none⟩) d.size c = .slice (some ⟨g, 0, none⟩) l.length c := by rw [hd]
      rw [e] at this
      exact this
    · rintro _ w' ⟨rfl, l', hp, hs, hO', hk, hb⟩
      refine ⟨rfl, l', hp, hs.imp (by intro x y h; rw [cmpI_lt] at h; omega), hO', ?_, hb⟩
      refine ⟨hk.1, fun k hk1 hk2 => hk.2 k hk1 (fun e => hk2 ?_)⟩
      cases e; rfl
end Go.Proofs.YtngigmpaabmngaaGreatDoor

namespace Go.Proofs.YtngigmpaabmngaaGreatDoor
open Go.RowKit Go.Lib

section
variable {P : Program} {α β : Type}
/-- Elements that lead nowhere. -/
def El.Flat (E : El P α) : Prop := ∀ {w w' : World} {G G' : Nat → Prop} {x : α} {cs : List Value}, E.is w G x cs → E.is w' G' x cs
/-- Two rows lie in two blocks. -/
def Apart (v u : Value) : Prop := ∀ k, v.ownBlock = some k → u.ownBlock ≠ some k
theorem Apart.symm {v u : Value} (h : Apart v u) : Apart u v := fun k hk e => h k e hk
theorem Own.kept_flat {E : El P α} (hF : E.Flat) {w w' : World} {G : Nat → Prop} {B : Nat} {v : Value} {l : List α} (h : Own E w B v l) (hk : Kept G w w') (hG : ∀ k, v.ownBlock = some k → ¬ G k) : Own E w' B v l := by
  obtain ⟨xs, ⟨h0, h1⟩, h2⟩ := h
  refine ⟨xs, ⟨h0, ?_⟩, fun i x hx => hF (h2 i x hx)⟩
  rcases h1 with h1 | ⟨g, cap, cur, e, hg, hh, r⟩
  · exact .inl h1
  · exact .inr ⟨g, cap, cur, e, hg, by rw [hk.2 g (Array.getElem?_eq_some_iff.1 hh).1 (hG g (by rw [e]; rfl))]; exact hh, r⟩
theorem Pushed.apart {E : El P α} {B : Nat} {w0 w' : World} {v u : Value} {l : List α} {g cap n : Nat} (h : Pushed E B w0 w' v l g cap) (ha : Apart v u) (hu : ∀ k, u.ownBlock = some k → k < w0.heap.size) : Apart (.slice (some ⟨g, 0, none⟩) n cap) u := by
  intro k hk e
  have hk' : some g = some k := hk
  cases hk'
  rcases h.place with h1 | h1
  · exact ha g h1 e
  · have := hu g e; omega
theorem Pushed.keep {E : El P α} {F : El P β} (hF : F.Flat) {B B' : Nat} {w0 w' : World} {v u : Value} {l : List α} {m : List β} {g cap : Nat} (h : Pushed E B w0 w' v l g cap) (ha : Apart v u) (hO : Own F w0 B' u m) : Own F w' B' u m :=
  hO.kept_flat hF h.kept fun k hk e => ha k e.symm hk
end
theorem perE_flat : perE.Flat (P := Tryz.prog) := fun h => h
theorem evE_flat : evE.Flat (P := Tryz.prog) := fun h => h
theorem intE_flat : intE.Flat (P := Tryz.prog) := fun h => h
def slLen : Value → Nat
  | .slice _ n _ => n
  | _ => 0
theorem apart_none (u : Value) : Apart (.slice none 0 0) u := fun k hk => by cases hk
theorem evsOf_snoc (l : List (Int × Int)) (x : Int × Int) : evsOf (l ++ [x]) = evsOf l ++ [(x.1, 1), (x.2, -1)] := by unfold evsOf; rw [List.flatMap_append]; rfl
set_option maxHeartbeats 8000000 in
set_option maxRecDepth 100000 in
theorem levels_any (v : Value) (ps : List (Int × Int)) (w : World) (hv : Sl perE w free v ps) (hl : ps.length ≤ 100000) (hval : ∀ p ∈ ps, pvalid p.1 p.2 = true) :
    Calls Tryz.prog 41 #[v] w fun e w' => ∃ M, LevOf ps M ∧ M.length ≤ ps.length ∧ RetOwn perE w M e w' := by
  obtain ⟨a, c, rfl⟩ := hv.shape
  have HV := Lib.hid hv
  have HVAL := Lib.hid hval
  obtain ⟨n, hn⟩ : ∃ n, n = ps.length := ⟨_, rfl⟩
  have HN := Lib.hid hn
  rw [← hn] at hl HV ⊢
  clear hv hval hn
  go_enter Tryz.func41, Tryz.ntmps41
  go_wp2_with fail
  go_loopw [13, 3] (fun i o wr => ∃ k : Nat, k ≤ n ∧ i = .int .i64 k ∧ Own evE wr w.heap.size o (evsOf (ps.take k)) ∧ Hid (Below w.heap.size w wr)) (fun i _ _ => n - (RowKit.intOf i).toNat)
  case atStart => exact ⟨0, Nat.zero_le _, rfl, Own.nil _ _ _, Lib.hid (.refl _ _)⟩
  case round =>
    obtain ⟨k, hk, rfl, hO, HB⟩ := hrel
    obtain ⟨wo, rfl⟩ : ∃ wo : World, wo = wr := ⟨_, rfl⟩
    by_cases hlt : k < n
    · obtain ⟨x, hx⟩ := lget_some ps k (by rw [← HN.out]; exact hlt)
      obtain ⟨b, o, rfl, p0, p1⟩ := pers_at (HV.out.below HB.out) hx
      have HT : Hid (evsOf (ps.take (k + 1)) = evsOf (ps.take k) ++ [(x.1, 1), (x.2, -1)]) := by show _ = _; rw [take_get hx, evsOf_snoc]
      have hlk : (evsOf (ps.take k)).length = 2 * k := by rw [evs_length, List.length_take, ← HN.out, Nat.min_eq_left hk]
      obtain ⟨lk, hlke⟩ : ∃ lk, lk = evsOf (ps.take k) := ⟨_, rfl⟩
      rw [← hlke] at hO HT hlk
      obtain ⟨ao, co, rfl⟩ := hO.shape
      obtain ⟨x1, x2⟩ := x
      dsimp only at p0 p1 HT
      have HLK := Lib.hid hlk
      have HB1 : Hid (Below w.heap.size w (wo.alloc (.cells #[.int .i64 x1, .int .i64 x2] 50))) := Lib.hid (below_alloc_keep HB.out)
      have HO1 := Lib.hid (hO.below (below_alloc wo (.cells #[.int .i64 x1, .int .i64 x2] 50)))
      have HIS : Hid (Els evE (wo.alloc (.cells #[.int .i64 x1, .int .i64 x2] 50)) (fun j => some j = (Value.slice ao lk.length co).ownBlock) [(x1, 1), (x2, -1)] [.int .i64 x1, .int .i64 1, .int .i64 x2, .int .i64 (-1)]) := Lib.hid (Els.cons (cs := [.int .i64 x1, .int .i64 1]) rfl (Els.one (cs := [.int .i64 x2, .int .i64 (-1)]) rfl))
      clear hx hO hlk hlke
      go_wp2_with (at_builtin; go_loud (refine wpList_push rfl (.tmp 17) (.tmp 24) 108 rfl evE Tryz.underlying108 w.heap.size (.slice ao lk.length co) lk rfl HO1.out [(x1, 1), (x2, -1)] #[.int .i64 x1, .int .i64 1, .int .i64 x2, .int .i64 (-1)] HIS.out 2 2 rfl (congrArg (fun k => Value.slice (some ⟨k, 0, none⟩) 2 2) (World.size_alloc _ _).symm) (by decide) (by have := HLK.out; unfold maxLen; omega) (by have := HLK.out; show _ * 16 ≤ _; omega) HB1.out.size ?_); intro g cap w5 hP hPa)
      go_roundw
      case rel => exact ⟨k + 1, by omega, by go_num, by rw [HT.out]; exact hP.own' (by simp), Lib.hid (HB1.out.trans hP.below)⟩
      case measure => simp [RowKit.intOf]; omega
    · have hkk : ps.take k = ps := List.take_of_length_le (by rw [← HN.out]; omega)
      rw [hkk] at hO
      have hlen : (evsOf ps).length = 2 * n := by rw [evs_length, ← HN.out]
      have HSR := Lib.hid (sortEvs_any _ _ w.heap.size wo hO (by omega))
      obtain ⟨ae, ce, rfl⟩ := hO.shape
      rw [hlen] at HSR ⊢
      have HLEN := Lib.hid hlen
      clear hO hkk hlen
      go_wp2_with fail
      refine HSR.out.mono ?_
      rintro _ w2 ⟨rfl, es, hp, hs, hE, _, hb2⟩
      have HEV : Hid (EvOf ps es) := Lib.hid ⟨HVAL.out, hp, hs⟩
      have hel : es.length = 2 * n := by rw [hp.length_eq]; exact HLEN.out
      have HEL := Lib.hid hel
      have HB2 := Lib.hid (HB.out.trans hb2)
      have HE := Lib.hid hE
      clear hp hs hE hb2 hel HSR
      go_wp2_with fail
      go_loopw [8, 6, 7] (fun s8 s6 s7 wr => ∃ (k : Nat) (X : Int) (ol : List Int) (M : List (Int × Int)), k ≤ 2 * n ∧ s8 = .int .i64 k ∧ Hid (LvS ps es k X ol M) ∧ Own intE wr w.heap.size s6 ol ∧ Own perE wr w.heap.size s7 M ∧ Own evE wr w.heap.size (.slice ae (2 * n) ce) es ∧ Apart (.slice ae (2 * n) ce) s6 ∧ Apart (.slice ae (2 * n) ce) s7 ∧ Apart s6 s7 ∧ Hid (Below w.heap.size w wr)) (fun i _ _ _ => 2 * n - (RowKit.intOf i).toNat)
      case atStart => exact ⟨0, -1, [], [], Nat.zero_le _, rfl, Lib.hid (LvS.start HEV.out), Own.nil _ _ _, Own.nil _ _ _, HE.out, (apart_none _).symm, (apart_none _).symm, apart_none _, HB2⟩
      case round =>
        obtain ⟨k, X, ol, M, hk, rfl, HS, hO6, hO7, hOE, hA6, hA7, hA67, HB3⟩ := hrel
        obtain ⟨wo, rfl⟩ : ∃ wo : World, wo = wr := ⟨_, rfl⟩
        by_cases hlt : k < 2 * n
        · obtain ⟨x, hx⟩ := lget_some es k (by rw [HEL.out]; exact hlt)
          obtain ⟨ge, rfl⟩ : ∃ ge, ae = some ⟨ge, 0, none⟩ := by
            obtain ⟨g, c', e⟩ := Own.shape_lt hOE (by rw [HEL.out]; omega)
            injection e with h1
            exact ⟨_, h1⟩
          obtain ⟨p0, p1⟩ := evs_at hOE hx
          obtain ⟨a6, c6, rfl⟩ := hO6.shape
          obtain ⟨a7, c7, rfl⟩ := hO7.shape
          have HX := Lib.hid hx
          have HOE := Lib.hid hOE
          have HO6 := Lib.hid hO6
          have HO7 := Lib.hid hO7
          have HA6 := Lib.hid hA6
          have HA7 := Lib.hid hA7
          have HA67 := Lib.hid hA67
          have HD0 : Hid (Value.int .i64 (ol.length : Int) = .int .i64 (sumE (es.take k))) := Lib.hid (by rw [HS.out.depth])
          obtain ⟨A, D⟩ := x
          dsimp only at p0 p1
          clear hx hOE hO6 hO7 hA6 hA7 hA67
          go_wp2_with fail
          go_loop [8, 10] (fun s8 s10 => ∃ j : Nat, k ≤ j ∧ j ≤ 2 * n ∧ s8 = .int .i64 j ∧ s10 = .int .i64 (sumE (es.take j)) ∧ Hid (LvG ps es k j A)) (fun s8 _ => 2 * n - (RowKit.intOf s8).toNat)
          case atStart => exact ⟨k, Nat.le_refl _, hk, rfl, HD0.out, Lib.hid (LvG.start _ _ _ _)⟩
          case round =>
            obtain ⟨j, hkj, hj, rfl, rfl, HG⟩ := hrel
            by_cases hc : ∃ y, es[j]? = some y ∧ y.1 = A
            · obtain ⟨⟨y1, y2⟩, hy, hyA⟩ := hc
              dsimp only at hyA
              subst hyA
              have hjl : j < 2 * n := by rw [← HEL.out]; exact (List.getElem?_eq_some_iff.1 hy).1
              obtain ⟨q0, q1⟩ := evs_at HOE.out hy
              dsimp only at q0 q1
              have hb := sumE_take HEV.out j
              rw [HEL.out] at hb
              have hy2 := (HEV.out.range _ (List.mem_of_getElem? hy)).2.2
              dsimp only at hy2
              have HSM := Lib.hid (sumE_step hy)
              have HG2 := Lib.hid (HG.out.more hy rfl)
              obtain ⟨s, hs⟩ : ∃ s, s = sumE (es.take j) := ⟨_, rfl⟩
              rw [← hs] at hb HSM ⊢
              have hyy : (y1 == y1) = true := by simp
              have hb1 : -200000 ≤ s := by omega
              have hb2 : s ≤ 200000 := by omega
              have hb3 : -1 ≤ y2 := by omega
              have hb4 : y2 ≤ 1 := by omega
              clear hy hs hb hy2
              go_wp2_with fail
              go_round
              case rel => exact ⟨j + 1, by omega, by omega, by go_num, by rw [HSM.out], HG2⟩
              case measure => simp [RowKit.intOf]; omega
            · have HNE : Hid (∀ y, es[j]? = some y → y.1 ≠ A) := Lib.hid (fun y hy e => hc ⟨y, hy, e⟩)
              clear hc
              obtain ⟨h1, h2, h3, h4, h5, h6, h7, h8, h9, h10, h11⟩ := HS.out.group HEV.out HG.out HX.out rfl (by rw [HEL.out]; exact hj) HNE.out
              obtain ⟨d, hd⟩ : ∃ d, d = cntP ps A := ⟨_, rfl⟩
              rw [← hd] at h4 h7 h8
              rw [h4]
              have HI := Lib.hid h1
              have HLO := Lib.hid h2
              have HHI := Lib.hid h3
              have HSUM := Lib.hid h4
              have HOLD := Lib.hid h5
              have HNEW := Lib.hid h6
              clear h1 h2 h3 h4 h5 h6 hd
              rcases Nat.lt_or_ge j (2 * n) with hjl | hjl
              all_goals first
                | (have hjl2 : j < es.length := Nat.lt_of_lt_of_eq hjl HEL.out.symm
                   obtain ⟨⟨y1, y2⟩, hy⟩ := lget_some es j hjl2
                   obtain ⟨q0, q1⟩ := evs_at HOE.out hy
                   have hyA := HNE.out _ hy
                   dsimp only at q0 q1 hyA
                   have hyb : (y1 == A) = false := by simpa using hyA
                   clear hy hyA hjl2
                   go_wp2_with fail)
                | go_wp2_with fail
              all_goals (
                go_loopw [6, 7] (fun s6 s7 wr => ∃ (o2 : List Int) (M2 : List (Int × Int)), Own intE wr w.heap.size s6 o2 ∧ Own perE wr w.heap.size s7 M2 ∧ Own evE wr w.heap.size (.slice (some ⟨ge, 0, none⟩) (2 * n) ce) es ∧ Hid (Apart (.slice (some ⟨ge, 0, none⟩) (2 * n) ce) s6) ∧ Hid (Apart (.slice (some ⟨ge, 0, none⟩) (2 * n) ce) s7) ∧ Hid (Apart s6 s7) ∧ Hid (LvI (cntP ps) A o2 M2) ∧ Hid (∀ o ∈ o2, o < A) ∧ Hid (o2.length < d → ∀ p ∈ M2, p.2 < A) ∧ 2 * M2.length + d ≤ j ∧ 2 * M2.length + 2 * o2.length ≤ j + d ∧ Hid (Below w.heap.size w wr)) (fun s6 _ _ => slLen s6)
                case atStart => exact ⟨ol, M, HO6.out, HO7.out, HOE.out, HA6, HA7, HA67, HI, HLO, Lib.hid (fun _ => HHI.out), by omega, by omega, HB3⟩
                case round =>
                  obtain ⟨o2, M2, hO6, hO7, hOE, HA6, HA7, HA67, HI, HLO, HHI, hz1, hz2, HB4⟩ := hrel
                  obtain ⟨wx, rfl⟩ : ∃ wx : World, wx = wr := ⟨_, rfl⟩
                  by_cases hgt : d < o2.length
                  · obtain ⟨q, hq⟩ : ∃ q, o2.length = q + 1 := ⟨o2.length - 1, by omega⟩
                    obtain ⟨o, ho⟩ := lget_some o2 q (by omega)
                    have ho2 : o2 = o2.take q ++ [o] := by rw [← take_get ho, List.take_of_length_le (by omega)]
                    obtain ⟨g6, c6, rfl⟩ := Own.shape_lt hO6 (by omega)
                    obtain ⟨a7, c7, rfl⟩ := hO7.shape
                    obtain ⟨b, of, eb, p6⟩ := ints_at' hO6.sl ho
                    cases eb
                    rw [Nat.zero_add] at p6
                    have HOX : Hid (o < A) := Lib.hid (HLO.out o (List.mem_of_getElem? ho))
                    have HI2 : Hid (LvI (cntP ps) A (o2.take q) (M2 ++ [(o, A)])) := Lib.hid (LvI.pop (by rw [← ho2]; exact HI.out) HOX.out h10)
                    have HLO2 : Hid (∀ o ∈ o2.take q, o < A) := Lib.hid (fun z hz => HLO.out z (List.mem_of_mem_take hz))
                    have htl : (o2.take q).length = q := by rw [List.length_take]; omega
                    have HTL := Lib.hid htl
                    rw [hq] at hO6 HA6 HA67 hgt hz2 ⊢
                    have HQ := Lib.hid hq
                    have HO6 := Lib.hid hO6
                    have HO7 := Lib.hid hO7
                    have HOE := Lib.hid hOE
                    have hcap : q + 1 ≤ c6 := Sl.cap (HO6.out).sl
                    clear ho ho2 htl hO6 hO7 hOE hq HI HLO HHI
                    go_wp2_with (at_builtin; refine wpList_push rfl (.tmp 66) (.tmp 75) 68 rfl perE Tryz.underlying68 w.heap.size (.slice a7 M2.length c7) M2 rfl HO7.out [(o, A)] #[.int .i64 o, .int .i64 A] (Els.one rfl) 1 1 rfl rfl (by decide) (by unfold maxLen; omega) (by show _ * 16 ≤ _; omega) HB4.out.size ?_; intro g cap w5 hP hPa)
                    go_roundw
                    case rel => exact ⟨o2.take q, M2 ++ [(o, A)], (hP.keep intE_flat HA67.out.symm HO6.out).shrink HQ.out (Nat.le_succ _), hP.own' (by simp), hP.keep evE_flat HA7.out.symm HOE.out, Lib.hid (fun z hz e => HA6.out z hz e), Lib.hid ((hP.apart HA7.out.symm (fun z hz => (HOE.out.lt z hz).2)).symm), Lib.hid ((hP.apart HA67.out.symm (fun z hz => (HO6.out.lt z hz).2)).symm), HI2, HLO2, Lib.hid (fun h => absurd h (by rw [HTL.out]; omega)), by simp; omega, by rw [HTL.out]; simp; omega, Lib.hid (HB4.out.trans hP.below)⟩
                    case measure => simp [slLen]
                  · obtain ⟨a7, c7, rfl⟩ := hO7.shape
                    obtain ⟨a6, c6, rfl⟩ := hO6.shape
                    have HO6 := Lib.hid hO6
                    have HO7 := Lib.hid hO7
                    have HOE := Lib.hid hOE
                    clear hO6 hO7 hOE HLO
                    go_wp2_with fail
                    go_loopw [6] (fun s6 wr => ∃ o3 : List Int, Own intE wr w.heap.size s6 o3 ∧ Own perE wr w.heap.size (.slice a7 M2.length c7) M2 ∧ Own evE wr w.heap.size (.slice (some ⟨ge, 0, none⟩) (2 * n) ce) es ∧ Hid (Apart (.slice (some ⟨ge, 0, none⟩) (2 * n) ce) s6) ∧ Hid (Apart s6 (.slice a7 M2.length c7)) ∧ Hid (LvI (cntP ps) A o3 M2) ∧ Hid (o3.length < d → ∀ p ∈ M2, p.2 < A) ∧ o3.length ≤ d ∧ Hid (Below w.heap.size w wr)) (fun s6 _ => d - slLen s6)
                    case atStart => exact ⟨o2, HO6.out, HO7.out, HOE.out, HA6, HA67, HI, HHI, by omega, HB4⟩
                    case round =>
                      obtain ⟨o3, hO6, hO7, hOE, HA6, HA67, HI, HHI, hz3, HB5⟩ := hrel
                      obtain ⟨wy, rfl⟩ : ∃ wy : World, wy = wr := ⟨_, rfl⟩
                      obtain ⟨a6, c6, rfl⟩ := hO6.shape
                      have HO6 := Lib.hid hO6
                      have HO7 := Lib.hid hO7
                      have HOE := Lib.hid hOE
                      clear hO6 hO7 hOE
                      by_cases hlt3 : o3.length < d
                      · have HHI3 := Lib.hid (HHI.out hlt3)
                        have HI3 := Lib.hid (HI.out.push h9 HHI3.out)
                        go_wp2_with (at_builtin; refine wpList_push rfl (.tmp 86) (.tmp 88) 23 rfl intE Tryz.underlying23 w.heap.size (.slice a6 o3.length c6) o3 rfl HO6.out [A] #[.int .i64 A] (Els.one rfl) 1 1 rfl rfl (by decide) (by unfold maxLen; omega) (by show _ * 8 ≤ _; omega) HB5.out.size ?_; intro g cap w5 hP hPa)
                        go_roundw
                        case rel => exact ⟨o3 ++ [A], hP.own' (by simp), hP.keep perE_flat HA67.out HO7.out, hP.keep evE_flat HA6.out.symm HOE.out, Lib.hid ((hP.apart HA6.out.symm (fun z hz => (HOE.out.lt z hz).2)).symm), Lib.hid (hP.apart HA67.out (fun z hz => (HO7.out.lt z hz).2)), HI3, Lib.hid (fun _ => HHI3.out), by simp; omega, Lib.hid (HB5.out.trans hP.below)⟩
                        case measure => simp [slLen]; omega
                      · have HNX : Hid (LvS ps es j A o3 M2) := Lib.hid (LvS.next HI.out HSUM.out HOLD.out HNEW.out (by omega) (by omega))
                        go_wp2_with fail
                        go_roundw
                        case rel => exact ⟨j, A, o3, M2, hj, rfl, HNX, HO6.out, HO7.out, HOE.out, HA6.out, by assumption, HA67.out, HB5⟩
                        case measure => simp [RowKit.intOf]; omega)
        · have hk2 : k = 2 * n := by omega
          subst hk2
          have HDN : Hid (LevOf ps M ∧ M.length ≤ ps.length) := Lib.hid (HS.out.done HEV.out HEL.out.symm)
          obtain ⟨a7, c7, rfl⟩ := hO7.shape
          have HO7 := Lib.hid hO7
          clear hO6 hO7 hOE hA6 hA7 hA67
          go_wp2_with fail
          go_ret
          exact ⟨M, HDN.out.1, by rw [HN.out]; exact HDN.out.2, _, rfl, HO7.out, HB3.out⟩
end Go.Proofs.YtngigmpaabmngaaGreatDoor

namespace Go.Proofs.YtngigmpaabmngaaGreatDoor
open Go.RowKit Go.Lib

/-- Tuples whose data were there in an elder world. -/
def tupW (w0 : World) : El Tryz.prog Tup where
  ty := 52
  size := 4
  bytes := 64
  pos := by decide
  info := info_mk tup_info rfl
  is := fun _ _ t cs => ∃ v u, cs = [v, .int .i64 t.lo, .int .i64 t.hi, u] ∧ Sl valE w0 free v t.vals ∧ Sl intE w0 free u t.lin
  len := by rintro w G t cs ⟨v, u, rfl, _⟩; rfl
  one := by
    rintro w G t cs ⟨v, u, rfl, h1, h2⟩ x hx
    simp at hx
    rcases hx with rfl | rfl | rfl | rfl
    · exact h1.one
    · rfl
    · rfl
    · exact h2.one
  mono := fun h _ => h
  kept := fun h _ => h
theorem tupW_flat (w0 : World) : (tupW w0).Flat := fun h => h
theorem Sl.ofW {w0 w : World} {G : Nat → Prop} {v : Value} {l : List Tup} (h : Sl (tupW w0) w G v l) (hb : Below w0.heap.size w0 w) : Tups w v l := by
  obtain ⟨h1, a, c, h2, h3, h4⟩ := h
  refine ⟨h1, a, c, h2, h3, fun hn => ?_⟩
  obtain ⟨b, o, h5, _, h6⟩ := h4 hn
  refine ⟨b, o, h5, id, fun i x hx => ?_⟩
  obtain ⟨cs, ⟨v', u', e, h7, h8⟩, h9⟩ := h6 i x hx
  exact ⟨cs, ⟨v', u', e, h7.below hb, h8.below hb⟩, h9⟩
theorem Own.not_block {P : Program} {α : Type} {E : El P α} {w : World} {B : Nat} {v : Value} {l : List α} (h : Own E w B v l) {p : Nat} {cs : Array Value} {t : TypeId} (hp : w.heap[p]? = some (.cells cs t)) (ht : t ≠ E.ty) : v.ownBlock ≠ some p := by
  intro e
  obtain ⟨xs, ⟨_, h2⟩, _⟩ := h
  rcases h2 with ⟨rfl, _⟩ | ⟨g, cap, cur, rfl, _, hh, _⟩
  · cases e
  · have e' : some g = some p := e
    cases e'
    rw [hp] at hh
    cases hh
    exact ht rfl
theorem sideL_snoc (l : List Tup) (x : Tup) (vs : List GVal) : sideL (l ++ [x]) vs = sideL l vs ++ if cmpRows x.vals vs = 0 then [x] else [] := by
  unfold sideL
  rw [List.filter_append, List.filter_cons, List.filter_nil]
  by_cases h : cmpRows x.vals vs = 0
  · rw [if_pos h, if_pos (by simpa using h)]
  · rw [if_neg h, if_neg (by simpa using h)]
/-- A class: its box, its values, its two rows. -/
structure Cls where
  p : Nat
  v : Value
  ss : Bool → Value
  vs : List GVal
def Cls.cells (c : Cls) : Array Value := #[c.v, c.ss false, c.ss true]
def clsF (C : List UInt8 → Option Cls) (s : List UInt8) : Option Value := (C s).map fun c => .pointer (some ⟨c.p, 0, none⟩)
structure ClsIn (ty : TypeId) (w0 w : World) (B : Nat) (full l : Bool → List Tup) (C : List UInt8 → Option Cls) : Prop where
  key : ∀ s c, C s = some c → keyL c.vs = s
  vals : ∀ s c, C s = some c → Sl valE w0 free c.v c.vs
  blk : ∀ s c, C s = some c → B ≤ c.p ∧ w.heap[c.p]? = some (.cells c.cells ty)
  own : ∀ s c i, C s = some c → Own (tupW w0) w B (c.ss i) (sideL (l i) c.vs)
  inj : ∀ s s' c c', C s = some c → C s' = some c' → s ≠ s' → c.p ≠ c'.p
  apart : ∀ s s' c c' i j, C s = some c → C s' = some c' → (s ≠ s' ∨ i ≠ j) → Apart (c.ss i) (c'.ss j)
  dom : ∀ i, ∀ x ∈ l i, (C (keyL x.vals)).isSome = true
  src : ∀ s c, C s = some c → ∃ i, ∃ x ∈ full i, x.vals = c.vs
theorem ClsIn.nil (ty : TypeId) (w0 w : World) (B : Nat) (full : Bool → List Tup) : ClsIn ty w0 w B full (fun _ => []) (fun _ => none) :=
  ⟨fun _ _ h => (by cases h), fun _ _ h => (by cases h), fun _ _ h => (by cases h), fun _ _ _ h => (by cases h), fun _ _ _ _ h => (by cases h), fun _ _ _ _ _ _ h => (by cases h), fun _ _ h => (by cases h), fun _ _ h => (by cases h)⟩
theorem ClsIn.lt {ty : TypeId} {w0 w : World} {B : Nat} {full l : Bool → List Tup} {C : List UInt8 → Option Cls} (h : ClsIn ty w0 w B full l C) {s : List UInt8} {c : Cls} (hc : C s = some c) : c.p < w.heap.size := (Array.getElem?_eq_some_iff.1 (h.blk s c hc).2).1
theorem ClsIn.kept {ty : TypeId} {w0 w w' : World} {B : Nat} {full l : Bool → List Tup} {C : List UInt8 → Option Cls} {G : Nat → Prop} (h : ClsIn ty w0 w B full l C) (hk : Kept G w w') (h1 : ∀ s c, C s = some c → ¬ G c.p) (h2 : ∀ s c i k, C s = some c → (c.ss i).ownBlock = some k → ¬ G k) : ClsIn ty w0 w' B full l C :=
  ⟨h.key, h.vals, fun s c hc => ⟨(h.blk s c hc).1, (hk.2 _ (h.lt hc) (h1 s c hc)).trans (h.blk s c hc).2⟩, fun s c i hc => (h.own s c i hc).kept_flat (tupW_flat w0) hk fun k hk' => h2 s c i k hc hk', h.inj, h.apart, h.dom, h.src⟩
theorem ClsIn.below {ty : TypeId} {w0 w w' : World} {B : Nat} {full l : Bool → List Tup} {C : List UInt8 → Option Cls} (h : ClsIn ty w0 w B full l C) (hb : Below w.heap.size w w') : ClsIn ty w0 w' B full l C :=
  h.kept (G := fun _ => False) (.of_below hb) (fun _ _ _ => id) fun _ _ _ _ _ _ => id
/-- The map is written. -/
theorem ClsIn.grown {ty : TypeId} {w0 w w' : World} {B b n : Nat} {full l : Bool → List Tup} {C : List UInt8 → Option Cls} {f : List UInt8 → Option Value} (h : ClsIn ty w0 w B full l C) (hm : OwnSV w b n f) (hg : w.grownBy w' (some b)) : ClsIn ty w0 w' B full l C := by
  refine h.kept (G := fun k => some k = some b) (.of_grown hg) (fun s c hc e => ?_) fun s c i k hc hk e => ?_
  · cases e
    obtain ⟨D, ⟨es, clock, h1, _⟩, _⟩ := hm
    have := (h.blk s c hc).2
    rw [h1] at this
    cases this
  · exact hm.no_row (h.own s c i hc) (by rw [hk, e])
/-- A new class without tuples. -/
theorem ClsIn.new {ty : TypeId} {w0 w : World} {B : Nat} {full l : Bool → List Tup} {C : List UInt8 → Option Cls} (h : ClsIn ty w0 w B full l C) {vs : List GVal} {v : Value} (hn : C (keyL vs) = none) (hv : Sl valE w0 free v vs) (hB : B ≤ w.heap.size) (hs : ∃ i, ∃ x ∈ full i, x.vals = vs) :
    ClsIn ty w0 (w.alloc (.cells #[v, .slice none 0 0, .slice none 0 0] ty)) B full l (fun s => if s = keyL vs then some ⟨w.heap.size, v, fun _ => .slice none 0 0, vs⟩ else C s) := by
  have hb := below_alloc w (.cells #[v, .slice none 0 0, .slice none 0 0] ty)
  have h' := h.below hb
  have hgs : ∀ s c, (if s = keyL vs then some ⟨w.heap.size, v, fun _ => .slice none 0 0, vs⟩ else C s) = some c → (s = keyL vs ∧ c = ⟨w.heap.size, v, fun _ => .slice none 0 0, vs⟩) ∨ (s ≠ keyL vs ∧ C s = some c) := fun s c e => by
    split at e
    · rename_i hs; cases e; exact .inl ⟨hs, rfl⟩
    · rename_i hs; exact .inr ⟨hs, e⟩
  have hside : ∀ i, sideL (l i) vs = [] := fun i => by
    unfold sideL
    rw [List.filter_eq_nil_iff]
    intro x hx he
    have := h.dom i x hx
    rw [(cmpRows_zero _ _).1 (of_decide_eq_true he), hn] at this
    cases this
  refine ⟨fun s c e => ?_, fun s c e => ?_, fun s c e => ?_, fun s c i e => ?_, fun s s' c c' e e' hne => ?_, fun s s' c c' i j e e' hne => ?_, fun i x hx => ?_, fun s c e => ?_⟩
  · rcases hgs s c e with ⟨rfl, rfl⟩ | ⟨_, e⟩
    · rfl
    · exact h.key s c e
  · rcases hgs s c e with ⟨rfl, rfl⟩ | ⟨_, e⟩
    · exact hv
    · exact h.vals s c e
  · rcases hgs s c e with ⟨rfl, rfl⟩ | ⟨_, e⟩
    · exact ⟨hB, World.alloc_heap_new w _⟩
    · exact h'.blk s c e
  · rcases hgs s c e with ⟨rfl, rfl⟩ | ⟨_, e⟩
    · dsimp only; rw [hside i]; exact Own.nil _ _ _
    · exact h'.own s c i e
  · rcases hgs s c e with ⟨rfl, rfl⟩ | ⟨_, e⟩ <;> rcases hgs s' c' e' with ⟨rfl, rfl⟩ | ⟨_, e'⟩
    · exact absurd rfl hne
    · have := h.lt e'; dsimp only; omega
    · have := h.lt e; dsimp only; omega
    · exact h.inj s s' c c' e e' hne
  · rcases hgs s c e with ⟨rfl, rfl⟩ | ⟨_, e⟩ <;> rcases hgs s' c' e' with ⟨rfl, rfl⟩ | ⟨_, e'⟩
    · exact apart_none _
    · exact apart_none _
    · exact (apart_none _).symm
    · exact h.apart s s' c c' i j e e' hne
  · by_cases hk : keyL x.vals = keyL vs
    · rw [if_pos hk]; rfl
    · rw [if_neg hk]; exact h.dom i x hx
  · rcases hgs s c e with ⟨rfl, rfl⟩ | ⟨_, e⟩
    · exact hs
    · exact h.src s c e
def setS (ss : Bool → Value) (i : Bool) (v : Value) : Bool → Value := fun j => if j = i then v else ss j
def addT (l : Bool → List Tup) (i : Bool) (x : Tup) : Bool → List Tup := fun j => if j = i then l i ++ [x] else l j
/-- A tuple joins a row of its class. -/
theorem ClsIn.push {ty : TypeId} (hty : ty ≠ (52 : TypeId)) {w0 w w' : World} {B g cap n : Nat} {full l : Bool → List Tup} {C : List UInt8 → Option Cls} {s : List UInt8} {c : Cls} {i : Bool} {x : Tup} (h : ClsIn ty w0 w B full l C) (hc : C s = some c) (hx : x.vals = c.vs)
    (hp : Pushed (tupW w0) B w w' (c.ss i) (sideL (l i) c.vs ++ [x]) g cap) (hn : (sideL (l i) c.vs).length + 1 = n) {o : Nat} (ho : o = cond i 2 1) :
    ClsIn ty w0 (w'.setCell ⟨c.p, o, none⟩ (.slice (some ⟨g, 0, none⟩) n cap)) B full (addT l i x) (fun z => if z = s then some { c with ss := setS c.ss i (.slice (some ⟨g, 0, none⟩) n cap) } else C z) := by
  have hnb : ∀ z d j, C z = some d → ∀ z' d', C z' = some d' → (d.ss j).ownBlock ≠ some d'.p := fun z d j hd z' d' hd' => (h.own z d j hd).not_block (h.blk z' d' hd').2 hty
  have hblk : ∀ z d, C z = some d → w'.heap[d.p]? = some (.cells d.cells ty) := fun z d hd => hp.block (fun e => hnb s c i hc z d hd e.symm) (h.blk z d hd).2
  have hgp : ∀ z d, C z = some d → d.p ≠ g := fun z d hd => hp.ne (fun e => hnb s c i hc z d hd e.symm) (h.lt hd)
  have hgs : ∀ z d, (if z = s then some { c with ss := setS c.ss i (.slice (some ⟨g, 0, none⟩) n cap) } else C z) = some d → (z = s ∧ d = { c with ss := setS c.ss i (.slice (some ⟨g, 0, none⟩) n cap) }) ∨ (z ≠ s ∧ C z = some d) := fun z d e => by
    split at e
    · rename_i hs; cases e; exact .inl ⟨hs, rfl⟩
    · rename_i hs; exact .inr ⟨hs, e⟩
  have hks : Kept (fun k => k = c.p) w' (w'.setCell ⟨c.p, o, none⟩ (.slice (some ⟨g, 0, none⟩) n cap)) := ⟨by simp, fun k _ hn => Go.Deep.blk_setCell_other _ _ _ _ hn⟩
  have hkey : ∀ z d, C z = some d → z ≠ s → cmpRows x.vals d.vs ≠ 0 := fun z d hd hz e => hz (by rw [← h.key z d hd, ← h.key s c hc, ← hx, (cmpRows_zero _ _).1 e])
  -- rows other than the pushed one
  have hrow : ∀ z d j, C z = some d → (z ≠ s ∨ j ≠ i) → Own (tupW w0) (w'.setCell ⟨c.p, o, none⟩ (.slice (some ⟨g, 0, none⟩) n cap)) B (d.ss j) (sideL (l j) d.vs) := fun z d j hd hne => by
    have h1 := hp.keep (tupW_flat w0) (h.apart s z c d i j hc hd (hne.imp Ne.symm Ne.symm)) (h.own z d j hd)
    exact h1.kept_flat (tupW_flat w0) hks fun k hk e => hnb z d j hd s c hc (by rw [hk, e])
  have hnew : Own (tupW w0) (w'.setCell ⟨c.p, o, none⟩ (.slice (some ⟨g, 0, none⟩) n cap)) B (.slice (some ⟨g, 0, none⟩) n cap) (sideL (l i) c.vs ++ [x]) :=
    (hp.own' (by simp; omega)).kept_flat (tupW_flat w0) hks fun k hk e => by
      have hk' : some g = some k := hk
      cases hk'
      exact hgp s c hc e.symm
  have hapn : ∀ z d j, C z = some d → (z ≠ s ∨ j ≠ i) → Apart (.slice (some ⟨g, 0, none⟩) n cap) (d.ss j) := fun z d j hd hne =>
    hp.apart (h.apart s z c d i j hc hd (hne.imp Ne.symm Ne.symm)) fun k hk => ((h.own z d j hd).lt k hk).2
  refine ⟨fun z d e => ?_, fun z d e => ?_, fun z d e => ?_, fun z d j e => ?_, fun z z' d d' e e' hne => ?_, fun z z' d d' j k e e' hne => ?_, fun j y hy => ?_, fun z d e => ?_⟩
  · rcases hgs z d e with ⟨rfl, rfl⟩ | ⟨_, e2⟩
    · exact h.key _ c hc
    · exact h.key _ d e2
  · rcases hgs z d e with ⟨rfl, rfl⟩ | ⟨_, e2⟩
    · exact h.vals _ c hc
    · exact h.vals _ d e2
  · rcases hgs z d e with ⟨rfl, rfl⟩ | ⟨hz, e2⟩
    · refine ⟨(h.blk _ c hc).1, ?_⟩
      have := Go.Joins.block_setCell (i := o) (hblk _ c hc) (.slice (some ⟨g, 0, none⟩) n cap)
      rw [this]
      subst ho
      cases i <;> rfl
    · exact ⟨(h.blk _ d e2).1, (Go.Deep.blk_setCell_other _ _ _ _ (h.inj _ _ d c e2 hc hz)).trans (hblk _ d e2)⟩
  · rcases hgs z d e with ⟨rfl, rfl⟩ | ⟨hz, e2⟩
    · unfold addT setS
      dsimp only
      by_cases hj : j = i
      · subst hj
        rw [if_pos rfl, if_pos rfl, sideL_snoc, if_pos (by rw [hx]; exact (cmpRows_zero _ _).2 rfl)]
        exact hnew
      · rw [if_neg hj, if_neg hj]
        exact hrow _ c j hc (.inr hj)
    · unfold addT
      by_cases hj : j = i
      · subst hj
        rw [if_pos rfl, sideL_snoc, if_neg (hkey _ d e2 hz), List.append_nil]
        exact hrow _ d j e2 (.inl hz)
      · rw [if_neg hj]
        exact hrow _ d j e2 (.inl hz)
  · rcases hgs z d e with ⟨rfl, rfl⟩ | ⟨_, e2⟩ <;> rcases hgs z' d' e' with ⟨rfl, rfl⟩ | ⟨_, e2'⟩
    · exact absurd rfl hne
    · exact h.inj _ _ c d' hc e2' hne
    · exact h.inj _ _ d c e2 hc hne
    · exact h.inj _ _ d d' e2 e2' hne
  · rcases hgs z d e with ⟨rfl, rfl⟩ | ⟨hz, e2⟩ <;> rcases hgs z' d' e' with ⟨rfl, rfl⟩ | ⟨hz', e2'⟩
    · have hjk := hne.resolve_left (fun h => h rfl)
      unfold setS
      dsimp only
      by_cases hj : j = i
      · subst hj
        rw [if_pos rfl, if_neg (Ne.symm hjk)]
        exact hapn _ c k hc (.inr (Ne.symm hjk))
      · rw [if_neg hj]
        by_cases hk : k = i
        · subst hk
          rw [if_pos rfl]
          exact (hapn _ c j hc (.inr hj)).symm
        · rw [if_neg hk]
          exact h.apart _ _ c c j k hc hc (.inr hjk)
    · unfold setS
      dsimp only
      by_cases hj : j = i
      · rw [if_pos hj]; exact hapn _ d' k e2' (.inl hz')
      · rw [if_neg hj]; exact h.apart _ _ c d' j k hc e2' (.inl (Ne.symm hz'))
    · unfold setS
      dsimp only
      by_cases hk : k = i
      · rw [if_pos hk]; exact (hapn _ d j e2 (.inl hz)).symm
      · rw [if_neg hk]; exact h.apart _ _ d c j k e2 hc (.inl hz)
    · exact h.apart _ _ d d' j k e2 e2' hne
  · unfold addT at hy
    have hdom : ∀ y, (C (keyL y)).isSome = true → ((if keyL y = s then some { c with ss := setS c.ss i (.slice (some ⟨g, 0, none⟩) n cap) } else C (keyL y)) : Option Cls).isSome = true := fun y hy => by
      split
      · rfl
      · exact hy
    by_cases hj : j = i
    · rw [if_pos hj] at hy
      rcases List.mem_append.1 hy with hy | hy
      · exact hdom _ (h.dom i y hy)
      · simp at hy; subst hy
        rw [hx, h.key s c hc, if_pos rfl]; rfl
    · rw [if_neg hj] at hy
      exact hdom _ (h.dom j y hy)
  · rcases hgs z d e with ⟨rfl, rfl⟩ | ⟨_, e2⟩
    · exact h.src _ c hc
    · exact h.src _ d e2
end Go.Proofs.YtngigmpaabmngaaGreatDoor

namespace Go.Proofs.YtngigmpaabmngaaGreatDoor
open Go.RowKit

def keyT (x : Tup) : List UInt8 := rowKeyL x.row
/-- The periods of the tuples with that key. -/
def perOf (l : List Tup) (s : List UInt8) : List (Int × Int) := (l.filter fun x => pvalid x.lo x.hi && (keyT x == s)).map fun x => (x.lo, x.hi)
theorem perOf_snoc (l : List Tup) (x : Tup) (s : List UInt8) : perOf (l ++ [x]) s = perOf l s ++ if (pvalid x.lo x.hi && (keyT x == s)) = true then [(x.lo, x.hi)] else [] := by
  unfold perOf
  rw [List.filter_append, List.map_append]
  congr 1
  rw [List.filter_cons, List.filter_nil]
  split <;> rfl
theorem perOf_valid (l : List Tup) (s : List UInt8) : ∀ p ∈ perOf l s, pvalid p.1 p.2 = true := by
  intro p hp
  unfold perOf at hp
  obtain ⟨x, hx, rfl⟩ := List.mem_map.1 hp
  have := (List.mem_filter.1 hx).2
  rw [Bool.and_eq_true] at this
  exact this.1
theorem perOf_len (l : List Tup) (s : List UInt8) : (perOf l s).length ≤ l.length := by unfold perOf; rw [List.length_map]; exact List.length_filter_le _ _
theorem perOf_cnt (l : List Tup) (r : GRow) (t : Int) : atDay (l.filter fun x => keyT x == rowKeyL r) t = List.replicate (cntP (perOf l (rowKeyL r)) t) r := by
  induction l with
  | nil => rfl
  | cons x l ih =>
    by_cases h1 : keyT x = rowKeyL r
    · have hr : x.row = r := rowKey_inj h1
      rw [List.filter_cons, if_pos (by simpa using h1), atDay_cons, ih]
      by_cases h2 : pvalid x.lo x.hi = true
      · have e : perOf (x :: l) (rowKeyL r) = (x.lo, x.hi) :: perOf l (rowKeyL r) := by unfold perOf; rw [List.filter_cons, if_pos (by simp [h1, h2])]; rfl
        have ec : cntP ((x.lo, x.hi) :: perOf l (rowKeyL r)) t = cntP (perOf l (rowKeyL r)) t + if pincl x.lo x.hi t = true then 1 else 0 := by unfold cntP; rw [List.countP_cons]
        rw [e, ec]
        split
        · rw [List.replicate_succ, hr]
        · rfl
      · have e : perOf (x :: l) (rowKeyL r) = perOf l (rowKeyL r) := by unfold perOf; rw [List.filter_cons, if_neg (by simp [h2])]
        rw [e, if_neg (fun h => h2 (pincl_iff.1 h).1)]
    · have e : perOf (x :: l) (rowKeyL r) = perOf l (rowKeyL r) := by unfold perOf; rw [List.filter_cons, if_neg (by simp [h1])]
      rw [List.filter_cons, if_neg (by simpa using h1), ih, e]
/-- What is made of the tuples whose keys are done. -/
structure NrmI (l : List Tup) (L : List UInt8 → Bool) (out : List Tup) : Prop where
  lev : Lev out
  key : ∀ x ∈ out, L (keyT x) = false
  day : ∀ t, (atDay out t).Perm (atDay (l.filter fun x => !L (keyT x)) t)
  len : out.length ≤ (l.filter fun x => pvalid x.lo x.hi && !L (keyT x)).length
theorem NrmI.start {l : List Tup} {L : List UInt8 → Bool} (h : ∀ x ∈ l, pvalid x.lo x.hi = true → L (keyT x) = true) : NrmI l L [] := by
  refine ⟨Lev.nil, by simp, fun t => ?_, Nat.zero_le _⟩
  have : atDay (l.filter fun x => !L (keyT x)) t = [] := by
    refine List.eq_nil_iff_forall_not_mem.2 fun r hr => ?_
    obtain ⟨x, hx, _, hi⟩ := mem_atDay.1 hr
    obtain ⟨h1, h2⟩ := List.mem_filter.1 hx
    rw [h x h1 (pincl_iff.1 hi).1] at h2
    cases h2
  rw [this]
  exact .refl _
theorem filter_parts {l : List Tup} {p q r : Tup → Bool} (h : ∀ x, r x = (p x || q x)) (hd : ∀ x, p x = true → q x = false) : (l.filter p ++ l.filter q).Perm (l.filter r) := by
  have h1 := List.filter_append_perm p (l.filter r)
  rw [List.filter_filter, List.filter_filter] at h1
  have e1 : (fun a => p a && r a) = p := by funext x; rw [h x]; cases p x <;> simp
  have e2 : (fun a => !p a && r a) = q := by
    funext x
    rw [h x]
    cases hp : p x
    · simp
    · simp [hd x hp]
  rw [e1, e2] at h1
  exact h1
theorem NrmI.step {l out M : List _} {L : List UInt8 → Bool} {r : GRow} (h : NrmI l L out) (hL : L (rowKeyL r) = true) (hM : LevOf (perOf l (rowKeyL r)) M) (hlen : M.length ≤ (perOf l (rowKeyL r)).length) :
    NrmI l (fun z => L z && !(z == rowKeyL r)) (out ++ M.map fun p => (⟨r.vals, p.1, p.2, r.lin⟩ : Tup)) := by
  obtain ⟨h1, h2⟩ := lev_rows hM r
  have hk : ∀ y ∈ M.map (fun p => (⟨r.vals, p.1, p.2, r.lin⟩ : Tup)), keyT y = rowKeyL r := by
    intro y hy
    obtain ⟨p, _, rfl⟩ := List.mem_map.1 hy
    rfl
  refine ⟨⟨fun x hx => ?_, ?_⟩, fun x hx => ?_, fun t => ?_, ?_⟩
  · rcases List.mem_append.1 hx with hx | hx
    · exact h.lev.valid x hx
    · exact h1.valid x hx
  · rw [List.pairwise_append]
    refine ⟨h.lev.lam, h1.lam, fun x hx y hy e => ?_⟩
    have h3 := h.key x hx
    have h4 : keyT x = keyT y := congrArg rowKeyL e
    rw [h4, hk y hy, hL] at h3
    cases h3
  · rcases List.mem_append.1 hx with hx | hx
    · rw [h.key x hx]; rfl
    · rw [hk x hx]; simp
  · rw [atDay_append, h2 t, ← perOf_cnt l r t]
    refine ((h.day t).append_right _).trans ?_
    rw [← atDay_append]
    refine atDay_perm (filter_parts (fun x => ?_) fun x hx => ?_) t
    · cases L (keyT x) <;> cases (keyT x == rowKeyL r) <;> rfl
    · rw [beq_eq_false_iff_ne]
      intro e
      rw [e, hL] at hx
      cases hx
  · have hp := (filter_parts (l := l) (p := fun x => pvalid x.lo x.hi && !L (keyT x)) (q := fun x => pvalid x.lo x.hi && (keyT x == rowKeyL r)) (r := fun x => pvalid x.lo x.hi && !(L (keyT x) && !(keyT x == rowKeyL r))) (fun x => by
      cases pvalid x.lo x.hi <;> cases L (keyT x) <;> cases (keyT x == rowKeyL r) <;> rfl) fun x hx => by
        cases hk : (keyT x == rowKeyL r)
        · simp
        · rw [beq_iff_eq] at hk
          rw [hk, hL] at hx
          simp at hx).length_eq
    rw [List.length_append] at hp
    rw [List.length_append, List.length_map]
    have e : (perOf l (rowKeyL r)).length = (l.filter fun x => pvalid x.lo x.hi && (keyT x == rowKeyL r)).length := by unfold perOf; rw [List.length_map]
    have := h.len
    omega
theorem NrmI.done {l out T : List Tup} {L : List UInt8 → Bool} (h : NrmI l L out) (hL : ∀ s, L s = false) (hp : T.Perm out) (hs : T.Pairwise fun a b => ¬ cmpTup b a < 0) : IsNF l T := by
  refine ⟨h.lev.perm hp.symm, hs, fun t => (atDay_perm hp t).trans ((h.day t).trans ?_)⟩
  have : (l.filter fun x => !L (keyT x)) = l := List.filter_eq_self.2 fun x _ => by rw [hL]; rfl
  rw [this]
theorem NrmI.small {l out : List Tup} {L : List UInt8 → Bool} (h : NrmI l L out) : out.length ≤ l.length := Nat.le_trans h.len (List.length_filter_le _ _)
end Go.Proofs.YtngigmpaabmngaaGreatDoor

namespace Go.Proofs.YtngigmpaabmngaaGreatDoor
open Go.Shelf
def sh_sortTups_ren : Go.Shelf.Ren := ⟨fun | 6 => 42 | 15 => 84 | 14 => 83 | 28 => 124 | 29 => 125 | 20 => 116 | 21 => 117 | 22 => 118 | 23 => 119 | 24 => 120 | 25 => 121 | 26 => 122 | 27 => 123 | 46 => 154 | 47 => 155 | 48 => 156 | 49 => 157 | 50 => 158 | 57 => 184 | n => n, fun | 22 => 24 | 24 => 52 | 25 => 71 | 3 => 3 | 39 => 92 | 0 => 0 | 53 => 157 | 55 => 159 | 4 => 4 | 46 => 151 | 45 => 150 | 50 => 60 | 5 => 5 | 9 => 9 | 66 => 180 | 70 => 184 | 76 => 207 | 77 => 208 | n => n, fun | n => n⟩
theorem sh_sortTups : Go.Proofs.SlLaysF0.n6 Tryz.prog sh_sortTups_ren := {
  mixed := by kernel_rfl
  f6 := ⟨Tryz.f42.name, by decide, Tryz.func42.trans (congrArg some (by kernel_rfl))⟩
  f14 := ⟨Tryz.f83.name, by decide, Tryz.func83.trans (congrArg some (by kernel_rfl))⟩
  f15 := Tryz.func84.trans (congrArg some (by kernel_rfl))
  f20 := ⟨Tryz.f116.name, by decide, Tryz.func116.trans (congrArg some (by kernel_rfl))⟩
  f21 := ⟨Tryz.f117.name, by decide, Tryz.func117.trans (congrArg some (by kernel_rfl))⟩
  f22 := ⟨Tryz.f118.name, by decide, Tryz.func118.trans (congrArg some (by kernel_rfl))⟩
  f23 := ⟨Tryz.f119.name, by decide, Tryz.func119.trans (congrArg some (by kernel_rfl))⟩
  f24 := ⟨Tryz.f120.name, by decide, Tryz.func120.trans (congrArg some (by kernel_rfl))⟩
  f25 := ⟨Tryz.f121.name, by decide, Tryz.func121.trans (congrArg some (by kernel_rfl))⟩
  f26 := ⟨Tryz.f122.name, by decide, Tryz.func122.trans (congrArg some (by kernel_rfl))⟩
  f27 := ⟨Tryz.f123.name, by decide, Tryz.func123.trans (congrArg some (by kernel_rfl))⟩
  f28 := Tryz.func124.trans (congrArg some (by kernel_rfl))
  f29 := Tryz.func125.trans (congrArg some (by kernel_rfl))
  f46 := ⟨Tryz.f154.name, by decide, Tryz.func154.trans (congrArg some (by kernel_rfl))⟩
  f47 := Tryz.func155.trans (congrArg some (by kernel_rfl))
  f48 := Tryz.func156.trans (congrArg some (by kernel_rfl))
  f49 := ⟨Tryz.f157.name, by decide, Tryz.func157.trans (congrArg some (by kernel_rfl))⟩
  f50 := ⟨Tryz.f158.name, by decide, Tryz.func158.trans (congrArg some (by kernel_rfl))⟩
  f57 := ⟨Tryz.f184.name, by decide, Tryz.func184.trans (congrArg some (by kernel_rfl))⟩
  t0 := Tryz.underlying0
  a0 := Tryz.isAgg0
  z0 := Tryz.sizeOf0
  v0 := Tryz.zeroValue0
  t3 := Tryz.underlying3
  a3 := Tryz.isAgg3
  z3 := Tryz.sizeOf3
  v3 := Tryz.zeroValue3
  t4 := Tryz.underlying4
  a4 := Tryz.isAgg4
  z4 := Tryz.sizeOf4
  v4 := Tryz.zeroValue4
  t5 := Tryz.underlying5
  a5 := Tryz.isAgg5
  z5 := Tryz.sizeOf5
  v5 := Tryz.zeroValue5
  t9 := Tryz.underlying9
  a9 := Tryz.isAgg9
  z9 := Tryz.sizeOf9
  v9 := Tryz.zeroValue9
  t22 := Tryz.underlying24
  a22 := Tryz.isAgg24
  z22 := Tryz.sizeOf24
  v22 := Tryz.zeroValue24
  t25 := Tryz.underlying71
  a25 := Tryz.isAgg71
  z25 := Tryz.sizeOf71
  v25 := Tryz.zeroValue71
  t39 := Tryz.underlying92
  a39 := Tryz.isAgg92
  z39 := Tryz.sizeOf92
  v39 := Tryz.zeroValue92
  t45 := Tryz.underlying150
  a45 := Tryz.isAgg150
  z45 := Tryz.sizeOf150
  v45 := Tryz.zeroValue150
  t46 := Tryz.underlying151
  a46 := Tryz.isAgg151
  z46 := Tryz.sizeOf151
  v46 := Tryz.zeroValue151
  t50 := Tryz.underlying60
  a50 := Tryz.isAgg60
  z50 := Tryz.sizeOf60
  v50 := Tryz.zeroValue60
  t53 := Tryz.underlying157
  a53 := Tryz.isAgg157
  z53 := Tryz.sizeOf157
  v53 := Tryz.zeroValue157
  t55 := Tryz.underlying159
  a55 := Tryz.isAgg159
  z55 := Tryz.sizeOf159
  v55 := Tryz.zeroValue159
  t66 := Tryz.underlying180
  a66 := Tryz.isAgg180
  z66 := Tryz.sizeOf180
  v66 := Tryz.zeroValue180
  t70 := Tryz.underlying184
  a70 := Tryz.isAgg184
  z70 := Tryz.sizeOf184
  v70 := Tryz.zeroValue184
  t76 := Tryz.underlying207
  a76 := Tryz.isAgg207
  z76 := Tryz.sizeOf207
  v76 := Tryz.zeroValue207
  t77 := Tryz.underlying208
  a77 := Tryz.isAgg208
  z77 := Tryz.sizeOf208
  v77 := Tryz.zeroValue208 }
end Go.Proofs.YtngigmpaabmngaaGreatDoor

namespace Go.Proofs.YtngigmpaabmngaaGreatDoor
open Go.RowKit Go.Lib Go.Shelf Go.Sort

theorem row_g (v u : Value) (lo hi : Int) (w : World) (a b : Option Addr) (n c m d : Nat) (hv : v = .slice a n c) (hu : u = .slice b m d) :
    Calls Tryz.prog 36 #[.agg #[v, .int .i64 lo, .int .i64 hi, u]] w fun e w' => e = .returned (.agg #[v, u]) ∧ Grew w w' := by
  subst hv hu
  go_enter Tryz.func36, Tryz.ntmps36
  go_wp2
  refine bodyPost_ret (v := .agg #[.slice a n c, .slice b m d]) ?_ rfl ⟨rfl, grew_alloc2 w _ _⟩
  simp [results, Tryz.results36, go_sem]
set_option maxHeartbeats 8000000 in
set_option maxRecDepth 100000 in
theorem tupCmp_g (a b : Tup) (v u v2 u2 : Value) (w : World) (hv : Sl valE w free v a.vals) (hu : Sl intE w free u a.lin) (hv2 : Sl valE w free v2 b.vals) (hu2 : Sl intE w free u2 b.lin) :
    Calls Tryz.prog 43 #[.agg #[v, .int .i64 a.lo, .int .i64 a.hi, u], .agg #[v2, .int .i64 b.lo, .int .i64 b.hi, u2]] w fun e w' => e = .returned (.int .i64 (cmpTup a b)) ∧ Grew w w' := by
  obtain ⟨r1, hr1⟩ : ∃ r, r = cmpRow a.row b.row := ⟨_, rfl⟩
  obtain ⟨fc, hfc⟩ : ∃ fc, fc = cmpI := ⟨_, rfl⟩
  have CB : ∀ W, Grew w W → Hid (Calls Tryz.prog 86 #[.agg #[v, u], .agg #[v2, u2]] W fun e w' => e = .returned (.int .i64 r1) ∧ Grew W w') := fun W h => hr1 ▸ bagCmp_g a.row b.row v u v2 u2 W (hv.below h.below) (hu.below h.below) (hv2.below h.below) (hu2.below h.below)
  have CC : ∀ x y W, Hid (Calls Tryz.prog 82 #[.int .i64 x, .int .i64 y] W fun e w' => e = .returned (.int .i64 (fc x y)) ∧ W = w') := fun x y W => hfc ▸ cmpInt_any x y W
  have HR : Hid (orL [r1, fc a.lo b.lo, fc a.hi b.hi] = cmpTup a b) := by
    show _ = _
    rw [hr1, hfc]
    unfold cmpTup or2 orL orL orL orL
    split <;> (try split) <;> simp_all
  have COR : ∀ W : World, Hid (Calls Tryz.prog 85 #[.slice (some ⟨W.heap.size, 0, none⟩) 3 3] (W.alloc (.cells #[.int .i64 r1, .int .i64 (fc a.lo b.lo), .int .i64 (fc a.hi b.hi)] 3)).drew fun e w' => e = .returned (.int .i64 (cmpTup a b)) ∧ (W.alloc (.cells #[.int .i64 r1, .int .i64 (fc a.lo b.lo), .int .i64 (fc a.hi b.hi)] 3)).drew = w') := fun W => by
    have := cmpOr_any (.slice (some ⟨W.heap.size, 0, none⟩) 3 3) [r1, fc a.lo b.lo, fc a.hi b.hi] (W.alloc (.cells #[.int .i64 r1, .int .i64 (fc a.lo b.lo), .int .i64 (fc a.hi b.hi)] 3)).drew (Sl.of_block (n := 3) (m := 3) (show (W.alloc (.cells #[.int .i64 r1, .int .i64 (fc a.lo b.lo), .int .i64 (fc a.hi b.hi)] 3)).drew.heap[W.heap.size]? = some (.cells #[.int .i64 r1, .int .i64 (fc a.lo b.lo), .int .i64 (fc a.hi b.hi)] 3) from World.alloc_heap_new W _) (Els.cons (cs := [.int .i64 r1]) rfl (Els.cons (cs := [.int .i64 (fc a.lo b.lo)]) rfl (Els.one (cs := [.int .i64 (fc a.hi b.hi)]) rfl))) id rfl (by simp) (by simp))
    rw [HR.out] at this
    exact Lib.hid this
  have CORn : ∀ W : World, Hid (Calls Tryz.prog 85 #[.slice (some ⟨W.heap.size, 0, none⟩) 3 3] (W.alloc (.cells #[.int .i64 r1, .int .i64 (fc a.lo b.lo), .int .i64 (fc a.hi b.hi)] 3)) fun e w' => e = .returned (.int .i64 (cmpTup a b)) ∧ (W.alloc (.cells #[.int .i64 r1, .int .i64 (fc a.lo b.lo), .int .i64 (fc a.hi b.hi)] 3)) = w') := fun W => by
    have := cmpOr_any (.slice (some ⟨W.heap.size, 0, none⟩) 3 3) [r1, fc a.lo b.lo, fc a.hi b.hi] (W.alloc (.cells #[.int .i64 r1, .int .i64 (fc a.lo b.lo), .int .i64 (fc a.hi b.hi)] 3)) (Sl.of_block (n := 3) (m := 3) (World.alloc_heap_new W _) (Els.cons (cs := [.int .i64 r1]) rfl (Els.cons (cs := [.int .i64 (fc a.lo b.lo)]) rfl (Els.one (cs := [.int .i64 (fc a.hi b.hi)]) rfl))) id rfl (by simp) (by simp))
    rw [HR.out] at this
    exact Lib.hid this
  obtain ⟨a1, c1, rfl⟩ := hv.shape
  obtain ⟨a2, c2, rfl⟩ := hu.shape
  obtain ⟨a3, c3, rfl⟩ := hv2.shape
  obtain ⟨a4, c4, rfl⟩ := hu2.shape
  generalize a.vals.length = n1 at CB ⊢
  generalize a.lin.length = n2 at CB ⊢
  generalize b.vals.length = n3 at CB ⊢
  generalize b.lin.length = n4 at CB ⊢
  obtain ⟨z, hz⟩ : ∃ z, z = cmpTup a b := ⟨_, rfl⟩
  rw [← hz] at COR CORn ⊢
  generalize a.lo = l1 at COR CORn ⊢
  generalize a.hi = h1 at COR CORn ⊢
  generalize b.lo = l2 at COR CORn ⊢
  generalize b.hi = h2 at COR CORn ⊢
  clear hv hu hv2 hu2 hr1 HR hz hfc
  go_enter Tryz.func43, Tryz.ntmps43
  go_wp2_with fail
  have hB0 := grew_alloc2 w (.cells #[.slice a1 n1 c1, .int .i64 l1, .int .i64 h1, .slice a2 n2 c2] 52) (.cells #[.slice a3 n3 c3, .int .i64 l2, .int .i64 h2, .slice a4 n4 c4] 52)
  obtain ⟨⟨d0, d1, d2, d3⟩, _⟩ := box_four (heap_alloc_old' w (.cells #[.slice a1 n1 c1, .int .i64 l1, .int .i64 h1, .slice a2 n2 c2] 52) (.cells #[.slice a3 n3 c3, .int .i64 l2, .int .i64 h2, .slice a4 n4 c4] 52))
  obtain ⟨⟨e0, e1, e2, e3⟩, _⟩ := box_four (heap_alloc_new' w (.cells #[.slice a1 n1 c1, .int .i64 l1, .int .i64 h1, .slice a2 n2 c2] 52) (.cells #[.slice a3 n3 c3, .int .i64 l2, .int .i64 h2, .slice a4 n4 c4] 52))
  go_region_held3 (fun W => Grew w W ∧ W.cell? ⟨w.heap.size, 0, none⟩ = some (.slice a1 n1 c1) ∧ W.cell? ⟨w.heap.size, 1, none⟩ = some (.int .i64 l1) ∧ W.cell? ⟨w.heap.size, 2, none⟩ = some (.int .i64 h1) ∧ W.cell? ⟨w.heap.size, 3, none⟩ = some (.slice a2 n2 c2) ∧ W.cell? ⟨w.heap.size + 1, 0, none⟩ = some (.slice a3 n3 c3) ∧ W.cell? ⟨w.heap.size + 1, 1, none⟩ = some (.int .i64 l2) ∧ W.cell? ⟨w.heap.size + 1, 2, none⟩ = some (.int .i64 h2) ∧ W.cell? ⟨w.heap.size + 1, 3, none⟩ = some (.slice a4 n4 c4))
    ((go_split_ands; refine ⟨?_, ?_, ?_, ?_, ?_, ?_, ?_, ?_, ?_⟩ <;> first | (with_reducible assumption) | with_reducible exact Grew.drew (by assumption) | with_reducible exact cell_drew (by assumption) | with_reducible exact grew_keep (by assumption) (by assumption) | with_reducible exact cell_grew (by assumption) (by assumption) | with_reducible exact grew_alloc_keep (by assumption) | with_reducible exact cell_alloc (by assumption) | with_reducible exact grew_alloc_drew (by assumption) | with_reducible exact cell_alloc_drew (by assumption)))
    (first
      | (go_at_call 36; (with_reducible refine (row_g _ _ _ _ _ _ _ _ _ _ _ rfl rfl).mono ?_); rintro e' wR ⟨rfl, hgR⟩)
      | (go_at_call 86; go_split_ands; refine (CB _ (by first | assumption | exact Grew.drew (by assumption))).out.mono ?_; rintro e' wB ⟨rfl, hgB⟩)
      | (go_at_call 82; (with_reducible refine (CC _ _ _).out.mono ?_); rintro e' wI ⟨rfl, rfl⟩)
      | (go_at_call 85; first | (with_reducible refine (COR _).out.mono ?_) | (with_reducible refine (CORn _).out.mono ?_); rintro e' wO ⟨rfl, rfl⟩))
  all_goals go_split_ands
  all_goals go_wp2_with fail
  all_goals go_ret
  all_goals exact ⟨rfl, by assumption⟩
theorem swo_tup {β : Type} (f : β → Tup) : SWO (ltOf fun x y : β => cmpTup (f x) (f y)) where
  irrefl x := by
    show decide (cmpTup (f x) (f x) < 0) = false
    rw [cmpTup_zero.2 rfl]
    rfl
  trans x y z h1 h2 := by
    have h := sgn_tup (f x) (f y) (f z)
    have h1' : decide (cmpTup (f x) (f y) < 0) = true := h1
    have h2' : decide (cmpTup (f y) (f z) < 0) = true := h2
    show decide (cmpTup (f x) (f z) < 0) = true
    unfold Sgn3 at h
    rw [decide_eq_true_eq] at h1' h2' ⊢
    omega
  ntrans x y z h1 h2 := by
    have h := sgn_tup (f z) (f y) (f x)
    rw [cmpTup_swap (f y) (f z), cmpTup_swap (f x) (f y), cmpTup_swap (f x) (f z)] at h
    have h1' : decide (cmpTup (f x) (f y) < 0) = false := h1
    have h2' : decide (cmpTup (f y) (f z) < 0) = false := h2
    show decide (cmpTup (f x) (f z) < 0) = false
    unfold Sgn3 at h
    rw [decide_eq_false_iff_not] at h1' h2' ⊢
    omega
theorem sortTups_any (v : Value) (l : List Tup) (B : Nat) (w : World) (hO : Own tupE w B v l) (hl : l.length ≤ 1000000) :
    Calls Tryz.prog 42 #[v, .func (.func 43) #[] #[]] w fun e w' => e = .returned (.tuple #[]) ∧ ∃ l' : List Tup, l'.Perm l ∧ l'.Pairwise (fun x y => ¬ cmpTup y x < 0) ∧ Own tupE w' B v l' ∧ RowKit.Below B w w' := by
  rcases Nat.eq_zero_or_pos l.length with h0 | hpos
  · have hl0 : l = [] := List.eq_nil_of_length_eq_zero h0
    subst hl0
    obtain ⟨a, c, rfl⟩ := hO.shape
    refine (AnyF.slices_SortFunc_none sh_sortTups a c _ w).mono ?_
    rintro _ w' ⟨rfl, rfl⟩
    exact ⟨rfl, [], .refl _, .nil, hO, .refl _ _⟩
  · obtain ⟨g, c, rfl⟩ := Own.shape_lt hO hpos
    have hgl := (hO.lt g rfl).2
    refine (own_sorted cmpTup hO rfl hpos fun d hd hH hK => ?_).mono ?_
    · have eg : ∀ args w, (callFunc 43 args).run Tryz.prog w = .ok (.enter 43 args) w := enters_of Tryz.func43 (by kernel_rfl) rfl
      have hcmp : CmpLays Tryz.prog 43 #[] (Cel.cells (E := tupE) (w := w) (g := g)) 4 (fun x y => cmpTup x.val y.val) g 0 d.size w := fun m os dk hdk x y => by
        obtain ⟨v1, u1, e1, p1, q1⟩ := x.is
        obtain ⟨v2, u2, e2, p2, q2⟩ := y.is
        have hk := hK m os dk (hdk.trans hd)
        rw [e1, e2]
        exact tupCmp_g x.val y.val v1 u1 v2 u2 _ (p1.kept hk).free (q1.kept hk).free (p2.kept hk).free (q2.kept hk).free
      have := AnyQ.slices_SortFunc sh_sortTups 4 (fun w => Tryz.isAgg52 w) (fun w => Tryz.sizeOf52 w) (Cel.cells (E := tupE) (w := w) (g := g)) Cel.len Cel.one (fun x y => cmpTup x.val y.val) (swo_tup Cel.val) 43 #[] g 0 c d w eg hcmp hH hgl (by omega)
      have e : Value.slice (some ⟨g, 0, none⟩) d.size c = .slice (some ⟨g, 0, none⟩) l.length c := by rw [hd]
      rw [e] at this
      exact this
    · rintro _ w' ⟨rfl, l', hp, hs, hO', _, hb⟩
      exact ⟨rfl, l', hp, hs, hO', hb⟩
end Go.Proofs.YtngigmpaabmngaaGreatDoor

namespace Go.Proofs.YtngigmpaabmngaaGreatDoor
open Go.RowKit Go.Lib Go.Maps

theorem rowKey_len {r : GRow} (h : Keyable r) : (rowKeyL r).length ≤ 140737488355328 := by
  have h1 : In64 (r.vals.length : Int) := by have := h.nv; unfold In64; omega
  have h2 := itoa_le h1
  have h3 := linKey_length h.lin
  have h4 := h.key
  have h5 := h.nl
  unfold rowKeyL
  simp only [List.length_append, List.length_singleton]
  omega
theorem OwnSV.mono {w : World} {b n m : Nat} {f : List UInt8 → Option Value} (h : OwnSV w b n f) (hn : n ≤ m) : OwnSV w b m f := by
  obtain ⟨D, h1, h2⟩ := h; exact ⟨D, h1.mono hn, h2⟩
/-- The rows by their keys. -/
structure RowsIn (w0 : World) (l : List Tup) (f : List UInt8 → Option Value) : Prop where
  at' : ∀ s c, f s = some c → ∃ x ∈ l, pvalid x.lo x.hi = true ∧ keyT x = s ∧ ∃ v u, c = .agg #[v, u] ∧ Sl valE w0 free v x.vals ∧ Sl intE w0 free u x.lin
  dom : ∀ x ∈ l, pvalid x.lo x.hi = true → (f (keyT x)).isSome = true
theorem RowsIn.nil (w0 : World) : RowsIn w0 [] (fun _ => none) := ⟨(fun _ _ h => by cases h), (fun x hx => by simp at hx)⟩
theorem RowsIn.skip {w0 : World} {l : List Tup} {f : List UInt8 → Option Value} {x : Tup} (h : RowsIn w0 l f) (hx : pvalid x.lo x.hi = false) : RowsIn w0 (l ++ [x]) f := by
  refine ⟨fun s c hs => ?_, fun y hy hv => ?_⟩
  · obtain ⟨y, hy, r⟩ := h.at' s c hs
    exact ⟨y, by simp [hy], r⟩
  · rcases List.mem_append.1 hy with hy | hy
    · exact h.dom y hy hv
    · simp at hy; subst hy; rw [hx] at hv; cases hv
theorem RowsIn.put {w0 : World} {l : List Tup} {f : List UInt8 → Option Value} {x : Tup} {v u : Value} (h : RowsIn w0 l f) (hx : pvalid x.lo x.hi = true) (hv : Sl valE w0 free v x.vals) (hu : Sl intE w0 free u x.lin) :
    RowsIn w0 (l ++ [x]) (fun y => if y = keyT x then some (.agg #[v, u]) else f y) := by
  refine ⟨fun s c hs => ?_, fun y hy hyv => ?_⟩
  · split at hs
    · rename_i e
      cases hs
      exact ⟨x, by simp, hx, e.symm, v, u, rfl, hv, hu⟩
    · obtain ⟨y, hy, r⟩ := h.at' s c hs
      exact ⟨y, by simp [hy], r⟩
  · split
    · rfl
    · rename_i hne
      rcases List.mem_append.1 hy with hy | hy
      · exact h.dom y hy hyv
      · simp at hy; subst hy; exact absurd rfl hne
/-- The periods by their rows' keys: each a row of the call's own. -/
structure PersIn (w : World) (B : Nat) (l : List Tup) (f : List UInt8 → Option Value) : Prop where
  own : ∀ s v, f s = some v → Own perE w B v (perOf l s)
  none : ∀ s, f s = none → perOf l s = []
  apart : ∀ s s' v v', s ≠ s' → f s = some v → f s' = some v' → Apart v v'
theorem PersIn.nil (w : World) (B : Nat) : PersIn w B [] (fun _ => Option.none) := ⟨(fun _ _ h => by cases h), (fun _ _ => rfl), (fun _ _ _ _ _ h => by cases h)⟩
theorem PersIn.get {w : World} {B : Nat} {l : List Tup} {f : List UInt8 → Option Value} (h : PersIn w B l f) (s : List UInt8) : Own perE w B ((f s).getD (.slice Option.none 0 0)) (perOf l s) := by
  cases hf : f s with
  | none => rw [h.none s hf]; exact Own.nil _ _ _
  | some v => exact h.own s v hf
theorem PersIn.below {w w' : World} {B : Nat} {l : List Tup} {f : List UInt8 → Option Value} (h : PersIn w B l f) (hb : Below w.heap.size w w') : PersIn w' B l f :=
  ⟨fun s v hs => (h.own s v hs).below hb, h.none, h.apart⟩
theorem PersIn.kept {w w' : World} {B b n : Nat} {l : List Tup} {f g : List UInt8 → Option Value} (h : PersIn w B l f) (hm : OwnSV w b n g) (hg : w.grownBy w' (some b)) : PersIn w' B l f :=
  ⟨fun s v hs => (h.own s v hs).kept_flat perE_flat (.of_grown hg) fun _ hk e => hm.no_row (h.own s v hs) (hk.trans e), h.none, h.apart⟩
theorem PersIn.skip {w : World} {B : Nat} {l : List Tup} {f : List UInt8 → Option Value} {x : Tup} (h : PersIn w B l f) (hx : pvalid x.lo x.hi = false) : PersIn w B (l ++ [x]) f := by
  have e : ∀ s, perOf (l ++ [x]) s = perOf l s := fun s => by rw [perOf_snoc, if_neg (by simp [hx]), List.append_nil]
  exact ⟨fun s v hs => by rw [e]; exact h.own s v hs, fun s hs => by rw [e]; exact h.none s hs, h.apart⟩
theorem PersIn.get_apart {w : World} {B : Nat} {l : List Tup} {f : List UInt8 → Option Value} (h : PersIn w B l f) {s s' : List UInt8} {v : Value} (hne : s ≠ s') (hs : f s' = some v) : Apart ((f s).getD (.slice Option.none 0 0)) v := by
  cases hf : f s with
  | none => exact apart_none _
  | some u => exact h.apart s s' u v hne hf hs
theorem PersIn.put {w w' : World} {B g cap n : Nat} {l : List Tup} {f : List UInt8 → Option Value} {x : Tup} (h : PersIn w B l f) (hx : pvalid x.lo x.hi = true) (hp : Pushed perE B w w' ((f (keyT x)).getD (.slice Option.none 0 0)) (perOf l (keyT x) ++ [(x.lo, x.hi)]) g cap) (hn : (perOf l (keyT x)).length + 1 = n) :
    PersIn w' B (l ++ [x]) (fun y => if y = keyT x then some (.slice (some ⟨g, 0, Option.none⟩) n cap) else f y) := by
  have hlt : ∀ s v, f s = some v → ∀ k, v.ownBlock = some k → k < w.heap.size := fun s v hs k hk => ((h.own s v hs).lt k hk).2
  refine ⟨fun s v hs => ?_, fun s hs => ?_, fun s s' v v' hne hs hs' => ?_⟩
  · split at hs
    · rename_i e
      cases hs
      subst e
      rw [perOf_snoc, if_pos (by simp [hx])]
      exact hp.own' (by simp; omega)
    · rename_i e
      rw [perOf_snoc, if_neg (by simp [Ne.symm e]), List.append_nil]
      exact hp.keep perE_flat (h.get_apart (Ne.symm e) hs) (h.own s v hs)
  · split at hs
    · cases hs
    · rename_i e
      rw [perOf_snoc, if_neg (by simp [Ne.symm e]), List.append_nil]
      exact h.none s hs
  · split at hs
    · rename_i e
      cases hs
      split at hs'
      · rename_i e'; exact absurd (e.trans e'.symm) hne
      · rename_i e'
        exact hp.apart (h.get_apart (Ne.symm e') hs') (hlt s' v' hs')
    · rename_i e
      split at hs'
      · cases hs'
        exact (hp.apart (h.get_apart (Ne.symm e) hs) (hlt s v hs)).symm
      · exact h.apart s s' v v' hne hs hs'
theorem slPer_zero (w : World) : (zeroValue 68).run Tryz.prog w = .ok (.slice none 0 0) w := by kernel_rfl
set_option maxHeartbeats 8000000 in
set_option maxRecDepth 100000 in
theorem normalize_any (v : Value) (l : List Tup) (w : World) (hv : Tups w v l) (hl : l.length ≤ 100000) (hK : ∀ x ∈ l, Keyable x.row) (hT : Pow w) :
    Calls Tryz.prog 16 #[v] w fun e w' => ∃ T, IsNF l T ∧ T.length ≤ l.length ∧ RetOwn tupE w T e w' := by
  obtain ⟨a, c, rfl⟩ := hv.shape
  have HV := Lib.hid hv
  have HK := Lib.hid hK
  have HT := Lib.hid hT
  obtain ⟨n, hn⟩ : ∃ n, n = l.length := ⟨_, rfl⟩
  have HN := Lib.hid hn
  rw [← hn] at hl HV ⊢
  have hmm := @run_makeMap Tryz.prog
  have HM1 : Hid (OwnSV ((w.alloc (.map #[] 0)).alloc (.map #[] 0)) w.heap.size 0 (fun _ => none)) := Lib.hid ((OwnSV.made w).below (below_alloc _ _))
  have HM2 : Hid (OwnSV ((w.alloc (.map #[] 0)).alloc (.map #[] 0)) (w.heap.size + 1) 0 (fun _ => none)) := Lib.hid (by
    have := OwnSV.made (w.alloc (.map #[] 0))
    rw [World.size_alloc] at this
    exact this)
  clear hv hK hT hn
  go_enter Tryz.func16, Tryz.ntmps16
  go_wp2_with fail
  go_loopw [17] (fun i wr => ∃ (k : Nat) (fr fp : List UInt8 → Option Value), k ≤ n ∧ i = .int .i64 k ∧ OwnSV wr w.heap.size k fr ∧ OwnSV wr (w.heap.size + 1) k fp ∧ Hid (RowsIn w (l.take k) fr) ∧ Hid (PersIn wr w.heap.size (l.take k) fp) ∧ Hid (Below w.heap.size w wr)) (fun i _ => n - (RowKit.intOf i).toNat)
  case atStart => exact ⟨0, _, _, Nat.zero_le _, rfl, HM1.out, HM2.out, Lib.hid (RowsIn.nil _), Lib.hid (PersIn.nil _ _), Lib.hid (below_alloc_two _ _ _)⟩
  case round =>
    obtain ⟨k, fr, fp, hk, rfl, hR, hP, HRI, HPI, HB⟩ := hrel
    obtain ⟨wo, rfl⟩ : ∃ wo : World, wo = wr := ⟨_, rfl⟩
    by_cases hlt : k < n
    · obtain ⟨x, hx⟩ := lget_some l k (by rw [← HN.out]; exact hlt)
      obtain ⟨b, o, a1, n1, e1, m1, rfl, hvv, hll, p0, p1, p2, p3⟩ := tups_at HV.out hx
      replace p0 := cell_keep HB.out p0
      replace p1 := cell_keep HB.out p1
      replace p2 := cell_keep HB.out p2
      replace p3 := cell_keep HB.out p3
      have HTK : Hid (l.take (k + 1) = l.take k ++ [x]) := Lib.hid (take_get hx)
      have hky := HK.out x (List.mem_of_getElem? hx)
      have hlk : (l.take k).length ≤ 100000 := by rw [List.length_take]; omega
      obtain ⟨lk, hlke⟩ : ∃ lk, lk = l.take k := ⟨_, rfl⟩
      rw [← hlke] at HTK hlk HRI HPI
      obtain ⟨q, hq⟩ : ∃ q, q = pvalid x.lo x.hi := ⟨_, rfl⟩
      have HQ := Lib.hid hq
      have HPV := fun W => Lib.hid (pvalid_any x.lo x.hi W)
      rw [← hq] at HPV
      have HKY := Lib.hid hky
      have HVV := Lib.hid hvv
      have HLL := Lib.hid hll
      have HLK := Lib.hid hlk
      obtain ⟨xv, xlo, xhi, xl⟩ := x
      dsimp only at p0 p1 p2 p3 HVV HLL HPV HQ
      have hg := World.alloc_heap_new wo (.cells #[.slice a1 xv.length n1, .int .i64 xlo, .int .i64 xhi, .slice e1 xl.length m1] 52)
      have hb0 := below_alloc wo (.cells #[.slice a1 xv.length n1, .int .i64 xlo, .int .i64 xhi, .slice e1 xl.length m1] 52)
      have HB1 : Hid (Below w.heap.size w (wo.alloc (.cells #[.slice a1 xv.length n1, .int .i64 xlo, .int .i64 xhi, .slice e1 xl.length m1] 52))) := Lib.hid (below_alloc_keep HB.out)
      have HR1 := Lib.hid (hR.below hb0)
      have HP1 := Lib.hid (hP.below hb0)
      have HPI1 := Lib.hid (HPI.out.below hb0)
      have HG := Lib.hid hg
      have hzo := HB.out.size
      have hr1 := hR.lt
      have hr2 := hP.lt
      clear hx hvv hll hlke hq hky hR hP HPI hb0 hg hlk
      go_wp2_with fail
      refine (HPV _).out.mono ?_
      rintro _ w3 ⟨rfl, hb3⟩
      have HG3 := Lib.hid (box_kept HG.out hb3)
      obtain ⟨⟨d0, d1, d2, d3⟩, _, _, _, _⟩ := box_four HG3.out
      have HB3 : Hid (Below w.heap.size w w3) := Lib.hid (below_keep HB1.out hb3)
      have HR3 := Lib.hid (HR1.out.below hb3)
      have HP3 := Lib.hid (HP1.out.below hb3)
      have HPI3 := Lib.hid (HPI1.out.below hb3)
      clear hb3 HG HB1 HR1 HP1 HPI1 HPV
      cases q
      · go_wp2_with fail
        go_roundw
        case rel => exact ⟨k + 1, fr, fp, by omega, by go_num, HR3.out.mono (Nat.le_succ _), HP3.out.mono (Nat.le_succ _), by rw [HTK.out]; exact Lib.hid (HRI.out.skip HQ.out.symm), by rw [HTK.out]; exact Lib.hid (HPI3.out.skip HQ.out.symm), HB3⟩
        case measure => simp [RowKit.intOf]; omega
      · have HKEY : ∀ W, Below w.heap.size w W → Hid (Calls Tryz.prog 40 #[.agg #[.slice a1 xv.length n1, .int .i64 xlo, .int .i64 xhi, .slice e1 xl.length m1]] W fun e w' => e = .returned (.string ⟨(rowKeyL ⟨xv, xl⟩).toArray⟩) ∧ Below W.heap.size W w') := fun W hW => Lib.hid (rowKey_any _ _ xv xl xlo xhi W (HVV.out.below hW) (HLL.out.below hW) HKY.out (HT.out.below hW))
        have hkz := rowKey_len HKY.out
        obtain ⟨ks, hks⟩ : ∃ ks : ByteArray, ks = ⟨(rowKeyL (Tup.row ⟨xv, xlo, xhi, xl⟩)).toArray⟩ := ⟨_, rfl⟩
        have HKS : Hid (ks.size ≤ maxLen) := by show ks.size ≤ maxLen; rw [hks]; show (rowKeyL _).toArray.size ≤ maxLen; rw [List.size_toArray]; unfold maxLen; omega
        have HKL : Hid (ks.data.toList = keyT ⟨xv, xlo, xhi, xl⟩) := by show _ = _; rw [hks]; rfl
        have e : (⟨(rowKeyL ⟨xv, xl⟩).toArray⟩ : ByteArray) = ks := hks.symm
        rw [e] at HKEY
        have HKM : Hid (k < maxLen) := by show k < maxLen; unfold maxLen; omega
        clear hks hkz e
        go_wp2_with fail
        refine (HKEY _ HB3.out).out.mono ?_
        rintro _ w4 ⟨rfl, hb4⟩
        have HG4 := Lib.hid (box_kept HG3.out hb4)
        clear d0 d1 d2 d3
        obtain ⟨⟨d0, d1, d2, d3⟩, _, _, _, _⟩ := box_four HG4.out
        have HB4 : Hid (Below w.heap.size w w4) := Lib.hid (below_keep HB3.out hb4)
        have HR4 := Lib.hid (HR3.out.below hb4)
        have HP4 := Lib.hid (HP3.out.below hb4)
        have HPI4 := Lib.hid (HPI3.out.below hb4)
        clear hb4 HG3 HB3 HR3 HP3 HPI3 HKEY
        go_wp2_with fail
        refine (tupleRow_any _ _ _ _ _ _ _ _ _ _ _ rfl rfl).mono ?_
        rintro _ w5 ⟨rfl, hb5⟩
        have HG5 := Lib.hid (box_kept HG4.out hb5)
        have HB5 : Hid (Below w.heap.size w w5) := Lib.hid (below_keep HB4.out hb5)
        have HR5 := Lib.hid (HR4.out.below hb5)
        have HP5 := Lib.hid (HP4.out.below hb5)
        have HPI5 := Lib.hid (HPI4.out.below hb5)
        clear hb5 HG4 HB4 HR4 HP4 HPI4 d0 d1 d2 d3
        go_wp2_with (at_mapUpdate; refine wpList_putSV Tryz.underlying65 _ rfl _ _ _ rfl w.heap.size k fr rfl HR5.out HKM.out ks (.agg #[.slice a1 xv.length n1, .slice e1 xl.length m1]) rfl rfl HKS.out ?_; intro w6 hR6 hg6)
        have HG6 : Hid (w6.heap[wo.heap.size]? = some (.cells #[.slice a1 xv.length n1, .int .i64 xlo, .int .i64 xhi, .slice e1 xl.length m1] 52 (0, 0))) := Lib.hid ((hg6.block wo.heap.size (Array.getElem?_eq_some_iff.1 HG5.out).1 (by simp; omega)).trans HG5.out)
        obtain ⟨⟨d0, d1, d2, d3⟩, _, _, _, _⟩ := box_four HG6.out
        have HB6 : Hid (Below w.heap.size w w6) := Lib.hid (HB5.out.grown hg6 HB5.out.size (fun j hj => by cases hj; exact Nat.le_refl _))
        have HP6 := Lib.hid (HP5.out.kept (.of_grown hg6) (by simp))
        have HPI6 := Lib.hid (HPI5.out.kept HR5.out hg6)
        have HR6 := Lib.hid hR6
        have hO6 := HPI6.out.get (keyT ⟨xv, xlo, xhi, xl⟩)
        have hlook := HP6.out.look Tryz.underlying66 (slPer_zero w6) HKS.out
        rw [HKL.out] at hlook
        obtain ⟨pv, hpv⟩ : ∃ pv, pv = (fp (keyT ⟨xv, xlo, xhi, xl⟩)).getD (.slice none 0 0) := ⟨_, rfl⟩
        rw [← hpv] at hlook hO6
        obtain ⟨pl, hpl⟩ : ∃ pl, pl = perOf lk (keyT ⟨xv, xlo, xhi, xl⟩) := ⟨_, rfl⟩
        rw [← hpl] at hO6
        have hplz : pl.length ≤ 100000 := by rw [hpl]; exact Nat.le_trans (perOf_len _ _) HLK.out
        obtain ⟨ap, cp, rfl⟩ := hO6.shape
        have HO6 := Lib.hid hO6
        have HPV := Lib.hid hpv
        have HPL := Lib.hid hpl
        have hn1 := HP6.out.no_row hO6
        have hn2 := HR6.out.no_row hO6
        have HN1 := Lib.hid hn1
        have HN2 := Lib.hid hn2
        clear hR6 hg6 HG5 HB5 HR5 HP5 HPI5 hO6 hpv hpl hn1 hn2
        rw [hlook]
        go_wp2_with (at_builtin; refine wpList_push rfl (.tmp 34) (.tmp 37) 68 rfl perE Tryz.underlying68 w.heap.size (.slice ap pl.length cp) pl rfl HO6.out [(xlo, xhi)] #[.int .i64 xlo, .int .i64 xhi] (Els.one rfl) 1 1 rfl rfl (by decide) (by unfold maxLen; omega) (by show _ * 16 ≤ _; omega) HB6.out.size ?_; intro g cap w7 hP7 hPa)
        have HP7 := Lib.hid (HP6.out.kept hP7.kept (fun e => HN1.out e.symm))
        have HR7 := Lib.hid (HR6.out.kept hP7.kept (fun e => HN2.out e.symm))
        have HB7 : Hid (Below w.heap.size w w7) := Lib.hid (HB6.out.trans hP7.below)
        have HPI7 : Hid (PersIn w7 w.heap.size (lk ++ [⟨xv, xlo, xhi, xl⟩]) (fun y => if y = keyT ⟨xv, xlo, xhi, xl⟩ then some (.slice (some ⟨g, 0, none⟩) (pl.length + 1) cap) else fp y)) := Lib.hid (by
          have h1 := hP7
          rw [HPV.out, HPL.out] at h1
          have h2 := HPI6.out.put (x := ⟨xv, xlo, xhi, xl⟩) HQ.out.symm (n := pl.length + 1) h1 (by rw [HPL.out])
          exact h2)
        clear hP7 hPa HP6 HR6 HB6 HPI6 HO6 HG6 d0 d1 d2 d3 hlook HN1 HN2 HPV HPL
        obtain ⟨w8, hrun8, hP8, hg8⟩ := HP7.out.put Tryz.underlying66 HKM.out HKS.out (.slice (some ⟨g, 0, none⟩) (pl.length + 1) cap)
        rw [hrun8]
        clear hrun8
        go_wp2_with fail
        have HB8 : Hid (Below w.heap.size w w8) := Lib.hid (HB7.out.grown hg8 HB7.out.size (fun j hj => by cases hj; exact Nat.le_succ _))
        have HR8 := Lib.hid (HR7.out.kept (.of_grown hg8) (by simp))
        have HPI8 := Lib.hid (HPI7.out.kept HP7.out hg8)
        rw [HKL.out] at hP8 HR8
        go_roundw
        case rel => exact ⟨k + 1, _, _, by omega, by go_num, HR8.out, hP8, by rw [HTK.out]; exact Lib.hid (HRI.out.put HQ.out.symm HVV.out HLL.out), by rw [HTK.out]; exact HPI8, HB8⟩
        case measure => simp [RowKit.intOf]; omega
    · have hkk : l.take k = l := List.take_of_length_le (by rw [← HN.out]; omega)
      rw [hkk] at HRI HPI
      have HR := Lib.hid hR
      have HP := Lib.hid hP
      have hzo := HB.out.size
      have hr1 := hR.lt
      have hr2 := hP.lt
      clear hkk hR hP hmm
      go_wp2_with (at_range; refine wpList_rangeSV Tryz.underlying65 _ rfl _ rfl w.heap.size k fr rfl HR.out ?_; intro w2 cnt0 hrg0 hg0 hs0)
      go_frame
      have hb2 : Below wo.heap.size wo w2 := (Below.refl _ _).grown hg0 (Nat.le_refl _) (fun j hj => by cases hj)
      have HBO2 := Lib.hid hb2
      have HB2 := Lib.hid (below_keep HB.out hb2)
      have HRG0 := Lib.hid hrg0
      have HZ2 := Lib.hid hs0
      have hz2 : wo.heap.size < w2.heap.size := by omega
      clear hrg0 hg0 hs0 hb2 HR
      go_loopw [8] (fun o wr => ∃ (L : List UInt8 → Bool) (cnt : Nat) (out : List Tup), RngSV wr w.heap.size wo.heap.size k fr L cnt ∧ Own (tupE.avoid fun k => k = wo.heap.size) wr (wo.heap.size + 1) o out ∧ Hid (NrmI l L out) ∧ Hid (Below wo.heap.size w2 wr)) (fun _ wr => wr.rangeLeft w.heap.size wo.heap.size)
      case atStart => exact ⟨_, _, [], HRG0.out, Own.nil _ _ _, Lib.hid (NrmI.start HRI.out.dom), Lib.hid (.refl _ _)⟩
      case round =>
        obtain ⟨L, cnt, out, hrg, hO, HI, HBR⟩ := hrel
        obtain ⟨w6, rfl⟩ : ∃ w6 : World, w6 = wr := ⟨_, rfl⟩
        obtain ⟨ao, co, rfl⟩ := hO.shape
        have HRG := Lib.hid hrg
        have HO := Lib.hid hO
        have hol := HI.out.small
        rw [← HN.out] at hol
        have HB6 : Hid (Below w.heap.size w w6) := Lib.hid (HB2.out.trans (HBR.out.mono (by omega)))
        clear hrg hO
        go_wp2_with (at_next; refine wpList_nextSV _ rfl _ rfl w.heap.size wo.heap.size k fr L cnt rfl HRG.out ?_ ?_)
        · intro hdone
          have HD := Lib.hid hdone
          have HSR := Lib.hid (sortTups_any _ out _ w6 HO.out.forget (by omega))
          clear hdone
          go_wp2_with fail
          refine HSR.out.mono ?_
          rintro _ w7 ⟨rfl, T, hp, hs, hO7, hb7⟩
          obtain ⟨aT, cT, eT⟩ := hO7.shape
          have HO7 := Lib.hid hO7
          have HPM := Lib.hid hp
          have HST := Lib.hid hs
          have HB7 : Hid (Below w.heap.size w w7) := Lib.hid (HB6.out.trans (hb7.mono (by omega)))
          clear hp hs hO7 hb7 eT HSR
          go_wp2_with fail
          go_ret
          exact ⟨T, HI.out.done HD.out HPM.out (HST.out.imp (by intro a b h; omega)), by rw [HPM.out.length_eq, HN.out]; exact HI.out.small, _, rfl, HO7.out.mono (by omega), HB7.out⟩
        · intro s c w7 cnt7 hss hf hL hrg7 hlt7 hg7 hsz7 hen7
          obtain ⟨x, hxl, hxv, hxk, v1, u1, rfl, hv1, hu1⟩ := HRI.out.at' _ _ hf
          obtain ⟨a1, c1, rfl⟩ := hv1.shape
          obtain ⟨b1, d1, rfl⟩ := hu1.shape
          have hky := HK.out x hxl
          obtain ⟨xv, xlo, xhi, xl⟩ := x
          dsimp only at hv1 hu1 hen7
          have HV1 := Lib.hid hv1
          have HU1 := Lib.hid hu1
          have HKY := Lib.hid hky
          have HXK : Hid (rowKeyL (Tup.row ⟨xv, xlo, xhi, xl⟩) = s.data.toList) := Lib.hid hxk
          have HL := Lib.hid hL
          have HLT7 := Lib.hid hlt7
          have HRG7 := Lib.hid hrg7
          have HSS := Lib.hid hss
          have hz6 := HBR.out.size
          have HBR7 : Hid (Below wo.heap.size w2 w7) := Lib.hid (HBR.out.grown hg7 (by omega) (fun j hj => by cases hj; exact Nat.le_refl _))
          have HO7 := Lib.hid (HO.out.else (w' := w7) ⟨by omega, fun k hk hne => hg7.block k hk (fun e => hne (by cases e; rfl))⟩ (fun k hk e => by have := (HO.out.lt k hk).1; cases e; omega))
          have hbo7 : Below wo.heap.size wo w7 := HBO2.out.trans HBR7.out
          have hb8 := below_alloc w7 (.cells #[.slice a1 xv.length c1, .slice b1 xl.length d1] 39)
          have hbo8 := below_keep hbo7 hb8
          have hO8 := (HPI.out.below hbo8).get s.data.toList
          have hlook := (HP.out.below hbo8).look Tryz.underlying66 (slPer_zero _) HSS.out
          obtain ⟨pv, hpv⟩ : ∃ pv, pv = (fp s.data.toList).getD (.slice none 0 0) := ⟨_, rfl⟩
          rw [← hpv] at hlook hO8
          obtain ⟨pl, hpl⟩ : ∃ pl, pl = perOf l s.data.toList := ⟨_, rfl⟩
          rw [← hpl] at hO8
          have hplz : pl.length ≤ 100000 := by rw [hpl]; exact Nat.le_trans (perOf_len _ _) (by rw [← HN.out]; exact hl)
          have hpv2 : ∀ p ∈ pl, pvalid p.1 p.2 = true := by rw [hpl]; exact perOf_valid _ _
          have HLV := Lib.hid (levels_any _ pl _ hO8.sl hplz hpv2)
          obtain ⟨ap, cp, rfl⟩ := hO8.shape
          have HPL := Lib.hid hpl
          have hX8 := World.alloc_heap_new w7 (.cells #[.slice a1 xv.length c1, .slice b1 xl.length d1] 39)
          have HX8 := Lib.hid hX8
          have HO8 := Lib.hid (HO7.out.below hb8)
          have HBR8 : Hid (Below (wo.heap.size + 1) w7 (w7.alloc (.cells #[.slice a1 xv.length c1, .slice b1 xl.length d1] 39))) := Lib.hid (hb8.mono (by omega))
          have hz7 : wo.heap.size < w7.heap.size := by have := HBR7.out.size; omega
          clear hsz7 hv1 hu1 hky hxk hL hlt7 hrg7 hss hf hg7 hbo7 hbo8 hO8 hpv hpl hpv2 hb8 hX8 hxl hxv HO
          go_wp2_with fail
          clear hlook
          refine HLV.out.mono ?_
          rintro _ w9 ⟨M, hM, hMl, vM, rfl, hOM, hb9⟩
          obtain ⟨aM, cM, rfl⟩ := hOM.shape
          have HX9 := Lib.hid (box_kept HX8.out hb9)
          have HO9 := Lib.hid (HO8.out.below hb9)
          have HBR9 := Lib.hid (HBR8.out.trans (hb9.mono (by simp; omega)))
          have HOM := Lib.hid (hOM.mono (B' := w7.heap.size + 1) (by simp))
          have HM := Lib.hid hM
          have HML := Lib.hid hMl
          have hal : ∀ k, (Value.slice ao out.length co).ownBlock = some k → k < w7.heap.size := fun k hk => (HO7.out.lt k hk).2
          have HAP : Hid (Apart (Value.slice ao out.length co) (.slice aM M.length cM)) := Lib.hid (fun k hk e => by have h1 := hal k hk; have h2 := (HOM.out.lt k e).1; omega)
          have HNE : Hid ((Value.slice ao out.length co).ownBlock ≠ some w7.heap.size) := Lib.hid (fun e => by have := hal _ e; omega)
          have hz9 : w7.heap.size < w9.heap.size := (Array.getElem?_eq_some_iff.1 HX9.out).1
          clear hM hOM hb9 hal HLV HX8 HO8 HBR8
          go_wp2_with fail
          go_loopw [52, 8] (fun i o wr => ∃ j : Nat, j ≤ M.length ∧ i = .int .i64 j ∧ Own (tupE.avoid fun k => k = wo.heap.size) wr (wo.heap.size + 1) o (out ++ (M.take j).map fun p => (⟨xv, p.1, p.2, xl⟩ : Tup)) ∧ Own perE wr (w7.heap.size + 1) (.slice aM M.length cM) M ∧ Hid (Apart o (.slice aM M.length cM)) ∧ Hid (o.ownBlock ≠ some w7.heap.size) ∧ Hid (wr.heap[w7.heap.size]? = some (.cells #[.slice a1 xv.length c1, .slice b1 xl.length d1] 39 (0, 0))) ∧ Hid (Below (wo.heap.size + 1) w7 wr)) (fun i _ _ => M.length - (RowKit.intOf i).toNat)
          case atStart => exact ⟨0, Nat.zero_le _, rfl, by simpa using HO9.out, HOM.out, HAP, HNE, HX9, HBR9⟩
          case round =>
            obtain ⟨j, hj, rfl, hOj, hMj, HAj, HNj, HXj, HBj⟩ := hrel
            obtain ⟨wx, rfl⟩ : ∃ wx : World, wx = wr := ⟨_, rfl⟩
            obtain ⟨acc, hacc⟩ : ∃ acc, acc = out ++ (M.take j).map fun p => (⟨xv, p.1, p.2, xl⟩ : Tup) := ⟨_, rfl⟩
            rw [← hacc] at hOj
            obtain ⟨aj, cj, rfl⟩ := hOj.shape
            by_cases hjlt : j < M.length
            · obtain ⟨p, hp⟩ := lget_some M j hjlt
              obtain ⟨b, o, rfl, p0, p1⟩ := pers_at hMj.sl hp
              have HAC : Hid (out ++ (M.take (j + 1)).map (fun p => (⟨xv, p.1, p.2, xl⟩ : Tup)) = acc ++ [⟨xv, p.1, p.2, xl⟩]) := by show _ = _; rw [hacc, take_get hp, List.map_append, List.append_assoc]; rfl
              have hacl : acc.length ≤ 200000 := by rw [hacc, List.length_append, List.length_map, List.length_take]; have := HML.out; omega
              obtain ⟨pl1, ph1⟩ := p
              dsimp only at p0 p1 HAC
              have hba := below_alloc wx (.cells #[.int .i64 pl1, .int .i64 ph1] 50)
              have hXa := box_kept HXj.out hba
              obtain ⟨e0, e1⟩ := box_two' hXa
              have HOa := Lib.hid (hOj.below hba)
              have HMa := Lib.hid (hMj.below hba)
              have HXa := Lib.hid hXa
              have HBa := Lib.hid (below_tr HBj.out (hba.mono (by have := HBj.out.size; omega)))
              have HWa : Hid (Below w.heap.size w (wx.alloc (.cells #[.int .i64 pl1, .int .i64 ph1] 50))) := Lib.hid (below_tr (below_tr HB2.out (HBR7.out.mono (by omega))) (HBa.out.mono (by omega)))
              have hzx := HBj.out.size
              clear hp hOj hMj hba hXa hacc
              go_wp2_with fail
              refine (during_any _ _ ⟨xv, pl1, ph1, xl⟩ _ (HV1.out.below HWa.out).vals (HU1.out.below HWa.out).ints HKY.out.nv HKY.out.nl).mono ?_
              rintro _ wD hN
              obtain ⟨a4, c4, b4, d4, rfl, his⟩ := hN.cells
              have hbD := hN.below
              have HOD := Lib.hid (HOa.out.below hbD)
              have HMD := Lib.hid (HMa.out.below hbD)
              have HXD := Lib.hid (box_kept HXa.out hbD)
              have HBD := Lib.hid (below_tr HBa.out (hbD.mono (by have := HBa.out.size; omega)))
              have HIS : Hid (Els (tupE.avoid fun k => k = wo.heap.size) wD (fun k => some k = (Value.slice aj acc.length cj).ownBlock) [⟨xv, pl1, ph1, xl⟩] [.slice a4 xv.length c4, .int .i64 pl1, .int .i64 ph1, .slice b4 xl.length d4]) := Lib.hid (Els.one (tupE.mono his (fun k _ hk => by
                rcases hk with hk | hk
                · exact (HOa.out.lt k hk.symm).2
                · have := HBa.out.size; omega)))
              have hzD := HBD.out.size
              clear hN his hbD HOa HMa HXa HBa HWa e0 e1
              go_wp2_with (at_builtin; refine wpList_push rfl (.tmp 56) (.tmp 60) 24 rfl (tupE.avoid fun k => k = wo.heap.size) Tryz.underlying24 (wo.heap.size + 1) (.slice aj acc.length cj) acc rfl HOD.out [⟨xv, pl1, ph1, xl⟩] #[.slice a4 xv.length c4, .int .i64 pl1, .int .i64 ph1, .slice b4 xl.length d4] HIS.out 1 1 rfl rfl (by decide) (by unfold maxLen; omega) (by show _ * 64 ≤ _; omega) (by omega) ?_; intro g cap w5 hP hPa)
              go_roundw
              case rel =>
                refine ⟨j + 1, by omega, by go_num, ?_, ?_, ?_, ?_, ?_, ?_⟩
                · rw [HAC.out]; exact hP.own' (by simp)
                · exact hP.keep perE_flat HAj.out HMD.out
                · exact Lib.hid (hP.apart HAj.out (fun k hk => (HMD.out.lt k hk).2))
                · exact Lib.hid (fun e => hP.ne' (n := acc.length + 1) (fun e2 => HNj.out e2.symm) HXD.out e.symm)
                · exact Lib.hid (hP.block (fun e2 => HNj.out e2.symm) HXD.out)
                · exact Lib.hid (HBD.out.trans hP.below)
              case measure => simp [RowKit.intOf]; omega
            · have hjM : j = M.length := by omega
              subst hjM
              have HRGj : Hid (RngSV wx w.heap.size wo.heap.size k fr (fun z => L z && !(z == s.data.toList)) cnt7) := Lib.hid (HRG7.out.below HBj.out (by omega) (Nat.lt_succ_self _))
              have HIj : Hid (NrmI l (fun z => L z && !(z == s.data.toList)) acc) := Lib.hid (by
                have h1 := HPL.out
                have h2 := HM.out
                have h3 := HML.out
                rw [h1, ← HXK.out] at h2 h3
                have h4 := HI.out.step (r := Tup.row ⟨xv, xlo, xhi, xl⟩) (by rw [HXK.out]; exact HL.out) h2 h3
                rw [HXK.out] at h4
                rw [hacc, List.take_of_length_le (Nat.le_refl _)]
                exact h4)
              have HOJ := Lib.hid hOj
              have HBJ : Hid (Below wo.heap.size w2 wx) := Lib.hid (below_tr HBR7.out (HBj.out.mono (by omega)))
              clear hOj hMj hacc
              go_wp2_with fail
              go_roundw
              case rel => exact ⟨_, _, _, HRGj.out, HOJ.out, HIj, HBJ⟩
              case measure =>
                rw [HRGj.out.left_eq, HRG.out.left_eq]
                exact HLT7.out
end Go.Proofs.YtngigmpaabmngaaGreatDoor

namespace Go.Proofs.YtngigmpaabmngaaGreatDoor
open Go.RowKit Go.Lib

section
variable {P : Program} {α : Type}
theorem setL_take_at (us xs : List Value) (s i k j : Nat) (hj : j + us.length ≤ s) (hk : k * s + s ≤ xs.length) : ((setL xs (k * s + j) us).drop (i * s)).take s = if i = k then setL ((xs.drop (i * s)).take s) j us else (xs.drop (i * s)).take s := by
  refine List.ext_getElem? fun m => ?_
  rw [List.getElem?_take, List.getElem?_drop, setL_get]
  by_cases hm : m < s
  · rw [if_pos hm]
    by_cases hik : i = k
    · subst hik
      rw [if_pos rfl, setL_get, List.length_take, List.length_drop, List.getElem?_take, if_pos hm, List.getElem?_drop]
      by_cases h : j ≤ m ∧ m < j + us.length
      · rw [if_pos (by omega), if_pos (by omega), show i * s + m - (i * s + j) = m - j by omega]
      · rw [if_neg (by omega), if_neg (by omega)]
    · rw [if_neg hik, List.getElem?_take, if_pos hm, List.getElem?_drop, if_neg]
      intro h
      rcases Nat.lt_or_gt_of_ne hik with h' | h'
      · have := Nat.mul_le_mul_right s (show i + 1 ≤ k from h'); rw [Nat.add_mul, Nat.one_mul] at this; omega
      · have := Nat.mul_le_mul_right s (show k + 1 ≤ i from h'); rw [Nat.add_mul, Nat.one_mul] at this; omega
  · rw [if_neg hm]
    split
    · rw [List.getElem?_eq_none]
      rw [setL_length, List.length_take]
      omega
    · rw [List.getElem?_take, if_neg hm]
/-- Some cells of one element are stored anew. -/
theorem Own.put_at {E : El P α} {w : World} {B g n c k j : Nat} {l : List α} {y : α} {us : List Value} (h : Own E w B (.slice (some ⟨g, 0, none⟩) n c) l) (hn : l.length = n) (hk : k < n) (hj : j + us.length ≤ E.size)
    (hx : ∀ x cs, l[k]? = some x → E.is w (fun m => some m = some g) x cs → E.is w (fun m => some m = some g) y (setL cs j us)) :
    Own E (w.setCells g (k * E.size + j) us) B (.slice (some ⟨g, 0, none⟩) n c) (l.set k y) ∧ w.grownBy (w.setCells g (k * E.size + j) us) (some g) := by
  obtain ⟨xs, h1, h2⟩ := h
  rw [hn] at h1
  obtain ⟨h3, h4⟩ := owns_setCells us w xs (k * E.size + j) h1
  have hK : Kept (fun m => some m = some g) w (w.setCells g (k * E.size + j) us) := .of_grown h4
  have hxl : xs.length = n * E.size := h1.1
  have hb : k * E.size + E.size ≤ xs.length := by
    have := Nat.mul_le_mul_right E.size (show k + 1 ≤ n from hk); rw [Nat.add_mul, Nat.one_mul] at this; omega
  refine ⟨⟨_, by rw [List.length_set, hn]; exact h3, fun i z hz => ?_⟩, h4⟩
  rw [setL_take_at us xs E.size i k j hj hb]
  by_cases hik : i = k
  · subst hik
    rw [if_pos rfl]
    rw [List.getElem?_set_self (by omega)] at hz
    cases hz
    have hl : l[i]? = some l[i] := List.getElem?_eq_getElem (by omega)
    exact E.kept (hx _ _ hl (h2 i _ hl)) hK
  · rw [if_neg hik]
    rw [List.getElem?_set_ne (Ne.symm hik)] at hz
    exact E.kept (h2 i z hz) hK
theorem Own.shape_pos {E : El P α} {w : World} {B : Nat} {v : Value} {l : List α} (h : Own E w B v l) (hp : 0 < l.length) : ∃ g c, v = .slice (some ⟨g, 0, none⟩) l.length c := by
  obtain ⟨xs, h1, _⟩ := h
  rcases h1.2 with ⟨_, h⟩ | ⟨g, cap, cur, e, _⟩
  · omega
  · exact ⟨g, cap, e⟩
end
end Go.Proofs.YtngigmpaabmngaaGreatDoor

namespace Go.Proofs.YtngigmpaabmngaaGreatDoor
open Go

section
variable {P : Program} {md : Region.Mode} {ops : Array Oper} {Q : Exit → Act → World → Prop} {S : World → Prop}
theorem take_n {i : Nat} {d : Option Tmp} {fuel : Nat} {listed : Array Bool} {a : Act} {w : World} (hi : (ops[i]?).map (·.dst) = some d)
    (hw : (ops[i]?).map (fun o => Region.wanted o (yielded ops a.tmps)) = some false)
    (hs : Region.noSelect ops = true) (hf : Region.free md ops listed i = true) (hr : (Region.ready md ops listed).contains i = true)
    (hQ : ∀ c a w, Q (.panic c) (a.put d undef) w → Q (.panic c) a w) (hS : S w)
    (h : wpAnyH P md ops Q S fuel (listed.setIfInBounds i true) (a.put d undef) w) : wpAnyH P md ops Q S (fuel + 1) listed a w := by
  cases ho : ops[i]? with
  | none => rw [ho] at hi; cases hi
  | some o =>
    rw [ho] at hi hw
    simp only [Option.map_some, Option.some.injEq] at hi hw
    subst hi
    exact wpAnyH_take ho hs hf hr hQ (Or.inr ⟨hw, rfl⟩) hS h
theorem take_y {i : Nat} {d : Option Tmp} {v : Value} {fuel : Nat} {listed : Array Bool} {a : Act} {w : World} (hi : (ops[i]?).map (·.dst) = some d)
    (hw : (ops[i]?).map (fun o => Region.wanted o (yielded ops a.tmps)) = some true)
    (hs : Region.noSelect ops = true) (hf : Region.free md ops listed i = true) (hr : (Region.ready md ops listed).contains i = true)
    (hQ : ∀ c a w, Q (.panic c) (a.put d v) w → Q (.panic c) a w) (hS : S w)
    (hy : ∀ o, ops[i]? = some o → ∀ w, S w → (execOp a.eval o).run P w = .ok (.value v) w)
    (h : wpAnyH P md ops Q S fuel (listed.setIfInBounds i true) (a.put d v) w) : wpAnyH P md ops Q S (fuel + 1) listed a w := by
  cases ho : ops[i]? with
  | none => rw [ho] at hi; cases hi
  | some o =>
    rw [ho] at hi hw
    simp only [Option.map_some, Option.some.injEq] at hi hw
    subst hi
    exact wpAnyH_take ho hs hf hr hQ (Or.inl ⟨hw, hy o ho⟩) hS h
end
end Go.Proofs.YtngigmpaabmngaaGreatDoor
