/- A part of the proofs: BndP, Tlp, BldB, BldC, Tlk, Vav, Tvd, Mrg, RSpl, SplJ, ShCp, Bnd, Sin, Awt, Srw, SplK, SplL, Lift, OpenG, LaidP, Open, OpenU, OpenB, OpenC. No condition beside sizes and tables that read as laid. -/
import Derived.Test.YtnfccpkmaebbiaaGreatDoorMgAc
import Derived.Lib.SlicesCompact
import Derived.Lib.RowBridge
import Derived.Test.YtnfccpkmaebbiaaGreatDoorMgAb
import Derived.Test.YtnfccpkmaebbiaaGreatDoorMgAa
import Derived.Shelf.Small.Bits
import Derived.Shelf.Small.Strs
import Derived.Shelf.Strconv.Itoa0
import Derived.Shelf.Sort.Plain
import Derived.Shelf.Bits.Mul64
import Derived.Ground.Names2Prog
import Derived.Shelf.Slices.Clone
import Derived.Shelf.Slices.CompactI
import Derived.Shelf.Slices.SearchI
import Derived.Shelf.Slices.Cells
import Derived.Shelf.Slices.In.SortNone
import Derived.Shelf.Slices.Empties
import Derived.Ground.SlgnProg
import Derived.Shelf.SlicesG.SearchI
import Derived.Shelf.SlicesE.Clone
import Derived.Test.YtnfccpkmaebbiaaGreatDoorProg
import Derived.Test.YtnfccpkmaebbiaaGreatDoorRows
import Derived.ProofKit
import Derived.OpenShut
import Derived.Carry
import Derived.Deep.DeepHandedRow
import Derived.Lib.LaidTab
import Derived.Shelf.Vars
import Derived.Deep.Slices
import Derived.Test.YtnfccpkmaebbiaaGreatDoorChecked
import Derived.Stop.LaidErr
import Derived.LaidLaws
import Derived.Lib.Strings
namespace Go.Proofs.YtnfccpkmaebbiaaGreatDoor
open Go.RowKit Go.Lib

def ends (t : Tup) : List Int := if pvalid t.lo t.hi = true then [t.lo, t.hi] else []
def allEnds (l : List Tup) : List Int := l.flatMap ends
theorem ends_length (t : Tup) : (ends t).length ≤ 2 := by unfold ends; split <;> simp
theorem allEnds_length (l : List Tup) : (allEnds l).length ≤ l.length * 2 := flatMap_len_le _ _ ends_length l
theorem allEnds_snoc (l : List Tup) (k : Nat) (t : Tup) (h : l[k]? = some t) : allEnds (l.take (k + 1)) = allEnds (l.take k) ++ ends t := by
  rw [take_get h, allEnds, List.flatMap_append]; simp [allEnds]
theorem allEnds_take_length (l : List Tup) (k : Nat) : (allEnds (l.take k)).length ≤ l.length * 2 := Nat.le_trans (allEnds_length _) (Nat.mul_le_mul_right _ (List.length_take_le' _ _))
def bnds (l : List Tup) : List Int := Lib.compact (srt (allEnds l))
theorem keeps_first (d : Array Int) : ∀ j, j < d.size → ∃ i, i ≤ j ∧ Lib.keeps d i = true ∧ d[i]! = d[j]! := by
  intro j
  induction j with
  | zero => intro _; exact ⟨0, Nat.le_refl _, by simp [Lib.keeps], rfl⟩
  | succ j ih =>
    intro hj
    by_cases e : d[j + 1]! = d[j]!
    · obtain ⟨i, h1, h2, h3⟩ := ih (by omega)
      exact ⟨i, by omega, h2, by rw [h3, e]⟩
    · exact ⟨j + 1, Nat.le_refl _, Lib.keeps_pos (by simpa using e), rfl⟩
theorem compact_mem (zs : List Int) (x : Int) : x ∈ Lib.compact zs ↔ x ∈ zs := by
  unfold Lib.compact Lib.compactUpTo
  rw [List.mem_map]
  constructor
  · rintro ⟨i, hi, rfl⟩
    have h1 := List.mem_range.1 (List.mem_filter.1 hi).1
    rw [getElem!_pos zs.toArray i (by simpa using h1)]
    simp
  · intro hx
    obtain ⟨j, hj, rfl⟩ := List.getElem_of_mem hx
    obtain ⟨i, h1, h2, h3⟩ := keeps_first zs.toArray j (by simpa using hj)
    refine ⟨i, List.mem_filter.2 ⟨List.mem_range.2 (by omega), h2⟩, ?_⟩
    rw [h3, getElem!_pos zs.toArray j (by simpa using hj)]
    simp
theorem bnds_mem (l : List Tup) (x : Int) : x ∈ bnds l ↔ x ∈ allEnds l := by rw [bnds, compact_mem, srt_mem]
theorem bnds_length (l : List Tup) : (bnds l).length ≤ l.length * 2 := by
  have h : (srt (allEnds l)).length = (allEnds l).length := List.length_mergeSort _
  exact Nat.le_trans (Lib.compact_length_le _) (by rw [h]; exact allEnds_length l)
/-- The definition's. -/
def refBnd (l : List Tup) : List Int := l.foldl (fun o t => if pvalid t.lo t.hi = true then mergeL o [t.lo, t.hi] else o) []
theorem refBnd_snoc (l : List Tup) (k : Nat) (t : Tup) (h : l[k]? = some t) : refBnd (l.take (k + 1)) = if pvalid t.lo t.hi = true then mergeL (refBnd (l.take k)) [t.lo, t.hi] else refBnd (l.take k) := by
  rw [take_get h, refBnd, List.foldl_append]; rfl
theorem refBnd_length (l : List Tup) : (refBnd l).length ≤ l.length * 2 := by
  suffices h : ∀ o, (l.foldl (fun o t => if pvalid t.lo t.hi = true then mergeL o [t.lo, t.hi] else o) o).length ≤ o.length + l.length * 2 by simpa [refBnd] using h []
  induction l with
  | nil => intro o; simp
  | cons t l ih =>
    intro o
    rw [List.foldl_cons]
    refine Nat.le_trans (ih _) ?_
    split
    · have := mergeL_length o [t.lo, t.hi]; simp at *; omega
    · simp; omega
theorem refBnd_mem (l : List Tup) (x : Int) : x ∈ refBnd l ↔ x ∈ allEnds l := by
  suffices h : ∀ o, x ∈ (l.foldl (fun o t => if pvalid t.lo t.hi = true then mergeL o [t.lo, t.hi] else o) o) ↔ x ∈ o ∨ x ∈ allEnds l by simpa [refBnd] using h []
  induction l with
  | nil => intro o; simp [allEnds]
  | cons t l ih =>
    intro o
    have e : allEnds (t :: l) = ends t ++ allEnds l := rfl
    rw [List.foldl_cons, ih, e, List.mem_append, ends]
    split
    · rw [mergeL_mem, or_assoc]
    · simp
theorem refBnd_asc (l : List Tup) : (refBnd l).Pairwise (· < ·) := by
  suffices h : ∀ o : List Int, o.Pairwise (· < ·) → (l.foldl (fun o t => if pvalid t.lo t.hi = true then mergeL o [t.lo, t.hi] else o) o).Pairwise (· < ·) from h [] List.Pairwise.nil
  induction l with
  | nil => intro o h; exact h
  | cons t l ih =>
    intro o h
    rw [List.foldl_cons]
    refine ih _ ?_
    split
    · exact mergeL_asc _ _
    · exact h
end Go.Proofs.YtnfccpkmaebbiaaGreatDoor

namespace Go.Proofs.YtnfccpkmaebbiaaGreatDoor
open Go.RowKit

theorem ends_mem {l : List Tup} {p : Int} : p ∈ allEnds l ↔ ∃ x ∈ l, pvalid x.lo x.hi = true ∧ (p = x.lo ∨ p = x.hi) := by
  unfold allEnds ends
  rw [List.mem_flatMap]
  constructor
  · rintro ⟨x, hx, hp⟩
    split at hp
    · rename_i hv
      simp at hp
      exact ⟨x, hx, hv, hp⟩
    · simp at hp
  · rintro ⟨x, hx, hv, hp⟩
    refine ⟨x, hx, ?_⟩
    rw [if_pos hv]
    simpa using hp
/-- No end point in (s, t]: the rows of t are those of s. -/
theorem atDay_between {l : List Tup} {s t : Int} (hst : s ≤ t) (h : ∀ p ∈ allEnds l, p ≤ s ∨ t < p) : atDay l t = atDay l s := by
  unfold atDay
  congr 1
  refine List.filter_congr fun x hx => ?_
  rw [Bool.eq_iff_iff, pincl_iff, pincl_iff]
  constructor
  · rintro ⟨hv, h1, h2⟩
    have := h x.lo (ends_mem.2 ⟨x, hx, hv, .inl rfl⟩)
    have := h x.hi (ends_mem.2 ⟨x, hx, hv, .inr rfl⟩)
    exact ⟨hv, by omega, by omega⟩
  · rintro ⟨hv, h1, h2⟩
    have := h x.lo (ends_mem.2 ⟨x, hx, hv, .inl rfl⟩)
    have := h x.hi (ends_mem.2 ⟨x, hx, hv, .inr rfl⟩)
    exact ⟨hv, by omega, by omega⟩
theorem atDay_before {l : List Tup} {t : Int} (h : ∀ p ∈ allEnds l, t < p) : atDay l t = [] := by
  refine List.eq_nil_iff_forall_not_mem.2 fun r hr => ?_
  obtain ⟨x, hx, _, hi⟩ := mem_atDay.1 hr
  obtain ⟨hv, h1, _⟩ := pincl_iff.1 hi
  have := h x.lo (ends_mem.2 ⟨x, hx, hv, .inl rfl⟩)
  omega
/-- The last of some numbers that is at most t, or -1. -/
def lastUp (ps : List Int) (t : Int) : Int := ps.foldl (fun a p => if p ≤ t then p else a) (-1)
theorem lastUp_snoc (ps : List Int) (p t : Int) : lastUp (ps ++ [p]) t = if p ≤ t then p else lastUp ps t := by unfold lastUp; rw [List.foldl_append]; rfl
theorem lastUp_spec {ps : List Int} {t : Int} (hs : ps.Pairwise (· ≤ ·)) : (lastUp ps t = -1 ∧ ∀ p ∈ ps, t < p) ∨ (lastUp ps t ∈ ps ∧ lastUp ps t ≤ t ∧ ∀ p ∈ ps, p ≤ lastUp ps t ∨ t < p) := by
  have key : ∀ (n : Nat) (ps : List Int), ps.length = n → ps.Pairwise (· ≤ ·) → (lastUp ps t = -1 ∧ ∀ p ∈ ps, t < p) ∨ (lastUp ps t ∈ ps ∧ lastUp ps t ≤ t ∧ ∀ p ∈ ps, p ≤ lastUp ps t ∨ t < p) := by
    intro n
    induction n with
    | zero =>
      intro ps hn hs
      have := List.eq_nil_of_length_eq_zero hn
      subst this
      exact .inl ⟨rfl, by simp⟩
    | succ n ih =>
      intro ps hn hs
      obtain ⟨qs, q, rfl⟩ : ∃ qs q, ps = qs ++ [q] := ⟨ps.dropLast, ps.getLast (by intro e; rw [e] at hn; cases hn), (List.dropLast_concat_getLast _).symm⟩
      rw [lastUp_snoc]
      obtain ⟨h1, _, h2⟩ := List.pairwise_append.1 hs
      have hq : ∀ p ∈ qs, p ≤ q := fun p hp => h2 p hp q (by simp)
      by_cases hc : q ≤ t
      · rw [if_pos hc]
        refine .inr ⟨by simp, hc, fun p hp => ?_⟩
        rw [List.mem_append] at hp
        rcases hp with hp | hp
        · exact .inl (hq p hp)
        · simp at hp; exact .inl (by omega)
      · rw [if_neg hc]
        rcases ih qs (by simp at hn; omega) h1 with ⟨h3, h4⟩ | ⟨h3, h4, h5⟩
        · refine .inl ⟨h3, fun p hp => ?_⟩
          rw [List.mem_append] at hp
          rcases hp with hp | hp
          · exact h4 p hp
          · simp at hp; omega
        · refine .inr ⟨by simp [h3], h4, fun p hp => ?_⟩
          rw [List.mem_append] at hp
          rcases hp with hp | hp
          · exact h5 p hp
          · simp at hp; exact .inr (by omega)
  exact key _ ps rfl hs
theorem ends_nonneg {l : List Tup} {p : Int} (h : p ∈ allEnds l) : 0 ≤ p := by
  obtain ⟨x, _, hv, hp⟩ := ends_mem.1 h
  obtain ⟨h1, h2, _⟩ := pvalid_iff.1 hv
  rcases hp with rfl | rfl <;> omega
theorem last_rows {l : List Tup} {ps : List Int} {t : Int} (hs : ps.Pairwise (· ≤ ·)) (hm : ∀ p, p ∈ ps ↔ p ∈ allEnds l) : (lastUp ps t < 0 → atDay l t = []) ∧ (¬ lastUp ps t < 0 → atDay l t = atDay l (lastUp ps t)) := by
  rcases lastUp_spec (t := t) hs with ⟨h1, h2⟩ | ⟨h1, h2, h3⟩
  · exact ⟨fun _ => atDay_before fun p hp => h2 p ((hm p).2 hp), fun h => absurd (by omega) h⟩
  · have h0 := ends_nonneg ((hm _).1 h1)
    exact ⟨fun h => absurd h (by omega), fun _ => atDay_between h2 fun p hp => h3 p ((hm p).2 hp)⟩
/-- What agrees at the end points of both agrees everywhere. -/
theorem days_agree {a b : List Tup} (h : ∀ p, p ∈ allEnds a ∨ p ∈ allEnds b → (atDay a p).Perm (atDay b p)) (t : Int) : (atDay a t).Perm (atDay b t) := by
  have key : ∀ (es : List Int), (∃ s, s ∈ es ∧ s ≤ t ∧ ∀ p ∈ es, p ≤ s ∨ t < p) ∨ ∀ p ∈ es, t < p := by
    intro es
    induction es with
    | nil => exact .inr (by simp)
    | cons e es ih =>
      rcases ih with ⟨s, h1, h2, h3⟩ | ih
      · by_cases hc : s ≤ e ∧ e ≤ t
        · refine .inl ⟨e, .head _, hc.2, fun p hp => ?_⟩
          rcases List.mem_cons.1 hp with rfl | hp
          · exact .inl (Int.le_refl _)
          · have := h3 p hp; omega
        · refine .inl ⟨s, .tail _ h1, h2, fun p hp => ?_⟩
          rcases List.mem_cons.1 hp with rfl | hp
          · omega
          · exact h3 p hp
      · by_cases hc : e ≤ t
        · refine .inl ⟨e, .head _, hc, fun p hp => ?_⟩
          rcases List.mem_cons.1 hp with rfl | hp
          · exact .inl (Int.le_refl _)
          · exact .inr (ih p hp)
        · refine .inr fun p hp => ?_
          rcases List.mem_cons.1 hp with rfl | hp
          · omega
          · exact ih p hp
  rcases key (allEnds a ++ allEnds b) with ⟨s, h1, h2, h3⟩ | h3
  · rw [atDay_between h2 fun p hp => h3 p (by simp [hp]), atDay_between h2 fun p hp => h3 p (by simp [hp])]
    exact h s (List.mem_append.1 h1)
  · rw [atDay_before fun p hp => h3 p (by simp [hp]), atDay_before fun p hp => h3 p (by simp [hp])]
end Go.Proofs.YtnfccpkmaebbiaaGreatDoor

namespace Go.Proofs.YtnfccpkmaebbiaaGreatDoor
open Go.RowKit Go.Lib Go.Shelf

/-- Five small numbers. -/
structure U5 where
  x0 : Nat
  x1 : Nat
  x2 : Nat
  x3 : Nat
  x4 : Nat
def U5.ok (x : U5) : Prop := x.x0 < 65536 ∧ x.x1 < 65536 ∧ x.x2 < 65536 ∧ x.x3 < 65536 ∧ x.x4 < 65536
def u5Of (x : U5) : List Value := [.int .u16 (x.x0 : Int), .int .u16 (x.x1 : Int), .int .u16 (x.x2 : Int), .int .u16 (x.x3 : Int), .int .u16 (x.x4 : Int)]
theorem u5_info : (Tryz.prog.info? 57).map (fun i => (i.zero, i.size, i.bytes)) = some (some (.agg #[.int .u16 0, .int .u16 0, .int .u16 0, .int .u16 0, .int .u16 0]), 5, 10) := by kernel_rfl
def u5E : El Tryz.prog U5 := El.flat 57 5 10 (by decide) (info_mk u5_info rfl) u5Of (fun _ => rfl) (by intro x u hu; simp [u5Of] at hu; rcases hu with rfl | rfl | rfl | rfl | rfl <;> rfl)
def tupOf (x : U5) : Tup := gtup x.x0 x.x1 x.x2 x.x3 x.x4
theorem box_five {w : World} {g : Nat} {x y z u v : Value} {e : TypeId} (h : w.heap[g]? = some (.cells #[x, y, z, u, v] e (0, 0))) :
    (w.cell? ⟨g, 0, none⟩ = some x ∧ w.cell? ⟨g, 1, none⟩ = some y ∧ w.cell? ⟨g, 2, none⟩ = some z ∧ w.cell? ⟨g, 3, none⟩ = some u ∧ w.cell? ⟨g, 4, none⟩ = some v) := by
  refine ⟨?_, ?_, ?_, ?_, ?_⟩ <;> simp [World.cell?, h]

theorem box_kept_drew1 {w w' : World} {g : Nat} {o : Obj} (h : w.heap[g]? = some o) (hb : Below w.drew.heap.size w.drew w') : w'.heap[g]? = some o := box_kept (w := w.drew) h hb
theorem tuple_end {w wE W : World} {vv uu : Value} {t : Tup} (hk : Kept (fun k => k ≤ w.heap.size + 1) wE W) (hV : Sl valE wE (fun k => k ≤ w.heap.size + 1) vv t.vals) (hU : Sl intE wE (fun k => k ≤ w.heap.size + 1) uu t.lin) (h1 : 0 < t.vals.length) (h2 : 0 < t.lin.length) (hb : Below w.heap.size w W) :
    NewTup w t (.returned (.agg #[vv, .int .i64 t.lo, .int .i64 t.hi, uu])) W :=
  ⟨⟨vv, uu, rfl, (hV.kept hk).vals, (hU.kept hk).ints, fun k hk => by have := hV.clear_own h1 k hk; omega, fun k hk => by have := hU.clear_own h2 k hk; omega⟩, hb⟩

set_option maxHeartbeats 4000000 in
set_option maxRecDepth 100000 in
theorem tuple_any (x : U5) (hx : x.ok) (w : World) : Calls Tryz.prog 41 #[.agg #[.int .u16 (x.x0 : Int), .int .u16 (x.x1 : Int), .int .u16 (x.x2 : Int), .int .u16 (x.x3 : Int), .int .u16 (x.x4 : Int)]] w (NewTup w (tupOf x)) := by
  obtain ⟨x0, x1, x2, x3, x4⟩ := x
  obtain ⟨h0, h1, h2, h3, h4⟩ := hx
  dsimp only at h0 h1 h2 h3 h4 ⊢
  have HV := fun W => Lib.hid (vals_any x2 x3 h2 h3 W)
  have HP := fun W => Lib.hid (period_any x0 x1 h0 h1 W)
  obtain ⟨plo, hplo⟩ : ∃ p, p = (gper x0 x1).1 := ⟨_, rfl⟩
  obtain ⟨phi, hphi⟩ : ∃ p, p = (gper x0 x1).2 := ⟨_, rfl⟩
  rw [← hplo, ← hphi] at HP
  have ht : tupOf ⟨x0, x1, x2, x3, x4⟩ = ⟨[gval0 x2, gval1 x3], plo, phi, [1 + (x4 % 5 : Nat)]⟩ := by rw [hplo, hphi]; rfl
  rw [ht]
  clear hplo hphi ht
  go_enter Tryz.func41, Tryz.ntmps41
  go_wp2_with fail
  have hB0 := below_alloc_two w (.cells #[.int .u16 (x0 : Int), .int .u16 (x1 : Int), .int .u16 (x2 : Int), .int .u16 (x3 : Int), .int .u16 (x4 : Int)] 57) (.cells #[.slice none 0 0, .int .i64 0, .int .i64 0, .slice none 0 0] 45)
  have hz0 : w.heap.size + 1 < ((w.alloc (.cells #[.int .u16 (x0 : Int), .int .u16 (x1 : Int), .int .u16 (x2 : Int), .int .u16 (x3 : Int), .int .u16 (x4 : Int)] 57)).alloc (.cells #[.slice none 0 0, .int .i64 0, .int .i64 0, .slice none 0 0] 45)).heap.size := by simp
  obtain ⟨c0, c1, c2, c3, c4⟩ := box_five (heap_alloc_old' w (.cells #[.int .u16 (x0 : Int), .int .u16 (x1 : Int), .int .u16 (x2 : Int), .int .u16 (x3 : Int), .int .u16 (x4 : Int)] 57) (.cells #[.slice none 0 0, .int .i64 0, .int .i64 0, .slice none 0 0] 45))
  obtain ⟨⟨d0, d1, d2, d3⟩, f0, f1, f2, f3⟩ := box_four (heap_alloc_new' w (.cells #[.int .u16 (x0 : Int), .int .u16 (x1 : Int), .int .u16 (x2 : Int), .int .u16 (x3 : Int), .int .u16 (x4 : Int)] 57) (.cells #[.slice none 0 0, .int .i64 0, .int .i64 0, .slice none 0 0] 45))
  have hm1 : (x4 : Int).tmod 5 = (x4 : Int) % 5 := Int.tmod_eq_emod_of_nonneg (by omega)
  have hm2 : IntKind.i64.wrap ((x4 : Int) % 5) = (x4 : Int) % 5 := IntWalk.i64_in _ (by omega)
  have hm3 : IntKind.i64.wrap (1 + (x4 : Int) % 5) = 1 + (x4 : Int) % 5 := IntWalk.i64_in _ (by omega)
  go_region_held3 (fun W => Below w.heap.size w W ∧ w.heap.size + 1 < W.heap.size ∧ W.cell? ⟨w.heap.size, 0, none⟩ = some (.int .u16 (x0 : Int)) ∧ W.cell? ⟨w.heap.size, 1, none⟩ = some (.int .u16 (x1 : Int)) ∧ W.cell? ⟨w.heap.size, 2, none⟩ = some (.int .u16 (x2 : Int)) ∧ W.cell? ⟨w.heap.size, 3, none⟩ = some (.int .u16 (x3 : Int)) ∧ W.cell? ⟨w.heap.size, 4, none⟩ = some (.int .u16 (x4 : Int))
      ∧ W.cell? ⟨w.heap.size + 1, 0, none⟩ = some (vAt W ⟨w.heap.size + 1, 0, none⟩) ∧ W.cell? ⟨w.heap.size + 1, 1, none⟩ = some (vAt W ⟨w.heap.size + 1, 1, none⟩) ∧ W.cell? ⟨w.heap.size + 1, 2, none⟩ = some (vAt W ⟨w.heap.size + 1, 2, none⟩) ∧ W.cell? ⟨w.heap.size + 1, 3, none⟩ = some (vAt W ⟨w.heap.size + 1, 3, none⟩)
      ∧ W.frozen? ⟨w.heap.size + 1, 0, none⟩ = false ∧ W.frozen? ⟨w.heap.size + 1, 1, none⟩ = false ∧ W.frozen? ⟨w.heap.size + 1, 2, none⟩ = false ∧ W.frozen? ⟨w.heap.size + 1, 3, none⟩ = false)
    ((go_split_ands; refine ⟨?_, ?_, ?_, ?_, ?_, ?_, ?_, ?_, ?_, ?_, ?_, ?_, ?_, ?_, ?_⟩ <;> first | (with_reducible assumption) | with_reducible exact Below.drew (by assumption) | with_reducible exact size_drew (by assumption) | with_reducible exact cell_drew (by assumption) | with_reducible exact vAt_drew (by assumption) | with_reducible exact frozen_drew (by assumption) | with_reducible exact below_keep (by assumption) (by assumption) | with_reducible exact size_keep (by assumption) (by assumption) | with_reducible exact cell_keep (by assumption) (by assumption) | with_reducible exact vAt_keep (by assumption) (by assumption) | with_reducible exact frozen_keep (by assumption) (by assumption) (by assumption) | with_reducible exact below_alloc_keep (by assumption) | with_reducible exact size_alloc_keep (by assumption) | with_reducible exact cell_alloc (by assumption) | with_reducible exact vAt_alloc (by assumption) | with_reducible exact frozen_alloc (by assumption) (by assumption) | with_reducible exact below_alloc_drew (by assumption) | with_reducible exact size_alloc_drew (by assumption) | with_reducible exact cell_alloc_drew (by assumption) | with_reducible exact vAt_alloc_drew (by assumption) | with_reducible exact frozen_alloc_drew (by assumption) (by assumption) | with_reducible exact below_set4 (by assumption) (by simp) (by simp) (by simp) (by simp) | with_reducible exact size_set4 (by assumption) | with_reducible exact cell_set4 (by assumption) (by simp) rfl rfl rfl | with_reducible exact vAt_set4 (by assumption) | with_reducible exact frozen_set4 (by assumption)))
    (first
      | (go_at_call 27; go_split_ands; refine (HV _).out.mono ?_; rintro e wV ⟨va, vc, rfl, hSV, hbV⟩; have hlV := size_of (by assumption : w.heap.size + 1 < _) hbV; have hSV' : Sl valE wV (fun k => k ≤ w.heap.size + 1) (.slice va 2 vc) [gval0 x2, gval1 x3] := hSV.mono (fun k _ hk => Nat.lt_of_le_of_lt hk hlV))
      | (go_at_call 69; refine (HP _).out.mono ?_; rintro e wP ⟨rfl, hbP⟩))
  · clear hm1 hm2 hm3
    have e0 := cell_alloc (o := (.cells #[.int .i64 (1 + (x4 : Int) % 5)] 3)) (cell_keep hbP (cell_keep hbV (cell_drew d0)))
    have e1 := cell_alloc (o := (.cells #[.int .i64 (1 + (x4 : Int) % 5)] 3)) (cell_keep hbP (cell_keep hbV (cell_drew d1)))
    have e2 := cell_alloc (o := (.cells #[.int .i64 (1 + (x4 : Int) % 5)] 3)) (cell_keep hbP (cell_keep hbV (cell_drew d2)))
    have e3 := cell_alloc (o := (.cells #[.int .i64 (1 + (x4 : Int) % 5)] 3)) (cell_keep hbP (cell_keep hbV (cell_drew d3)))
    have hblk := World.alloc_heap_new wP (.cells #[.int .i64 (1 + (x4 : Int) % 5)] 3)
    go_wp2_with fail
    refine bodyPost_ret (v := .agg #[.slice va 2 vc, .int .i64 plo, .int .i64 phi, .slice (some ⟨wP.heap.size, 0, none⟩) 1 1]) ?_ rfl (tuple_end (t := ⟨[gval0 x2, gval1 x3], plo, phi, [1 + (x4 % 5 : Nat)]⟩) (kept_set4 (Nat.le_refl _) (Nat.le_refl _) (Nat.le_refl _) (Nat.le_refl _)) ((hSV'.below hbP).below (below_alloc _ _)) (Sl.of_block hblk (Els.one (cs := [.int .i64 (1 + (x4 : Int) % 5)]) rfl) (by have h5 := hlV; have h6 := hbV.size; have h7 := hbP.size; omega) rfl (by simp) (by simp)) (by simp) (by simp) (by go_split_ands; with_reducible assumption))
    simp [results, Tryz.results41, go_sem, e0, e1, e2, e3]
  · clear hm1 hm2 hm3
    have e0 := cell_keep hbP (cell_alloc (cell_keep hbV (cell_drew d0)))
    have e1 := cell_keep hbP (cell_alloc (cell_keep hbV (cell_drew d1)))
    have e2 := cell_keep hbP (cell_alloc (cell_keep hbV (cell_drew d2)))
    have e3 := cell_keep hbP (cell_alloc (cell_keep hbV (cell_drew d3)))
    have hblk := box_kept (World.alloc_heap_new wV (.cells #[.int .i64 (1 + (x4 : Int) % 5)] 3)) hbP
    go_wp2_with fail
    refine bodyPost_ret (v := .agg #[.slice va 2 vc, .int .i64 plo, .int .i64 phi, .slice (some ⟨wV.heap.size, 0, none⟩) 1 1]) ?_ rfl (tuple_end (t := ⟨[gval0 x2, gval1 x3], plo, phi, [1 + (x4 % 5 : Nat)]⟩) (kept_set4 (Nat.le_refl _) (Nat.le_refl _) (Nat.le_refl _) (Nat.le_refl _)) (hSV'.below (below_alloc2' hbP)) (Sl.of_block hblk (Els.one (cs := [.int .i64 (1 + (x4 : Int) % 5)]) rfl) (by have h5 := hlV; have h6 := hbV.size; omega) rfl (by simp) (by simp)) (by simp) (by simp) (by go_split_ands; with_reducible assumption))
    simp [results, Tryz.results41, go_sem, e0, e1, e2, e3]
  · clear hm1 hm2 hm3
    have e0 := cell_keep hbP (cell_keep hbV (cell_alloc_drew (cell_drew d0)))
    have e1 := cell_keep hbP (cell_keep hbV (cell_alloc_drew (cell_drew d1)))
    have e2 := cell_keep hbP (cell_keep hbV (cell_alloc_drew (cell_drew d2)))
    have e3 := cell_keep hbP (cell_keep hbV (cell_alloc_drew (cell_drew d3)))
    have hblk := box_kept (box_kept_drew1 (World.alloc_heap_new ((w.alloc (.cells #[.int .u16 (x0 : Int), .int .u16 (x1 : Int), .int .u16 (x2 : Int), .int .u16 (x3 : Int), .int .u16 (x4 : Int)] 57)).alloc (.cells #[.slice none 0 0, .int .i64 0, .int .i64 0, .slice none 0 0] 45)) (.cells #[.int .i64 (1 + (x4 : Int) % 5)] 3)) hbV) hbP
    simp only [World.size_alloc] at hblk
    go_wp2_with fail
    refine bodyPost_ret (v := .agg #[.slice va 2 vc, .int .i64 plo, .int .i64 phi, .slice (some ⟨w.heap.size + 1 + 1, 0, none⟩) 1 1]) ?_ rfl (tuple_end (t := ⟨[gval0 x2, gval1 x3], plo, phi, [1 + (x4 % 5 : Nat)]⟩) (kept_set4 (Nat.le_refl _) (Nat.le_refl _) (Nat.le_refl _) (Nat.le_refl _)) (hSV'.below hbP) (Sl.of_block hblk (Els.one (cs := [.int .i64 (1 + (x4 : Int) % 5)]) rfl) (by omega) rfl (by simp) (by simp)) (by simp) (by simp) (by go_split_ands; with_reducible assumption))
    simp [results, Tryz.results41, go_sem, e0, e1, e2, e3]
end Go.Proofs.YtnfccpkmaebbiaaGreatDoor

namespace Go.Proofs.YtnfccpkmaebbiaaGreatDoor
open Go.RowKit Go.Lib Go.Shelf

theorem u5_at {w : World} {a : Option Addr} {n c k : Nat} {l : List U5} {x : U5} (h : Sl u5E w free (.slice a n c) l) (hk : l[k]? = some x) :
    ∃ b o, a = some ⟨b, o, none⟩ ∧ w.cell? ⟨b, o + k * 5, none⟩ = some (.int .u16 (x.x0 : Int)) ∧ w.cell? ⟨b, o + k * 5 + 1, none⟩ = some (.int .u16 (x.x1 : Int)) ∧ w.cell? ⟨b, o + k * 5 + 2, none⟩ = some (.int .u16 (x.x2 : Int)) ∧ w.cell? ⟨b, o + k * 5 + 3, none⟩ = some (.int .u16 (x.x3 : Int)) ∧ w.cell? ⟨b, o + k * 5 + 4, none⟩ = some (.int .u16 (x.x4 : Int)) := by
  obtain ⟨b, o, cs, ha, rfl, hc⟩ := Sl.at h hk
  exact ⟨b, o, ha, hc 0 _ rfl, hc 1 _ rfl, hc 2 _ rfl, hc 3 _ rfl, hc 4 _ rfl⟩
def tupsOf (l : List U5) (m : Nat) : List Tup := (l.take m).map tupOf
theorem tupsOf_length (l : List U5) (m : Nat) : (tupsOf l m).length ≤ m := by simp [tupsOf]; omega
set_option maxHeartbeats 4000000 in
set_option maxRecDepth 100000 in
theorem tuples_any (v : Value) (l : List U5) (m : Nat) (hm : m ≤ 1000) (w : World) (hv : Sl u5E w free v l) (hok : ∀ x ∈ l, x.ok) :
    Calls Tryz.prog 19 #[v, .int .i64 (m : Int)] w (RetOwn tupE w (tupsOf l m)) := by
  obtain ⟨a, c, rfl⟩ := hv.shape
  have HV := Lib.hid hv
  have HOK := Lib.hid hok
  have h63 := hv.1
  obtain ⟨n, hn⟩ : ∃ n, n = l.length := ⟨_, rfl⟩
  have HN := Lib.hid hn
  rw [← hn] at HV h63 ⊢
  clear hv hn hok
  go_enter Tryz.func19, Tryz.ntmps19
  go_wp2_with fail
  go_loopw [6, 5] (fun i o wr => ∃ k : Nat, k ≤ n ∧ k ≤ m ∧ i = .int .i64 k ∧ Own tupE wr w.heap.size o ((l.take k).map tupOf) ∧ Below w.heap.size w wr) (fun i _ _ => n - (intOf i).toNat)
  case atStart => exact ⟨0, Nat.zero_le _, Nat.zero_le _, rfl, Own.nil _ _ _, Below.refl _ _⟩
  case round =>
    obtain ⟨k, hk, hkm, rfl, hO, hB⟩ := hrel
    obtain ⟨acc, hacc⟩ : ∃ acc, acc = (l.take k).map tupOf := ⟨_, rfl⟩
    have hlen : acc.length ≤ k := by rw [hacc]; simp; omega
    rw [← hacc] at hO
    obtain ⟨oa, oc, rfl⟩ := hO.shape
    have HACC := Lib.hid hacc
    clear hacc
    by_cases hlt : k < n ∧ k < m
    · obtain ⟨hlt1, hlt2⟩ := hlt
      obtain ⟨x, hx⟩ := lget_some l k (by rw [← HN.out]; exact hlt1)
      obtain ⟨b, o, rfl, p0, p1, p2, p3, p4⟩ := u5_at HV.out hx
      replace p0 := cell_keep hB p0
      replace p1 := cell_keep hB p1
      replace p2 := cell_keep hB p2
      replace p3 := cell_keep hB p3
      replace p4 := cell_keep hB p4
      have HT : Hid ((l.take (k + 1)).map tupOf = acc ++ [tupOf x]) := by show _ = _; rw [take_get hx, HACC.out, List.map_append]; rfl
      have HX := Lib.hid (HOK.out x (List.mem_of_getElem? hx))
      clear hx
      obtain ⟨t, ht⟩ : ∃ t, t = tupOf x := ⟨_, rfl⟩
      have HTU := Lib.hid (tuple_any x HX.out wr)
      rw [← ht] at HT HTU
      clear ht
      go_wp2_with fail
      refine HTU.out.mono ?_
      rintro e w2 hN
      obtain ⟨a4, c4, b4, d4, rfl, his⟩ := hN.cells
      have hb2 := hN.below
      clear hN
      have hB2 := below_keep hB hb2
      have hO2 := hO.below hb2
      go_wp2_with (at_builtin; refine wpList_push rfl _ _ 22 rfl tupE Tryz.underlying22 w.heap.size (.slice oa acc.length oc) acc rfl hO2 [t] #[.slice a4 t.vals.length c4, .int .i64 t.lo, .int .i64 t.hi, .slice b4 t.lin.length d4] (Els.one (tupE.mono his (fun k _ hk => (hO.lt k hk.symm).2))) 1 1 rfl rfl (by decide) (by unfold maxLen; omega) (by show _ * 64 ≤ _; omega) hB2.size ?_; intro g cap w5 hP hPa)
      go_roundw
      case rel => exact ⟨k + 1, by omega, by omega, by go_num, by rw [HT.out]; exact hP.own' (by simp), hB2.trans hP.below⟩
      case measure => simp [intOf]; omega
    · have HF : Hid (acc = tupsOf l m) := by
        show _ = _
        rw [HACC.out, tupsOf]
        by_cases h1 : k < n
        · have : k = m := by omega
          rw [this]
        · rw [List.take_of_length_le (by rw [← HN.out]; omega), List.take_of_length_le (by rw [← HN.out]; omega)]
      by_cases h1 : k < n
      · have h2 : ¬ k < m := fun h => hlt ⟨h1, h⟩
        clear hlt
        go_wp2_with fail
        go_ret
        exact ⟨_, rfl, by rw [← HF.out]; exact hO, hB⟩
      · clear hlt
        go_wp2_with fail
        go_ret
        exact ⟨_, rfl, by rw [← HF.out]; exact hO, hB⟩
end Go.Proofs.YtnfccpkmaebbiaaGreatDoor

namespace Go.Proofs.YtnfccpkmaebbiaaGreatDoor
open Go.RowKit

theorem gval_small (x y : Nat) : ∀ g ∈ [gval0 x, gval1 y], In64 g.kind ∧ In64 g.n ∧ g.s.size ≤ 10 := by
  intro g hg
  simp at hg
  rcases hg with rfl | rfl
  · unfold gval0
    split
    · exact ⟨by decide, by decide, by decide⟩
    · refine ⟨(by show In64 1; decide), ?_, (by show (ByteArray.mk #[]).size ≤ 10; decide)⟩
      unfold gint In64
      dsimp only
      omega
  · unfold gval1
    split
    · exact ⟨by decide, by decide, by decide⟩
    · refine ⟨(by show In64 2; decide), (by show In64 0; decide), ?_⟩
      have : (gtext y).size ≤ 2 := by
        unfold gtext
        split <;> (try split) <;> decide
      show (gtext y).size ≤ 10
      omega
theorem keyOf_len {g : GVal} (h : In64 g.kind ∧ In64 g.n ∧ g.s.size ≤ 10) : (keyOf g).length ≤ 100 := by
  have := keyOf_length g h.1 h.2.1 (by omega)
  omega
theorem keyable_small (x y : Nat) (lin : List Int) (hl : lin.length ≤ 1000) (hi : ∀ i ∈ lin, In64 i) : Keyable ⟨[gval0 x, gval1 y], lin⟩ := by
  have hs := gval_small x y
  refine ⟨fun g hg => ⟨(hs g hg).1, (hs g hg).2.1, by have := (hs g hg).2.2; unfold maxLen; omega⟩, hi, by simp, hl, ?_⟩
  have h1 := keyOf_len (hs (gval0 x) (by simp))
  have h2 := keyOf_len (hs (gval1 y) (by simp))
  show (keyL [gval0 x, gval1 y]).length ≤ _
  simp only [keyL, List.flatMap_cons, List.flatMap_nil, List.append_nil, List.length_append]
  omega
theorem tups_keyable (l : List U5) (m : Nat) : ∀ x ∈ tupsOf l m, Keyable x.row := by
  intro x hx
  obtain ⟨u, _, rfl⟩ := List.mem_map.1 hx
  exact keyable_small u.x2 u.x3 [1 + ((u.x4 % 5 : Nat) : Int)] (by simp) (by intro i hi; simp at hi; subst hi; unfold In64; omega)
theorem tups_small (l : List U5) (m : Nat) : ∀ x ∈ tupsOf l m, x.vals.length ≤ 1000 ∧ x.lin.length ≤ 1000 := by
  intro x hx
  obtain ⟨u, _, rfl⟩ := List.mem_map.1 hx
  exact ⟨by show (2 : Nat) ≤ 1000; decide, by show (1 : Nat) ≤ 1000; decide⟩
theorem IsNF.keyable {l T : List Tup} (h : IsNF l T) (hk : ∀ x ∈ l, Keyable x.row) : ∀ x ∈ T, Keyable x.row := by
  intro x hx
  obtain ⟨y, hy, e, _⟩ := h.vals x hx
  rw [← e]
  exact hk y hy
theorem IsNF.small {l T : List Tup} (h : IsNF l T) (hk : ∀ x ∈ l, Keyable x.row) : ∀ x ∈ T, x.vals.length ≤ 1000 ∧ x.lin.length ≤ 1000 := fun x hx => ⟨(h.keyable hk x hx).nv, (h.keyable hk x hx).nl⟩
theorem pincl_dec {lo hi t : Int} (h : pvalid lo hi = true) : pincl lo hi t = decide (lo ≤ t ∧ t < hi) := by
  rw [Bool.eq_iff_iff, pincl_iff, decide_eq_true_eq]
  exact ⟨fun h => h.2, fun k => ⟨h, k⟩⟩
theorem day_cons {r : GRow} {lo hi t : Int} {l : List Tup} (h : pvalid lo hi = true) : atDay ((⟨r.vals, lo, hi, r.lin⟩ : Tup) :: l) t = if lo ≤ t ∧ t < hi then r :: atDay l t else atDay l t := by
  rw [atDay_cons, pincl_dec h]
  simp only [decide_eq_true_eq]
  rfl
theorem atDay_nil (t : Int) : atDay [] t = [] := rfl
theorem same_row_sorted {v : List GVal} {u : List Int} {a b c d : Int} (h : a < c ∨ a = c ∧ b ≤ d) : ¬ cmpTup ⟨v, c, d, u⟩ ⟨v, a, b, u⟩ < 0 := by
  have e : cmpRow (Tup.row ⟨v, c, d, u⟩) (Tup.row ⟨v, a, b, u⟩) = 0 := cmpRow_zero.2 rfl
  unfold cmpTup or2
  rw [if_pos e]
  dsimp only
  unfold cmpI
  split <;> (try split) <;> (try split) <;> omega
theorem awake_nf (v : List GVal) : IsNF [⟨v, 0, 5, [1]⟩, ⟨v, 3, 9, [1]⟩] [⟨v, 0, 9, [1]⟩, ⟨v, 3, 5, [1]⟩] := by
  refine ⟨⟨fun x hx => ?_, ?_⟩, ?_, fun t => ?_⟩
  · simp at hx
    rcases hx with rfl | rfl <;> exact pvalid_iff.2 (by dsimp only; omega)
  · simp only [List.pairwise_cons, List.mem_singleton, forall_eq, List.not_mem_nil, false_implies, implies_true, List.Pairwise.nil, and_true]
    exact fun _ => by dsimp only; omega
  · simp only [List.pairwise_cons, List.mem_singleton, forall_eq, List.not_mem_nil, false_implies, implies_true, List.Pairwise.nil, and_true]
    exact same_row_sorted (.inl (by decide))
  · have e1 := day_cons (r := ⟨v, [1]⟩) (lo := 0) (hi := 9) (t := t) (l := [⟨v, 3, 5, [1]⟩]) (pvalid_iff.2 (by decide))
    have e2 := day_cons (r := ⟨v, [1]⟩) (lo := 3) (hi := 5) (t := t) (l := []) (pvalid_iff.2 (by decide))
    have e3 := day_cons (r := ⟨v, [1]⟩) (lo := 0) (hi := 5) (t := t) (l := [⟨v, 3, 9, [1]⟩]) (pvalid_iff.2 (by decide))
    have e4 := day_cons (r := ⟨v, [1]⟩) (lo := 3) (hi := 9) (t := t) (l := []) (pvalid_iff.2 (by decide))
    dsimp only at e1 e2 e3 e4
    rw [e1, e2, e3, e4, atDay_nil]
    split <;> split <;> split <;> split <;> first | exact List.Perm.refl _ | (exfalso; omega)
/-- A tuple without its lineage. -/
def bare (t : Tup) : Tup := ⟨t.vals, t.lo, t.hi, []⟩
theorem bare_keyable {x : Tup} (h : Keyable x.row) : Keyable (bare x).row := ⟨h.vals, by simp [bare, Tup.row], h.nv, by simp [bare, Tup.row], h.key⟩
theorem bares_keyable {l : List Tup} (h : ∀ x ∈ l, Keyable x.row) : ∀ x ∈ l.map bare, Keyable x.row := by
  intro x hx
  obtain ⟨y, hy, rfl⟩ := List.mem_map.1 hx
  exact bare_keyable (h y hy)
def bareR (r : GRow) : GRow := ⟨r.vals, []⟩
theorem atDay_bare (l : List Tup) (t : Int) : atDay (l.map bare) t = (atDay l t).map bareR := by
  unfold atDay
  rw [List.filter_map, List.map_map, List.map_map]
  rfl
theorem bare_bare (l : List Tup) : (l.map bare).map bare = l.map bare := by rw [List.map_map]; rfl
theorem coal_nf (v : List GVal) : IsNF [⟨v, 0, 5, []⟩, ⟨v, 5, 9, []⟩] [⟨v, 0, 9, []⟩] := by
  refine ⟨⟨fun x hx => ?_, ?_⟩, ?_, fun t => ?_⟩
  · simp at hx
    subst hx
    exact pvalid_iff.2 (by dsimp only; omega)
  · simp
  · simp
  · have e1 := day_cons (r := ⟨v, []⟩) (lo := 0) (hi := 9) (t := t) (l := []) (pvalid_iff.2 (by decide))
    have e3 := day_cons (r := ⟨v, []⟩) (lo := 0) (hi := 5) (t := t) (l := [⟨v, 5, 9, []⟩]) (pvalid_iff.2 (by decide))
    have e4 := day_cons (r := ⟨v, []⟩) (lo := 5) (hi := 9) (t := t) (l := []) (pvalid_iff.2 (by decide))
    dsimp only at e1 e3 e4
    rw [e1, e3, e4, atDay_nil]
    split <;> split <;> (try split) <;> first | exact List.Perm.refl _ | (exfalso; omega)
/-- A normal form's normal form is itself. -/
theorem IsNF.again {l T T' : List Tup} (h : IsNF l T) (h' : IsNF T T') : T' = T := h'.unique h.self
/-- The tuples that change from period to period. -/
def chL (v : List GVal) (f : Nat → List Int) (k : Nat) : List Tup := (List.range k).map fun (i : Nat) => (⟨v, 3 * (i : Int), 3 * (i : Int) + 3, f i⟩ : Tup)
theorem chL_succ (v : List GVal) (f : Nat → List Int) (k : Nat) : chL v f (k + 1) = chL v f k ++ [⟨v, 3 * (k : Int), 3 * (k : Int) + 3, f k⟩] := by unfold chL; rw [List.range_succ, List.map_append]; rfl
theorem chL_length (v : List GVal) (f : Nat → List Int) (k : Nat) : (chL v f k).length = k := by simp [chL]
theorem chL_mem {v : List GVal} {f : Nat → List Int} {k : Nat} {x : Tup} (h : x ∈ chL v f k) : ∃ i : Nat, i < k ∧ x = ⟨v, 3 * (i : Int), 3 * (i : Int) + 3, f i⟩ := by
  unfold chL at h
  obtain ⟨i, hi, rfl⟩ := List.mem_map.1 h
  exact ⟨i, List.mem_range.1 hi, rfl⟩
theorem ch_valid {k i : Nat} (hi : i < k) (hk : k ≤ 10) : pvalid (3 * (i : Int)) (3 * (i : Int) + 3) = true := pvalid_iff.2 (by omega)
theorem ch_nf (v : List GVal) (k : Nat) (hk : k ≤ 10) : IsNF (chL v (fun i => [1 + (i : Int)]) k) (chL v (fun i => [1 + (i : Int)]) k) := by
  refine ⟨⟨fun x hx => ?_, ?_⟩, ?_, fun t => .refl _⟩
  · obtain ⟨i, hi, rfl⟩ := chL_mem hx
    exact ch_valid hi hk
  · unfold chL
    rw [List.pairwise_map]
    refine List.pairwise_lt_range.imp ?_
    intro i j hij e
    unfold Tup.row at e
    simp at e
    omega
  · unfold chL
    rw [List.pairwise_map]
    refine List.pairwise_lt_range.imp ?_
    intro i j hij
    have e1 : cmpRow (Tup.row ⟨v, 3 * (j : Int), 3 * (j : Int) + 3, [1 + (j : Int)]⟩) (Tup.row ⟨v, 3 * (i : Int), 3 * (i : Int) + 3, [1 + (i : Int)]⟩) = 1 := by
      unfold cmpRow Tup.row
      dsimp only
      rw [if_pos ((cmpRows_zero _ _).2 rfl), cmpInts_cons]
      have : cmpI (1 + (j : Int)) (1 + (i : Int)) = 1 := by unfold cmpI; rw [if_neg (by omega), if_pos (by omega)]
      rw [this, if_neg (by decide)]
    unfold cmpTup or2
    rw [e1]
    simp
theorem one_nf (v : List GVal) (k : Nat) (h0 : 0 < k) (hk : k ≤ 10) : IsNF (chL v (fun _ => [1]) k) [⟨v, 0, 3 * (k : Int), [1]⟩] := by
  have key : ∀ (k : Nat), k ≤ 10 → ∀ t, atDay (chL v (fun _ => [1]) k) t = if 0 ≤ t ∧ t < 3 * (k : Int) then [⟨v, [1]⟩] else [] := by
    intro k
    induction k with
    | zero => intro _ t; rw [if_neg (by omega)]; rfl
    | succ k ih =>
      intro hk t
      have e1 := day_cons (r := ⟨v, [1]⟩) (lo := 3 * (k : Int)) (hi := 3 * (k : Int) + 3) (t := t) (l := []) (ch_valid (k := k + 1) (by omega) hk)
      dsimp only at e1
      rw [chL_succ, atDay_append, ih (by omega) t, e1, atDay_nil]
      split <;> split <;> split <;> first | rfl | (exfalso; omega)
  refine ⟨⟨fun x hx => ?_, by simp⟩, by simp, fun t => ?_⟩
  · simp at hx
    subst hx
    exact pvalid_iff.2 (by dsimp only; omega)
  · have e1 := day_cons (r := ⟨v, [1]⟩) (lo := 0) (hi := 3 * (k : Int)) (t := t) (l := []) (pvalid_iff.2 (by omega))
    dsimp only at e1
    rw [key k hk t, e1, atDay_nil]
end Go.Proofs.YtnfccpkmaebbiaaGreatDoor

namespace Go.Proofs.YtnfccpkmaebbiaaGreatDoor
open Go.RowKit

theorem tl_dat (s : ByteArray) : s.toList = s.data.toList := Lib.toList_data s
set_option maxHeartbeats 2000000 in
theorem vav_any (v : GVal) (hs : v.s.size ≤ maxLen) (w : World) :
    Calls Tryz.prog 60 #[aggG v] w fun e w' => e = .returned (.bool (validG v)) ∧ Below w.heap.size w w' := by
  obtain ⟨k, n, s⟩ := v
  unfold aggG
  dsimp only at hs ⊢
  unfold maxLen at hs
  go_enter Tryz.func60, Tryz.ntmps60
  go_wp2
  all_goals go_ret
  all_goals exact ⟨ret_bool (by simp_all [validG, tl_dat] <;> omega), below_alloc _ _⟩
set_option maxHeartbeats 2000000 in
theorem rav_any (v : GVal) (hs : v.s.size ≤ maxLen) (w : World) :
    Calls Tryz.prog 61 #[aggG v] w fun e w' => e = .returned (.bool (validG v)) ∧ Below w.heap.size w w' := by
  obtain ⟨k, n, s⟩ := v
  unfold aggG
  dsimp only at hs ⊢
  unfold maxLen at hs
  go_enter Tryz.func61, Tryz.ntmps61
  go_wp2
  all_goals go_ret
  all_goals exact ⟨ret_bool (by simp_all [validG, tl_dat] <;> omega), below_alloc _ _⟩
end Go.Proofs.YtnfccpkmaebbiaaGreatDoor

namespace Go.Proofs.YtnfccpkmaebbiaaGreatDoor
open Go.RowKit Go.Lib

/-- Numbers that grow. -/
def ascB : List Int → Bool
  | [] => true
  | [_] => true
  | a :: b :: r => decide (a < b) && ascB (b :: r)
def tupValid (t : Tup) : Bool := ascB t.lin && (pdays t.lo t.hi && t.vals.all validG)
theorem ascB_step {l : List Int} {k : Nat} {x y : Int} (hx : l[k]? = some x) (hy : l[k + 1]? = some y) : ascB (l.drop k) = (decide (x < y) && ascB (l.drop (k + 1))) := by rw [drop_get hx, drop_get hy]; rfl
theorem ascB_last {l : List Int} {k : Nat} (h : l.length ≤ k + 1) : ascB (l.drop k) = true := by
  rcases Nat.lt_or_ge k l.length with h1 | h1
  · obtain ⟨x, hx⟩ := lget_some l k h1
    rw [drop_get hx, List.drop_of_length_le h]; rfl
  · rw [List.drop_of_length_le h1]; rfl
set_option maxHeartbeats 1000000 in
theorem vclos_any (v : GVal) (hs : v.s.size ≤ maxLen) (w : World) : Calls Tryz.prog 59 #[.agg #[.int .i64 v.kind, .int .i64 v.n, .string v.s]] w fun e w' => e = .returned (.bool (!validG v)) ∧ Below w.heap.size w w' := by
  have HV := fun W => Lib.hid (vav_any v hs W)
  obtain ⟨k, n, s⟩ := v
  unfold aggG at HV
  dsimp only at HV ⊢
  generalize validG ⟨k, n, s⟩ = q at HV ⊢
  have hg := World.alloc_heap_new w (.cells #[.int .i64 k, .int .i64 n, .string s] 74)
  obtain ⟨⟨c0, c1, c2⟩, _⟩ := box_three hg
  clear hg
  go_enter Tryz.func59, Tryz.ntmps59
  go_wp2_with fail
  refine (HV _).out.mono ?_
  rintro _ w2 ⟨rfl, hb⟩
  have HB := Lib.hid (below_alloc2' hb)
  clear hb
  cases q
  · go_wp2_with fail
    go_ret
    exact ⟨rfl, HB.out⟩
  · go_wp2_with fail
    go_ret
    exact ⟨rfl, HB.out⟩
set_option maxHeartbeats 2000000 in
theorem idxVal_any (v : Value) (l : List GVal) (w : World) (hv : Sl valE w free v l) (hs : ∀ x ∈ l, x.s.size ≤ maxLen) :
    Calls Tryz.prog 88 #[v, .func (.func 59) #[] #[]] w fun e w' => ∃ r : Int, e = .returned (.int .i64 r) ∧ decide (0 ≤ r) = l.any (fun x => !validG x) ∧ Below w.heap.size w w' := by
  obtain ⟨a, c, rfl⟩ := hv.shape
  have h63 := hv.1
  have HV := Lib.hid hv
  have HS := Lib.hid hs
  obtain ⟨n, hn⟩ : ∃ n, n = l.length := ⟨_, rfl⟩
  have HN := Lib.hid hn
  rw [← hn] at h63 HV ⊢
  clear hv hn hs
  go_enter Tryz.func88, Tryz.ntmps88
  go_wp2_with fail
  go_loopw [8] (fun i wr => ∃ k : Nat, k ≤ n ∧ i = .int .i64 k ∧ Hid (l.any (fun x => !validG x) = (l.drop k).any (fun x => !validG x)) ∧ Below w.heap.size w wr) (fun i _ => n - (intOf i).toNat)
  case atStart => exact ⟨0, Nat.zero_le _, rfl, Lib.hid rfl, Below.refl _ _⟩
  case round =>
    obtain ⟨k, hk, rfl, HA, hB⟩ := hrel
    obtain ⟨wo, rfl⟩ : ∃ wo : World, wo = wr := ⟨_, rfl⟩
    by_cases hlt : k < n
    · obtain ⟨x, hx⟩ := lget_some l k (by rw [← HN.out]; exact hlt)
      obtain ⟨b, o, rfl, p0, p1, p2⟩ := val_at3 (HV.out.below hB) hx
      have HB := Lib.hid hB
      have HC : Hid (Calls Tryz.prog 59 #[.agg #[.int .i64 x.kind, .int .i64 x.n, .string x.s]] wo fun e w' => e = .returned (.bool (!validG x)) ∧ Below wo.heap.size wo w') := vclos_any x (HS.out x (List.mem_of_getElem? hx)) wo
      have HD : Hid (l.any (fun x => !validG x) = ((!validG x) || (l.drop (k + 1)).any (fun x => !validG x))) := by show _ = _; rw [HA.out, drop_get hx]; rfl
      obtain ⟨q, hq⟩ : ∃ q, q = (!validG x) := ⟨_, rfl⟩
      rw [← hq] at HC HD
      obtain ⟨xk, xn, xs⟩ := x
      dsimp only at p0 p1 p2 HC HD
      clear hB hx hq
      go_wp2_with fail
      refine HC.out.mono ?_
      rintro _ w2 ⟨rfl, hb2⟩
      have HB2 := Lib.hid (below_keep HB.out hb2)
      clear hb2
      cases q
      · go_wp2_with fail
        go_roundw
        case rel => exact ⟨k + 1, by omega, by go_num, by rw [HD.out, Bool.false_or]; exact Lib.hid rfl, HB2.out⟩
        case measure => simp [intOf]; omega
      · go_wp2_with fail
        go_ret
        refine ⟨_, rfl, ?_, HB2.out⟩
        rw [HD.out]
        simp
    · have HF : Hid (l.any (fun x => !validG x) = false) := by show _ = _; rw [HA.out, List.drop_of_length_le (by rw [← HN.out]; omega)]; rfl
      go_wp2_with fail
      go_ret
      refine ⟨_, rfl, ?_, hB⟩
      rw [HF.out]
      rfl
set_option maxHeartbeats 1000000 in
theorem containsVal_any (v : Value) (l : List GVal) (w : World) (hv : Sl valE w free v l) (hs : ∀ x ∈ l, x.s.size ≤ maxLen) :
    Calls Tryz.prog 58 #[v, .func (.func 59) #[] #[]] w fun e w' => e = .returned (.bool (l.any fun x => !validG x)) ∧ Below w.heap.size w w' := by
  have HI := Lib.hid (idxVal_any v l w hv hs)
  clear hv hs
  go_enter Tryz.func58, Tryz.ntmps58
  go_wp2_with fail
  refine HI.out.mono ?_
  rintro _ w2 ⟨r, rfl, hr, hb2⟩
  have HR := Lib.hid hr
  have HB := Lib.hid hb2
  clear hr hb2
  go_wp2_with fail
  go_ret
  exact ⟨ret_bool HR.out, HB.out⟩
set_option maxHeartbeats 4000000 in
set_option maxRecDepth 100000 in
theorem tvalid_any (v u : Value) (vals : List GVal) (lin : List Int) (lo hi : Int) (w : World) (hv : Sl valE w free v vals) (hu : Sl intE w free u lin) (hs : ∀ x ∈ vals, x.s.size ≤ maxLen) :
    Calls Tryz.prog 28 #[.agg #[v, .int .i64 lo, .int .i64 hi, u]] w fun e w' => e = .returned (.bool (tupValid ⟨vals, lo, hi, lin⟩)) ∧ Below w.heap.size w w' := by
  have HCF := fun W (h : Below w.heap.size w W) => Lib.hid (containsVal_any v vals W (hv.below h) hs)
  obtain ⟨a1, c1, rfl⟩ := hv.shape
  obtain ⟨e1, d1, rfl⟩ := hu.shape
  have h63 := hu.1
  have HU := Lib.hid hu
  have HPD := fun W => Lib.hid (prd_days lo hi W)
  have HTV : Hid (tupValid ⟨vals, lo, hi, lin⟩ = (ascB lin && (pdays lo hi && !(vals.any fun x => !validG x)))) := by
    show _ = _
    unfold tupValid
    dsimp only
    congr 2
    rw [List.all_eq_not_any_not]
  generalize pdays lo hi = q at HPD HTV
  generalize (vals.any fun x => !validG x) = q2 at HCF HTV
  generalize tupValid ⟨vals, lo, hi, lin⟩ = r at HTV ⊢
  obtain ⟨n, hn⟩ : ∃ n, n = vals.length := ⟨_, rfl⟩
  obtain ⟨m, hm⟩ : ∃ m, m = lin.length := ⟨_, rfl⟩
  have HM := Lib.hid hm
  rw [← hn] at HCF ⊢
  rw [← hm] at HU h63 ⊢
  have hX0 := World.alloc_heap_new w (.cells #[.slice a1 n c1, .int .i64 lo, .int .i64 hi, .slice e1 m d1] 45)
  have hb0 := below_alloc w (.cells #[.slice a1 n c1, .int .i64 lo, .int .i64 hi, .slice e1 m d1] 45)
  obtain ⟨W0, hW0⟩ : ∃ W0, W0 = w.alloc (.cells #[.slice a1 n c1, .int .i64 lo, .int .i64 hi, .slice e1 m d1] 45) := ⟨_, rfl⟩
  rw [← hW0] at hX0 hb0
  obtain ⟨⟨d0, d1', d2, d3⟩, _⟩ := box_four hX0
  have HX0 := Lib.hid hX0
  have HB0 := Lib.hid hb0
  have HW0 := Lib.hid hW0
  rw [hW0] at d0 d1' d2 d3
  clear hv hu hs hn hm hX0 hb0 hW0
  go_enter Tryz.func28, Tryz.ntmps28
  go_wp2_with fail
  rw [← HW0.out] at d0 d1' d2 d3 ⊢
  go_loop [8] (fun i => ∃ k : Nat, k ≤ m ∧ i = .int .i64 k ∧ Hid (ascB lin = ascB (lin.drop (k - 1)))) (fun i => m - (intOf i).toNat)
  case atStart => exact ⟨0, Nat.zero_le _, rfl, Lib.hid rfl⟩
  case round =>
    obtain ⟨k, hk, rfl, HA⟩ := hrel
    by_cases hlt : k < m
    · obtain ⟨y, hy⟩ := lget_some lin k (by rw [← HM.out]; exact hlt)
      obtain ⟨b, o, rfl, p0⟩ := ints_at' (HU.out.below HB0.out) hy
      by_cases h0 : k = 0
      · subst h0
        rw [Nat.add_zero] at p0
        go_wp2_with fail
        go_round
        case rel => exact ⟨1, by omega, by go_num, HA⟩
        case measure => simp [intOf]; omega
      · obtain ⟨j, rfl⟩ : ∃ j, k = j + 1 := ⟨k - 1, by omega⟩
        obtain ⟨x, hx⟩ := lget_some lin j (by rw [← HM.out]; omega)
        obtain ⟨b', o', eb, p1⟩ := ints_at' (HU.out.below HB0.out) hx
        cases eb
        have HS : Hid (ascB lin = (decide (x < y) && ascB (lin.drop (j + 1)))) := by show _ = _; rw [HA.out]; exact ascB_step hx hy
        have hs1 : ((j : Int) + 1 - 1) = (j : Int) := by omega
        clear hx hy
        by_cases hxy : x < y
        · have HNX : Hid (ascB lin = ascB (lin.drop (j + 1))) := by show _ = _; rw [HS.out, decide_eq_true hxy, Bool.true_and]
          go_wp2_with fail
          go_round
          case rel => exact ⟨j + 1 + 1, by omega, by go_num, HNX⟩
          case measure => simp [intOf]; omega
        · have HNX : Hid (ascB lin = false) := by show _ = _; rw [HS.out, decide_eq_false hxy, Bool.false_and]
          go_wp2_with fail
          go_ret
          exact ⟨ret_bool (by rw [HTV.out, HNX.out]; rfl), HB0.out⟩
    · have HF : Hid (ascB lin = true) := by show _ = _; rw [HA.out]; exact ascB_last (by rw [← HM.out]; omega)
      go_wp2_with fail
      refine (HPD _).out.mono ?_
      rintro _ w2 ⟨rfl, hb2⟩
      have HX2 := Lib.hid (box_kept HX0.out hb2)
      have HB2 := Lib.hid (below_keep HB0.out hb2)
      clear hb2 d0 d1' d2 d3
      obtain ⟨⟨d0, _, _, _⟩, _⟩ := box_four HX2.out
      cases q
      · go_wp2_with fail
        go_ret
        exact ⟨ret_bool (by rw [HTV.out, HF.out]; rfl), HB2.out⟩
      · have HC2 := HCF w2 HB2.out
        clear HCF
        go_wp2_with fail
        refine HC2.out.mono ?_
        rintro _ w3 ⟨rfl, hb3⟩
        have HB3 := Lib.hid (below_keep HB2.out hb3)
        clear hb3
        cases q2
        · go_wp2_with fail
          go_ret
          exact ⟨ret_bool (by rw [HTV.out, HF.out]; rfl), HB3.out⟩
        · go_wp2_with fail
          go_ret
          exact ⟨ret_bool (by rw [HTV.out, HF.out]; rfl), HB3.out⟩
end Go.Proofs.YtnfccpkmaebbiaaGreatDoor

namespace Go.Proofs.YtnfccpkmaebbiaaGreatDoor
open Go.RowKit Go.Lib Go.Shelf

theorem ints_at {w : World} {G : Nat → Prop} {a : Option Addr} {n c k : Nat} {l : List Int} {x : Int} (h : Sl intE w G (.slice a n c) l) (hk : l[k]? = some x) : ∃ b o, a = some ⟨b, o, none⟩ ∧ w.cell? ⟨b, o + k, none⟩ = some (.int .i64 x) := by
  obtain ⟨b, o, cs, ha, rfl, hc⟩ := Sl.at h hk
  have h0 : w.cell? ⟨b, o + k * 1 + 0, none⟩ = some (.int .i64 x) := hc 0 _ rfl
  rw [Nat.mul_one, Nat.add_zero] at h0
  exact ⟨b, o, ha, h0⟩
/-- After j of both slices. -/
def accU (a b : List Int) : Nat → List Int
  | 0 => []
  | 1 => a.foldl ins []
  | _ => mergeL a b
theorem accU_length (a b : List Int) (j : Nat) : (accU a b j).length ≤ a.length + b.length := by
  match j with
  | 0 => simp [accU]
  | 1 => have := foldIns_length a []; simp [accU] at *; omega
  | j + 2 => exact mergeL_length a b

set_option maxHeartbeats 8000000 in
set_option maxRecDepth 100000 in
theorem merge_any (v u : Value) (a b : List Int) (w : World) (hv : Sl intE w free v a) (hu : Sl intE w free u b) (hs : a.length + b.length ≤ 1000000000) :
    Calls Tryz.prog 65 #[v, u] w (RetOwn intE w (mergeL a b)) := by
  obtain ⟨a1, c1, rfl⟩ := hv.shape
  obtain ⟨a2, c2, rfl⟩ := hu.shape
  have HA := Lib.hid hv
  have HB := Lib.hid hu
  obtain ⟨n1, hn1⟩ : ∃ n, n = a.length := ⟨_, rfl⟩
  obtain ⟨n2, hn2⟩ : ∃ n, n = b.length := ⟨_, rfl⟩
  have HN1 := Lib.hid hn1
  have HN2 := Lib.hid hn2
  rw [← hn1] at HA ⊢
  rw [← hn2] at HB ⊢
  clear hv hu hn1 hn2
  go_enter Tryz.func65, Tryz.ntmps65
  go_wp2_with fail
  go_loopw [14, 5] (fun i o wr => ∃ j : Nat, j ≤ 2 ∧ i = .int .i64 j ∧ Own intE wr w.heap.size o (accU a b j) ∧ Below w.heap.size w wr) (fun i _ _ => 2 - (intOf i).toNat)
  case atStart => exact ⟨0, Nat.zero_le _, rfl, Own.nil _ _ _, Below.refl _ _⟩
  case round =>
    obtain ⟨j, hj, rfl, hO, hB⟩ := hrel
    obtain ⟨wo, rfl⟩ : ∃ wo : World, wo = wr := ⟨_, rfl⟩
    obtain ⟨oa, oc, rfl⟩ := hO.shape
    by_cases hlt : j < 2
    · obtain ⟨a3, c3, n3, lx, hidx, hlx, hn3, hacc⟩ : ∃ (a3 : Option Addr) (c3 n3 : Nat) (lx : List Int), (∀ W, (Instr.index 111 (.agg #[.slice a1 n1 c1, .slice a2 n2 c2]) (.int .i64 (j : Int))).run Tryz.prog W = .ok (.slice a3 n3 c3) W) ∧ Sl intE w free (.slice a3 n3 c3) lx ∧ lx.length = n3 ∧ Hid (∀ q, ((lx.take q).foldl ins (accU a b j)).length ≤ a.length + b.length) ∧ lx.foldl ins (accU a b j) = accU a b (j + 1) ∧ n3 ≤ 1000000000 := by
        have hlen : ∀ (xs l : List Int) (q : Nat), ((xs.take q).foldl ins l).length ≤ l.length + xs.length := fun xs l q => Nat.le_trans (foldIns_length _ _) (by rw [List.length_take]; omega)
        rcases (by omega : j = 0 ∨ j = 1) with rfl | rfl
        · exact ⟨a1, c1, n1, a, fun W => by kernel_rfl, HA.out, HN1.out.symm, fun q => by have := hlen a [] q; simp [accU] at *; omega, rfl, by have := HN1.out; omega⟩
        · refine ⟨a2, c2, n2, b, fun W => by kernel_rfl, HB.out, HN2.out.symm, fun q => ?_, by simp [accU, mergeL], by have := HN2.out; omega⟩
          have := hlen b (accU a b 1) q
          have h2 := foldIns_length a []
          simp [accU] at *; omega
      obtain ⟨hacb, hacc, hn3b⟩ := hacc
      have HACC := Lib.hid hacc
      have HL3 := Lib.hid hn3
      have HLX := Lib.hid hlx
      clear hacc hn3 hlx
      have hjd : decide ((j : Int) < 2) = true := by simp; omega
      go_wp2_with fail
      go_loopw [19, 5] (fun i o wr => ∃ q : Nat, q ≤ n3 ∧ i = .int .i64 q ∧ Own intE wr w.heap.size o ((lx.take q).foldl ins (accU a b j)) ∧ Below w.heap.size w wr) (fun i _ _ => n3 - (intOf i).toNat)
      case atStart => exact ⟨0, Nat.zero_le _, rfl, hO, hB⟩
      case round =>
        obtain ⟨q, hq, rfl, hO2, hB2⟩ := hrel
        obtain ⟨wp, rfl⟩ : ∃ wp : World, wp = wr := ⟨_, rfl⟩
        have hml := hacb.out q
        obtain ⟨out, hout⟩ : ∃ out, out = (lx.take q).foldl ins (accU a b j) := ⟨_, rfl⟩
        have HOUT := Lib.hid hout
        rw [← hout] at hO2 hml
        obtain ⟨m, hm⟩ : ∃ m, m = out.length := ⟨_, rfl⟩
        obtain ⟨pa, pc, rfl⟩ := hO2.shape
        have HM := Lib.hid hm
        rw [← hm] at hO2 hml ⊢
        have hmx : m ≤ 1000000000 := by omega
        have hml1 : out.length ≤ m := Nat.le_of_eq HM.out.symm
        have hml2 : m ≤ out.length := Nat.le_of_eq HM.out
        clear hout hm hml
        by_cases hlt2 : q < n3
        · obtain ⟨x, hx⟩ := lget_some lx q (by rw [HL3.out]; exact hlt2)
          obtain ⟨b3, o3, e3, hat⟩ := ints_at HLX.out hx
          subst e3
          replace hat := cell_keep hB2 hat
          have HNEXT : Hid ((lx.take (q + 1)).foldl ins (accU a b j) = ins out x) := by show _ = _; rw [take_get hx, List.foldl_append, ← HOUT.out]; rfl
          clear hx
          go_wp2_with fail
          go_loop [10] (fun t => ∃ k : Nat, k ≤ m ∧ t = .int .i64 k ∧ Hid (∀ i y, i < k → out[i]? = some y → y < x)) (fun t => m - (intOf t).toNat)
          case atStart => exact ⟨0, Nat.zero_le _, rfl, fun i y h => absurd h (Nat.not_lt_zero i)⟩
          case round =>
            obtain ⟨k, hk, rfl, HK⟩ := hrel
            by_cases h3 : k < m
            · obtain ⟨y, hy⟩ := lget_some out k (by rw [← HM.out]; exact h3)
              obtain ⟨b4, o4, e4, hat4⟩ := ints_at hO2.sl hy
              subst e4
              have HY := Lib.hid hy
              have hkb : ((k : Int) == (m : Int)) = false := by rw [beq_eq_false_iff_ne]; omega
              have hkl : (k : Int) < (m : Int) := by omega
              by_cases h4 : y < x
              · clear hy
                go_wp2_with fail
                go_round
                case rel =>
                  refine ⟨k + 1, by omega, by go_num, fun i z hi hz => ?_⟩
                  rcases Nat.lt_or_ge i k with h | h
                  · exact HK.out i z h hz
                  · have : i = k := by omega
                    subst this
                    rw [HY.out] at hz; cases hz; exact h4
                case measure => simp [intOf]; omega
              · have hlead : lead x out = k := lead_eq x out k (by omega) HK.out (fun z hz => by rw [hy] at hz; cases hz; exact h4)
                by_cases h5 : y = x
                · have HINS : Hid ((lx.take (q + 1)).foldl ins (accU a b j) = out) := by show _ = _; rw [HNEXT.out, ins, hlead, if_pos (by rw [hy, h5])]
                  have h5b : (y != x) = false := by simp [h5]
                  have HY5 := Lib.hid h5
                  clear hy hlead h5
                  go_wp2_with fail
                  go_roundw
                  case rel => exact ⟨q + 1, by omega, by go_num, by rw [HINS.out]; exact hO2, hB2⟩
                  case measure => simp [intOf]; omega
                · have HINS : Hid ((lx.take (q + 1)).foldl ins (accU a b j) = out.take k ++ [x] ++ out.drop k) := by show _ = _; rw [HNEXT.out, ins, hlead, if_neg (by rw [hy]; simpa using h5)]
                  have h5b : (y != x) = true := by simpa using h5
                  clear hy hlead
                  have HTL : Hid (([] : List Int).length + (out.take k).length = k) := by show _ = _; simp; omega
                  have HDL : Hid ((out.take k ++ [x]).length + (out.drop k).length = m + 1) := by show _ = _; simp; omega
                  have hcap := hO2.sl.cap
                  have hki1 : (k : Int) ≤ (pc : Int) := by omega
                  have hki2 : (0 : Int) ≤ (k : Int) := by omega
                  have hki3 : (k : Int) ≤ (m : Int) := by omega
                  have hki4 : (m : Int) ≤ (pc : Int) := by omega
                  have HT : Hid (Sl intE wp (fun mm => wp.heap.size ≤ mm) (.slice (some ⟨b4, o4, none⟩) k pc) (out.take k)) := (hO2.sl.takeS hk).old (Nat.le_refl _)
                  have hck : ¬ pc = k := by omega
                  have HD : Hid (Sl intE wp (fun mm => wp.heap.size ≤ mm) (.slice (some ⟨b4, o4 + k, none⟩) (m - k) (pc - k)) (out.drop k)) := by
                    have h := hO2.sl.dropS hk
                    rw [show k * intE.size = k from Nat.mul_one k] at h
                    rw [Option.map_some, Addr.add_lit] at h
                    exact h.old (Nat.le_refl _)
                  go_wp2_with fail
                  go_region_held3 (fun W => Below wp.heap.size wp W)
                    ((first | exact (Below.refl _ _).drew | exact below_alloc_keep (by assumption) | exact Below.trans (by assumption) (Joined.below (by assumption)) | exact Below.trans (by assumption) (Pushed.below (by assumption))))
                    (first
                      | (refine step_join rfl (.const (.slice none 0 0)) (.tmp 51) 34 rfl intE Tryz.underlying34 wp.heap.size (.slice none 0 0) (.slice (some ⟨b4, o4, none⟩) k pc) [] (out.take k) rfl rfl (Own.nil _ _ _) ((HT.out.below (by assumption)).mono (fun _ _ h => by simp [Value.ownBlock] at h)) (by unfold maxLen; simp; omega) (by show _ * 8 ≤ _; simp; omega) (Below.size (by assumption)) k HTL.out ?_; intro x1 y1 w1 hJ1)
                      | (refine step_push rfl (.tmp 52) (.tmp 54) 34 rfl intE Tryz.underlying34 wp.heap.size (.slice x1 k y1) (out.take k) rfl hJ1.own [x] #[.int .i64 x] (Els.one rfl) 1 1 rfl rfl (by decide) (by unfold maxLen; simp; omega) (by show _ * 8 ≤ _; simp; omega) hJ1.below.size ?_; intro g cap w2 hP hPa)
                      | (refine step_push_at rfl (.tmp 52) (.tmp 54) 34 rfl intE Tryz.underlying34 wp.heap.size (.slice x1 k y1) (out.take k) rfl hJ1.own [x] [.int .i64 x] (Els.one rfl) ⟨wp.heap.size, 0, none⟩ 1 1 rfl rfl (fun jj uu hu => hJ1.kept.cell (by simp [Value.ownBlock]) (cells_new wp.drew _ _ jj uu hu)) (by decide) (by unfold maxLen; simp; omega) (by show _ * 8 ≤ _; simp; omega) (Below.size (by assumption)) ?_; intro g cap w2 hP)
                      | (refine step_join rfl (.tmp 55) (.tmp 58) 34 rfl intE Tryz.underlying34 wp.heap.size (.slice (some ⟨g, 0, none⟩) ((out.take k).length + 1) cap) (.slice (some ⟨b4, o4 + k, none⟩) (m - k) (pc - k)) (out.take k ++ [x]) (out.drop k) rfl rfl (hP.own' (by simp)) ((HD.out.below (by assumption)).mono (fun mm _ hh => ((hP.own' (n := (out.take k).length + 1) (by simp)).lt mm hh.symm).1)) (by unfold maxLen; simp; omega) (by show _ * 8 ≤ _; simp; omega) (Below.size (by assumption)) (m + 1) HDL.out ?_; intro x3 y3 w3 hJ3))
                  all_goals
                    have hb9 : Below wp.heap.size wp w3 := by assumption
                    have hB9 : Below w.heap.size w w3 := hB2.trans (hb9.mono hB2.size)
                    go_wp2_with fail
                    go_roundw
                    case rel => exact ⟨q + 1, by omega, by go_num, by rw [HINS.out]; exact hJ3.own.mono hB2.size, hB9⟩
                    case measure => simp [intOf]; omega
            · have hlead : lead x out = k := lead_eq x out k (by omega) HK.out (fun z hz => by rw [List.getElem?_eq_none (by omega)] at hz; cases hz)
              have HINS : Hid ((lx.take (q + 1)).foldl ins (accU a b j) = out.take k ++ [x] ++ out.drop k) := by show _ = _; rw [HNEXT.out, ins, hlead, if_neg (by rw [List.getElem?_eq_none (by omega)]; simp)]
              have hkb : ((k : Int) == (m : Int)) = true := by rw [beq_iff_eq]; omega
              clear hlead
              have HTL : Hid (([] : List Int).length + (out.take k).length = k) := by show _ = _; simp; omega
              have HDL : Hid ((out.take k ++ [x]).length + (out.drop k).length = m + 1) := by show _ = _; simp; omega
              have hcap := hO2.sl.cap
              have hki1 : (k : Int) ≤ (pc : Int) := by omega
              have hki2 : (0 : Int) ≤ (k : Int) := by omega
              have hki3 : (k : Int) ≤ (m : Int) := by omega
              have hki4 : (m : Int) ≤ (pc : Int) := by omega
              have HT : Hid (Sl intE wp (fun mm => wp.heap.size ≤ mm) (.slice pa k pc) (out.take k)) := (hO2.sl.takeS hk).old (Nat.le_refl _)
              by_cases hck : pc = k
              · have hck' := hck.symm
                subst hck'
                have HD : Hid (Sl intE wp (fun mm => wp.heap.size ≤ mm) (.slice pa 0 0) (out.drop k)) := Sl.none_left (by omega) rfl
                go_wp2_with fail
                go_region_held3 (fun W => Below wp.heap.size wp W)
                  ((first | exact (Below.refl _ _).drew | exact below_alloc_keep (by assumption) | exact Below.trans (by assumption) (Joined.below (by assumption)) | exact Below.trans (by assumption) (Pushed.below (by assumption))))
                  (first
                    | (refine step_join rfl (.const (.slice none 0 0)) (.tmp 51) 34 rfl intE Tryz.underlying34 wp.heap.size (.slice none 0 0) (.slice pa k k) [] (out.take k) rfl rfl (Own.nil _ _ _) ((HT.out.below (by assumption)).mono (fun _ _ h => by simp [Value.ownBlock] at h)) (by unfold maxLen; simp; omega) (by show _ * 8 ≤ _; simp; omega) (Below.size (by assumption)) k HTL.out ?_; intro x1 y1 w1 hJ1)
                    | (refine step_push rfl (.tmp 52) (.tmp 54) 34 rfl intE Tryz.underlying34 wp.heap.size (.slice x1 k y1) (out.take k) rfl hJ1.own [x] #[.int .i64 x] (Els.one rfl) 1 1 rfl rfl (by decide) (by unfold maxLen; simp; omega) (by show _ * 8 ≤ _; simp; omega) hJ1.below.size ?_; intro g cap w2 hP hPa)
                    | (refine step_push_at rfl (.tmp 52) (.tmp 54) 34 rfl intE Tryz.underlying34 wp.heap.size (.slice x1 k y1) (out.take k) rfl hJ1.own [x] [.int .i64 x] (Els.one rfl) ⟨wp.heap.size, 0, none⟩ 1 1 rfl rfl (fun jj uu hu => hJ1.kept.cell (by simp [Value.ownBlock]) (cells_new wp.drew _ _ jj uu hu)) (by decide) (by unfold maxLen; simp; omega) (by show _ * 8 ≤ _; simp; omega) (Below.size (by assumption)) ?_; intro g cap w2 hP)
                    | (refine step_join rfl (.tmp 55) (.tmp 58) 34 rfl intE Tryz.underlying34 wp.heap.size (.slice (some ⟨g, 0, none⟩) ((out.take k).length + 1) cap) (.slice pa 0 0) (out.take k ++ [x]) (out.drop k) rfl rfl (hP.own' (by simp)) ((HD.out.below (by assumption)).mono (fun mm _ hh => ((hP.own' (n := (out.take k).length + 1) (by simp)).lt mm hh.symm).1)) (by unfold maxLen; simp; omega) (by show _ * 8 ≤ _; simp; omega) (Below.size (by assumption)) (m + 1) HDL.out ?_; intro x3 y3 w3 hJ3))
                all_goals
                  have hb9 : Below wp.heap.size wp w3 := by assumption
                  have hB9 : Below w.heap.size w w3 := hB2.trans (hb9.mono hB2.size)
                  go_wp2_with fail
                  go_roundw
                  case rel => exact ⟨q + 1, by omega, by go_num, by rw [HINS.out]; exact hJ3.own.mono hB2.size, hB9⟩
                  case measure => simp [intOf]; omega
              · have HD : Hid (Sl intE wp (fun mm => wp.heap.size ≤ mm) (.slice (pa.map fun y => y.add k) (m - k) (pc - k)) (out.drop k)) := by
                  have h := hO2.sl.dropS hk
                  rw [show k * intE.size = k from Nat.mul_one k] at h
                  exact h.old (Nat.le_refl _)
                go_wp2_with fail
                go_region_held3 (fun W => Below wp.heap.size wp W)
                  ((first | exact (Below.refl _ _).drew | exact below_alloc_keep (by assumption) | exact Below.trans (by assumption) (Joined.below (by assumption)) | exact Below.trans (by assumption) (Pushed.below (by assumption))))
                  (first
                    | (refine step_join rfl (.const (.slice none 0 0)) (.tmp 51) 34 rfl intE Tryz.underlying34 wp.heap.size (.slice none 0 0) (.slice pa k pc) [] (out.take k) rfl rfl (Own.nil _ _ _) ((HT.out.below (by assumption)).mono (fun _ _ h => by simp [Value.ownBlock] at h)) (by unfold maxLen; simp; omega) (by show _ * 8 ≤ _; simp; omega) (Below.size (by assumption)) k HTL.out ?_; intro x1 y1 w1 hJ1)
                    | (refine step_push rfl (.tmp 52) (.tmp 54) 34 rfl intE Tryz.underlying34 wp.heap.size (.slice x1 k y1) (out.take k) rfl hJ1.own [x] #[.int .i64 x] (Els.one rfl) 1 1 rfl rfl (by decide) (by unfold maxLen; simp; omega) (by show _ * 8 ≤ _; simp; omega) hJ1.below.size ?_; intro g cap w2 hP hPa)
                    | (refine step_push_at rfl (.tmp 52) (.tmp 54) 34 rfl intE Tryz.underlying34 wp.heap.size (.slice x1 k y1) (out.take k) rfl hJ1.own [x] [.int .i64 x] (Els.one rfl) ⟨wp.heap.size, 0, none⟩ 1 1 rfl rfl (fun jj uu hu => hJ1.kept.cell (by simp [Value.ownBlock]) (cells_new wp.drew _ _ jj uu hu)) (by decide) (by unfold maxLen; simp; omega) (by show _ * 8 ≤ _; simp; omega) (Below.size (by assumption)) ?_; intro g cap w2 hP)
                    | (refine step_join rfl (.tmp 55) (.tmp 58) 34 rfl intE Tryz.underlying34 wp.heap.size (.slice (some ⟨g, 0, none⟩) ((out.take k).length + 1) cap) (.slice (pa.map fun y => y.add k) (m - k) (pc - k)) (out.take k ++ [x]) (out.drop k) rfl rfl (hP.own' (by simp)) ((HD.out.below (by assumption)).mono (fun mm _ hh => ((hP.own' (n := (out.take k).length + 1) (by simp)).lt mm hh.symm).1)) (by unfold maxLen; simp; omega) (by show _ * 8 ≤ _; simp; omega) (Below.size (by assumption)) (m + 1) HDL.out ?_; intro x3 y3 w3 hJ3))
                all_goals
                  have hb9 : Below wp.heap.size wp w3 := by assumption
                  have hB9 : Below w.heap.size w w3 := hB2.trans (hb9.mono hB2.size)
                  go_wp2_with fail
                  go_roundw
                  case rel => exact ⟨q + 1, by omega, by go_num, by rw [HINS.out]; exact hJ3.own.mono hB2.size, hB9⟩
                  case measure => simp [intOf]; omega
        · have HEND : Hid (out = accU a b (j + 1)) := by show _ = _; rw [HOUT.out, List.take_of_length_le (by rw [HL3.out]; omega), HACC.out]
          go_wp2_with fail
          go_roundw
          case rel => exact ⟨j + 1, by omega, by go_num, by rw [← HEND.out]; exact hO2, hB2⟩
          case measure => simp [intOf]; omega
    · have hj2 : j = 2 := by omega
      have HF : Hid (accU a b j = mergeL a b) := by show _ = _; rw [hj2]; rfl
      clear hj2
      go_wp2_with fail
      go_ret
      exact ⟨_, rfl, by rw [← HF.out]; exact hO, hB⟩
end Go.Proofs.YtnfccpkmaebbiaaGreatDoor

namespace Go.Proofs.YtnfccpkmaebbiaaGreatDoor
open Go.RowKit Go.Lib Go.Shelf

set_option maxHeartbeats 1000000 in
theorem rvalid_any (lo hi : Int) (w : World) :
    Calls Tryz.prog 64 #[.agg #[.int .i64 lo, .int .i64 hi]] w fun e w' => e = .returned (.bool (pvalid lo hi)) ∧ Below w.heap.size w w' := by
  go_enter Tryz.func64, Tryz.ntmps64
  go_wp2
  all_goals go_ret
  all_goals refine ⟨congrArg (fun b => Ending.returned (.bool b)) ?_, below_alloc _ _⟩
  all_goals (simp [pvalid, *]; try omega)

/-- What was there before the call is clear of a row of the call's own. -/
theorem Sl.clearOf {P : Program} {α : Type} {E : El P α} {w0 w : World} {G : Nat → Prop} {v u : Value} {ys : List α} (hu : Sl E w0 G u ys) (hb : Below w0.heap.size w0 w) (hlt : ∀ k, v.ownBlock = some k → w0.heap.size ≤ k) : Sl E w (fun k => some k = v.ownBlock) u ys :=
  ((hu.old (Nat.le_refl _)).below hb).mono (fun k _ hk => hlt k hk.symm)

end Go.Proofs.YtnfccpkmaebbiaaGreatDoor

namespace Go.Proofs.YtnfccpkmaebbiaaGreatDoor
open Go.RowKit Go.Lib Go.Shelf
end Go.Proofs.YtnfccpkmaebbiaaGreatDoor

namespace Go.Proofs.YtnfccpkmaebbiaaGreatDoor
open Go.Shelf Go.RowKit Go.Lib Go.Sort
def sh_laysNm220_ren : Go.Shelf.Ren := ⟨fun | 20 => 55 | n => n, fun | 22 => 34 | 3 => 3 | 4 => 4 | 0 => 0 | n => n, fun | n => n⟩
theorem sh_laysNm220 : Lays2.n20 Tryz.prog sh_laysNm220_ren := {
  mixed := by kernel_rfl
  f20 := Tryz.func55.trans (congrArg some (by kernel_rfl))
  t0 := Tryz.underlying0
  a0 := Tryz.isAgg0
  z0 := Tryz.sizeOf0
  v0 := Tryz.zeroValue0
  t3 := Tryz.underlying3
  a3 := Tryz.isAgg3
  z3 := Tryz.sizeOf3
  v3 := Tryz.zeroValue3
  t4 := Tryz.underlying4
  a4 := Tryz.isAgg4
  z4 := Tryz.sizeOf4
  v4 := Tryz.zeroValue4
  t22 := Tryz.underlying34
  a22 := Tryz.isAgg34
  z22 := Tryz.sizeOf34
  v22 := Tryz.zeroValue34
  i3 := by kernel_rfl }
theorem sh_slices_Compact_int (blk off cap : Nat) (zs : List Int) (w : World) (hH : Holds (Value.int .i64) w blk off zs.toArray) (hsz : zs.length ≤ 9223372036854775807) (hcap : zs.length ≤ cap) :
    Calls Tryz.prog 55 #[.slice (some ⟨blk, off, none⟩) zs.length cap] w fun e w' => e = .returned (.slice (some ⟨blk, off, none⟩) (Lib.compact zs).length cap) ∧ ∃ q, w' = putRow (Value.int .i64) (Sort.ahead w q) blk off (Lib.compact zs ++ List.replicate (zs.length - (Lib.compact zs).length) 0).toArray := Any.slices_Compact_int sh_laysNm220 blk off cap zs w hH hsz hcap
theorem sh_slices_Compact_int_empty (a : Option Addr) (cap : Nat) (w : World) :
    Calls Tryz.prog 55 #[.slice a 0 cap] w fun e w' => e = .returned (.slice a 0 cap) ∧ w' = w := Any.slices_Compact_int_empty sh_laysNm220 a cap w
theorem sh_slices_Compact_int_cells (b off n c : Nat) (zs : List Int) (w : World) (hz : n ≤ zs.length) (hbig : n ≤ 9223372036854775807) (hcap : n ≤ c) (hc : ∀ j, j < zs.length → w.cell? ⟨b, off + j, none⟩ = some (.int .i64 (zs.getD j 0))) (hf : ∀ j, j < n → w.frozen? ⟨b, off + j, none⟩ = false) :
    Calls Tryz.prog 55 #[.slice (some ⟨b, off, none⟩) n c] w fun e w' => e = .returned (.slice (some ⟨b, off, none⟩) (Lib.compact (zs.take n)).length c) ∧ ∃ q, w' = (w.drewN q).setCells b off ((Lib.compact (zs.take n) ++ List.replicate (n - (Lib.compact (zs.take n)).length) 0).map (Value.int .i64)) := Any.slices_Compact_int_cells sh_laysNm220 b off n c zs w hz hbig hcap hc hf
end Go.Proofs.YtnfccpkmaebbiaaGreatDoor

namespace Go.Proofs.YtnfccpkmaebbiaaGreatDoor
open Go.RowKit Go.Lib Go.Shelf Go.Sort

theorem sort_own (v : Value) (l : List Int) (B : Nat) (w : World) (h : Own intE w B v l) (hB : B ≤ w.heap.size) (hs : l.length ≤ 1000000000) :
    Calls Tryz.prog 54 #[v] w fun e w' => e = .returned (.tuple #[]) ∧ Own intE w' B v (srt l) ∧ Below B w w' := by
  have ho := h.ints
  rcases ho.2 with ⟨rfl, hz⟩ | ⟨gb, cap, cur, rfl, hbase, hgb, r1, r2, r3, r4⟩
  · have hzs : l = [] := List.eq_nil_of_length_eq_zero hz
    subst hzs
    refine (sh_slices_Sort_int_none none 0 w).mono ?_
    rintro e w' ⟨rfl, rfl⟩
    exact ⟨rfl, by simpa [srt] using h, Below.refl _ _⟩
  · have hH : Holds (Value.int .i64) w gb 0 l.toArray := holds_of_block_i hgb (by simpa [numCells] using r4)
    have hgl : gb < w.heap.size := (Array.getElem?_eq_some_iff.1 hgb).1
    refine (sh_slices_Sort_int gb 0 cap l w hH hgl (by omega)).mono ?_
    rintro e w' ⟨rfl, nn, os, rfl⟩
    have hlen : (srt l).length = l.length := List.length_mergeSort _
    refine ⟨rfl, Own.of_ints ?_, (Below.refl _ _).grown (grownBy_sorted_i _) hB (fun j hj => by cases hj; exact hbase)⟩
    have := ownsRow_sorted_i (e := 3) (n := nn) (os := os) (ts := srt l) hlen hbase hgb r1 r2 r3
    rw [hlen]; exact this
theorem compact_own (v : Value) (l : List Int) (B : Nat) (w : World) (h : Own intE w B v l) (hB : B ≤ w.heap.size) (hs : l.length ≤ 1000000000) :
    Calls Tryz.prog 55 #[v] w fun e w' => ∃ v', e = .returned v' ∧ Own intE w' B v' (Lib.compact l) ∧ Below B w w' := by
  have ho := h.ints
  rcases ho.2 with ⟨rfl, hz⟩ | ⟨gb, cap, cur, rfl, hbase, hgb, r1, r2, r3, r4⟩
  · have hzs : l = [] := List.eq_nil_of_length_eq_zero hz
    subst hzs
    refine (sh_slices_Compact_int_empty none 0 w).mono ?_
    rintro e w' ⟨rfl, rfl⟩
    exact ⟨_, rfl, h, Below.refl _ _⟩
  · have hH : Holds (Value.int .i64) w gb 0 l.toArray := holds_of_block_i hgb (by simpa [numCells] using r4)
    refine (sh_slices_Compact_int gb 0 cap l w hH (by omega) r1).mono ?_
    rintro e w' ⟨rfl, nn, rfl⟩
    have hle := Lib.compact_length_le l
    have hlen : (Lib.compact l ++ List.replicate (l.length - (Lib.compact l).length) 0).length = l.length := by simp; omega
    have ho' := ownsRow_sorted_i (e := 3) (n := nn) (os := #[]) hlen hbase hgb r1 r2 r3
    have hg : w.grownBy (grow (putRow (Value.int .i64) (Sort.ahead w nn) gb 0 (Lib.compact l ++ List.replicate (l.length - (Lib.compact l).length) 0).toArray) #[]) (some gb) := grownBy_sorted_i _
    rw [grow_empty] at ho' hg
    refine ⟨_, rfl, Own.of_ints ?_, (Below.refl _ _).grown hg hB (fun j hj => by cases hj; exact hbase)⟩
    rcases ho'.2 with ⟨e, _⟩ | ⟨g, cap', cur', e, q1, q2, q3, q4, q5, q6⟩
    · cases e
    · cases e
      refine ⟨by simp [numCells], .inr ⟨_, _, cur', rfl, q1, q2, by omega, q4, q5, ?_⟩⟩
      have h7 := congrArg (List.take (Lib.compact l).length) q6
      rw [List.take_take, Nat.mul_one, Nat.min_eq_left hle, List.map_append, List.take_left' (by simp)] at h7
      rw [Nat.mul_one]; exact h7

set_option maxHeartbeats 4000000 in
set_option maxRecDepth 100000 in
theorem bnds_any (v : Value) (l : List Tup) (w : World) (hv : Tups w v l) (hsz : l.length ≤ 100000000) :
    Calls Tryz.prog 26 #[v] w (RetOwn intE w (bnds l)) := by
  obtain ⟨a, c, rfl⟩ := hv.shape
  have HV := Lib.hid hv
  obtain ⟨n, hn⟩ : ∃ n, n = l.length := ⟨_, rfl⟩
  have HN := Lib.hid hn
  rw [← hn] at hsz HV ⊢
  clear hv hn
  go_enter Tryz.func26, Tryz.ntmps26
  go_wp2_with fail
  go_loopw [8, 3] (fun i o wr => ∃ k : Nat, k ≤ n ∧ i = .int .i64 k ∧ Own intE wr w.heap.size o (allEnds (l.take k)) ∧ Below w.heap.size w wr) (fun i _ _ => n - (intOf i).toNat)
  case atStart => exact ⟨0, Nat.zero_le _, rfl, Own.nil _ _ _, Below.refl _ _⟩
  case round =>
    obtain ⟨k, hk, rfl, hO, hB⟩ := hrel
    have hle : (allEnds (l.take k)).length ≤ n * 2 := by rw [HN.out]; exact allEnds_take_length l k
    by_cases hlt : k < n
    · obtain ⟨x, hx⟩ := lget_some l k (by rw [← HN.out]; exact hlt)
      obtain ⟨b, o, a3, n3, e3, m3, rfl, hv1, hu1, p0, p1, p2, p3⟩ := tups_at HV.out hx
      replace p0 := cell_keep hB p0
      replace p1 := cell_keep hB p1
      replace p2 := cell_keep hB p2
      replace p3 := cell_keep hB p3
      have HT : Hid (allEnds (l.take (k + 1)) = allEnds (l.take k) ++ ends x) := allEnds_snoc l k x hx
      obtain ⟨acc, hacc⟩ : ∃ acc, acc = allEnds (l.take k) := ⟨_, rfl⟩
      rw [← hacc] at HT hO hle
      obtain ⟨oa, oc, rfl⟩ := hO.shape
      clear hx hacc
      go_wp2_with fail
      refine (pvalid_any _ _ _).mono ?_
      rintro e w2 ⟨rfl, hb2⟩
      have hbx := box_kept (World.alloc_heap_new wr (.cells #[.slice a3 x.vals.length n3, .int .i64 x.lo, .int .i64 x.hi, .slice e3 x.lin.length m3] 45)) hb2
      have hB2 : Below wr.heap.size wr w2 := below_alloc2' hb2
      have hO2 := hO.below hB2
      have hB2' : Below w.heap.size w w2 := below_keep hB hB2
      clear hb2 p0 p1 p2 p3 hO hB2
      obtain ⟨⟨p0, p1, p2, p3⟩, f0, f1, f2, f3⟩ := box_four hbx
      clear hbx
      cases hval : pvalid x.lo x.hi
      · have HT' : Hid (allEnds (l.take (k + 1)) = acc) := by show _ = _; rw [HT.out, ends, hval]; simp
        clear hval
        go_wp2_with fail
        go_roundw
        case rel => exact ⟨k + 1, by omega, by go_num, by rw [HT'.out]; exact hO2, hB2'⟩
        case measure => simp [intOf]; omega
      · have HT' : Hid (allEnds (l.take (k + 1)) = acc ++ [x.lo, x.hi]) := by show _ = _; rw [HT.out, ends, hval, if_pos rfl]
        clear hval
        go_wp2_with (at_builtin; refine wpList_push rfl _ _ 34 rfl intE Tryz.underlying34 w.heap.size (.slice oa acc.length oc) acc rfl hO2 [x.lo, x.hi] #[.int .i64 x.lo, .int .i64 x.hi] (Els.cons (cs := [.int .i64 x.lo]) rfl (Els.one (cs := [.int .i64 x.hi]) rfl)) 2 2 rfl rfl (by decide) (by unfold maxLen; omega) (by show _ * 8 ≤ _; omega) hB2'.size ?_; intro g cap w5 hP hPa)
        go_roundw
        case rel => exact ⟨k + 1, by omega, by go_num, by rw [HT'.out]; exact hP.own' (by simp), hB2'.trans hP.below⟩
        case measure => simp [intOf]; omega
    · have HT : Hid (allEnds (l.take k) = allEnds l) := by show _ = _; rw [List.take_of_length_le (by rw [← HN.out]; omega)]
      rw [HT.out] at hO hle
      obtain ⟨oa, oc, rfl⟩ := hO.shape
      go_wp2_with fail
      refine (sort_own _ _ w.heap.size _ hO hB.size (by omega)).mono ?_
      rintro e w2 ⟨rfl, hO2, hb2⟩
      go_wp2_with fail
      have hl2 : (srt (allEnds l)).length = (allEnds l).length := List.length_mergeSort _
      refine (compact_own _ _ w.heap.size _ hO2 (Nat.le_trans hB.size hb2.size) (by omega)).mono ?_
      rintro e w3 ⟨v3, rfl, hO3, hb3⟩
      clear hl2
      obtain ⟨a4, c4, rfl⟩ := hO3.shape
      go_wp2_with fail
      go_ret
      exact ⟨_, rfl, hO3, (hB.trans hb2).trans hb3⟩

set_option maxHeartbeats 4000000 in
set_option maxRecDepth 100000 in
theorem refBnd_any (v : Value) (l : List Tup) (w : World) (hv : Tups w v l) (hsz : l.length ≤ 100000000) :
    Calls Tryz.prog 32 #[v] w (RetOwn intE w (refBnd l)) := by
  obtain ⟨a, c, rfl⟩ := hv.shape
  have HV := Lib.hid hv
  obtain ⟨n, hn⟩ : ∃ n, n = l.length := ⟨_, rfl⟩
  have HN := Lib.hid hn
  rw [← hn] at hsz HV ⊢
  clear hv hn
  go_enter Tryz.func32, Tryz.ntmps32
  go_wp2_with fail
  go_loopw [8, 3] (fun i o wr => ∃ k : Nat, k ≤ n ∧ i = .int .i64 k ∧ Own intE wr w.heap.size o (refBnd (l.take k)) ∧ Below w.heap.size w wr) (fun i _ _ => n - (intOf i).toNat)
  case atStart => exact ⟨0, Nat.zero_le _, rfl, Own.nil _ _ _, Below.refl _ _⟩
  case round =>
    obtain ⟨k, hk, rfl, hO, hB⟩ := hrel
    have hle : (refBnd (l.take k)).length ≤ n * 2 := Nat.le_trans (refBnd_length _) (Nat.mul_le_mul_right _ (by rw [List.length_take, HN.out]; omega))
    by_cases hlt : k < n
    · obtain ⟨x, hx⟩ := lget_some l k (by rw [← HN.out]; exact hlt)
      obtain ⟨b, o, a3, n3, e3, m3, rfl, hv1, hu1, p0, p1, p2, p3⟩ := tups_at HV.out hx
      replace p0 := cell_keep hB p0
      replace p1 := cell_keep hB p1
      replace p2 := cell_keep hB p2
      replace p3 := cell_keep hB p3
      have HT : Hid (refBnd (l.take (k + 1)) = if pvalid x.lo x.hi = true then mergeL (refBnd (l.take k)) [x.lo, x.hi] else refBnd (l.take k)) := refBnd_snoc l k x hx
      obtain ⟨acc, hacc⟩ : ∃ acc, acc = refBnd (l.take k) := ⟨_, rfl⟩
      rw [← hacc] at HT hO hle
      obtain ⟨oa, oc, rfl⟩ := hO.shape
      clear hx hacc
      go_wp2_with fail
      refine (rvalid_any _ _ _).mono ?_
      rintro e w2 ⟨rfl, hb2⟩
      have hbx := box_kept (World.alloc_heap_new wr (.cells #[.slice a3 x.vals.length n3, .int .i64 x.lo, .int .i64 x.hi, .slice e3 x.lin.length m3] 45)) hb2
      have hB2 : Below wr.heap.size wr w2 := below_alloc2' hb2
      have hO2 := hO.below hB2
      have hB2' : Below w.heap.size w w2 := below_keep hB hB2
      clear hb2 p0 p1 p2 p3 hO hB2
      obtain ⟨⟨p0, p1, p2, p3⟩, f0, f1, f2, f3⟩ := box_four hbx
      clear hbx
      cases hval : pvalid x.lo x.hi
      · have HT' : Hid (refBnd (l.take (k + 1)) = acc) := by show _ = _; rw [HT.out, hval]; simp
        clear hval
        go_wp2_with fail
        go_roundw
        case rel => exact ⟨k + 1, by omega, by go_num, by rw [HT'.out]; exact hO2, hB2'⟩
        case measure => simp [intOf]; omega
      · have HT' : Hid (refBnd (l.take (k + 1)) = mergeL acc [x.lo, x.hi]) := by show _ = _; rw [HT.out, hval, if_pos rfl]
        clear hval
        go_wp2_with fail
        have hS2 : Sl intE (w2.alloc (.cells #[.int .i64 x.lo, .int .i64 x.hi] 3)) free (.slice (some ⟨w2.heap.size, 0, none⟩) 2 2) [x.lo, x.hi] := Sl.of_block (World.alloc_heap_new w2 _) (Els.cons (cs := [.int .i64 x.lo]) rfl (Els.one (cs := [.int .i64 x.hi]) rfl)) id rfl (by decide) (by decide)
        refine (merge_any _ _ acc [x.lo, x.hi] _ (hO2.sl.below (below_alloc _ _)) hS2 (by simp; omega)).mono ?_
        rintro e w3 ⟨v3, rfl, hO3, hb3⟩
        obtain ⟨a4, c4, rfl⟩ := hO3.shape
        have hb3' : Below w.heap.size w w3 := below_keep (below_alloc_keep hB2') hb3
        go_wp2_with fail
        go_roundw
        case rel => exact ⟨k + 1, by omega, by go_num, by rw [HT'.out]; exact hO3.mono (by simp; have := hB2'.size; omega), hb3'⟩
        case measure => simp [intOf]; omega
    · have HT : Hid (refBnd (l.take k) = refBnd l) := by show _ = _; rw [List.take_of_length_le (by rw [← HN.out]; omega)]
      rw [HT.out] at hO hle
      obtain ⟨oa, oc, rfl⟩ := hO.shape
      go_wp2_with fail
      go_ret
      exact ⟨_, rfl, hO, hB⟩

end Go.Proofs.YtnfccpkmaebbiaaGreatDoor

namespace Go.Proofs.YtnfccpkmaebbiaaGreatDoor
open Go.RowKit Go.Lib Go.Shelf

theorem asc_unique {a b : List Int} (ha : a.Pairwise (· < ·)) (hb : b.Pairwise (· < ·)) (h : ∀ x, x ∈ a ↔ x ∈ b) : a = b := by
  have na : a.Nodup := ha.imp (by intro x y h; omega)
  have nb : b.Nodup := hb.imp (by intro x y h; omega)
  exact List.Perm.eq_of_pairwise (le := fun x y => x < y) (fun x y _ _ h1 h2 => by omega) ha hb ((List.perm_ext_iff_of_nodup na nb).2 h)
theorem compact_asc {zs : List Int} (h : zs.Pairwise (· ≤ ·)) : (Lib.compact zs).Pairwise (· < ·) := by
  unfold Lib.compact Lib.compactUpTo
  rw [List.pairwise_map]
  refine List.Pairwise.imp_of_mem ?_ (List.pairwise_lt_range.filter _)
  intro i j hi hj hij
  obtain ⟨hi1, _⟩ := List.mem_filter.1 hi
  obtain ⟨hj1, hj2⟩ := List.mem_filter.1 hj
  have hi3 := List.mem_range.1 hi1
  have hj3 := List.mem_range.1 hj1
  obtain ⟨k, rfl⟩ : ∃ k, j = k + 1 := ⟨j - 1, by omega⟩
  have hk : k + 1 < zs.length := by simpa using hj3
  have hne : zs.toArray[k + 1]! ≠ zs.toArray[k]! := by simpa [Lib.keeps] using hj2
  rw [getElem!_pos zs.toArray (k + 1) (by simpa using hk), getElem!_pos zs.toArray k (by simp; omega)] at hne
  rw [getElem!_pos zs.toArray (k + 1) (by simpa using hk), getElem!_pos zs.toArray i (by simp; omega)]
  have hp := List.pairwise_iff_getElem.1 h
  have h1 := hp k (k + 1) (by omega) hk (by omega)
  simp only [List.getElem_toArray] at hne ⊢
  rcases Nat.lt_or_ge i k with h2 | h2
  · have := hp i k (by omega) (by omega) h2
    omega
  · have e : i = k := by omega
    subst e
    omega
theorem bnds_asc (l : List Tup) : (bnds l).Pairwise (· < ·) := compact_asc (srt_sorted _)
theorem bnds_ref (l : List Tup) : bnds l = refBnd l := asc_unique (bnds_asc l) (refBnd_asc l) fun x => by rw [bnds_mem, refBnd_mem]
set_option maxHeartbeats 4000000 in
set_option maxRecDepth 100000 in
theorem sameInts_q (v u : Value) (l : List Int) (w : World) (hp : Sl intE w free v l) (hp2 : Sl intE w free u l) :
    Calls Tryz.prog 31 #[v, u] w fun e w' => e = .returned (.bool true) ∧ Below w.heap.size w w' := by
  obtain ⟨a, c, rfl⟩ := hp.shape
  obtain ⟨a2, c2, rfl⟩ := hp2.shape
  have h63 := hp.1
  have HP := Lib.hid hp
  have HP2 := Lib.hid hp2
  obtain ⟨n, hn⟩ : ∃ n, n = l.length := ⟨_, rfl⟩
  have HN := Lib.hid hn
  rw [← hn] at h63 HP HP2 ⊢
  clear hp hp2 hn
  go_enter Tryz.func31, Tryz.ntmps31
  go_wp2_with fail
  go_loopw [5] (fun i wr => ∃ k : Nat, k ≤ n ∧ i = .int .i64 k ∧ Below w.heap.size w wr) (fun i _ => n - (intOf i).toNat)
  case atStart => exact ⟨0, Nat.zero_le _, rfl, Below.refl _ _⟩
  case round =>
    obtain ⟨k, hk, rfl, hB⟩ := hrel
    obtain ⟨wo, rfl⟩ : ∃ wo : World, wo = wr := ⟨_, rfl⟩
    by_cases hlt : k < n
    · obtain ⟨x, hx⟩ := lget_some l k (by rw [← HN.out]; exact hlt)
      obtain ⟨b, o, rfl, p0⟩ := ints_at' (HP.out.below hB) hx
      obtain ⟨b2, o2, rfl, q0⟩ := ints_at' (HP2.out.below hB) hx
      have HB := Lib.hid hB
      clear hx hB
      go_wp2_with fail
      go_region
      go_wp2_with fail
      go_roundw
      case rel => exact ⟨k + 1, by omega, by go_num, HB.out.drew⟩
      case measure => simp [intOf]; omega
    · go_wp2_with fail
      go_ret
      exact ⟨rfl, hB⟩
end Go.Proofs.YtnfccpkmaebbiaaGreatDoor

namespace Go.Proofs.YtnfccpkmaebbiaaGreatDoor
open Go.RowKit Go.Lib

theorem bnds_awake (v : List GVal) : bnds [⟨v, 0, 9, [1]⟩, ⟨v, 3, 5, [1]⟩] = [0, 3, 5, 9] := by
  rw [bnds_ref]
  rfl
set_option maxHeartbeats 4000000 in
set_option maxRecDepth 100000 in
theorem awake10_any (w : World) (hT : Pow w) : Calls Tryz.prog 22 #[] w fun e w' => e = .returned (.bool true) ∧ Below w.heap.size w w' := by
  have HV := Lib.hid (vals_any 0 0 (by decide) (by decide) w)
  have HT := Lib.hid hT
  obtain ⟨vs, hvs⟩ : ∃ vs, vs = [gval0 0, gval1 0] := ⟨_, rfl⟩
  have HKY : Hid (∀ lin : List Int, lin.length ≤ 1000 → (∀ i ∈ lin, In64 i) → Keyable ⟨vs, lin⟩) := Lib.hid (by rw [hvs]; exact fun lin h1 h2 => keyable_small 0 0 lin h1 h2)
  have HSZ : Hid (∀ x ∈ vs, x.s.size ≤ maxLen) := Lib.hid (by rw [hvs]; intro x hx; have := (gval_small 0 0 x hx).2.2; unfold maxLen; omega)
  have HVL : Hid (vs.all validG = true) := Lib.hid (by rw [hvs]; decide +kernel)
  have HLN : Hid (vs.length = 2) := Lib.hid (by rw [hvs]; rfl)
  rw [← hvs] at HV
  have e0 : (Value.int .u16 ((0 : Nat) : Int)) = .int .u16 0 := rfl
  rw [e0] at HV
  clear hT hvs e0
  go_enter Tryz.func22, Tryz.ntmps22
  go_wp2_with fail
  refine HV.out.mono ?_
  rintro _ w1 ⟨a1, c1, rfl, hV, hb1⟩
  rw [HLN.out] at hV ⊢
  have HV1 := Lib.hid hV
  have HB1 := Lib.hid hb1
  clear hV hb1 HV
  obtain ⟨w2, hw2⟩ : ∃ w2, w2 = (w1.alloc (.cells #[.int .i64 1] 3)).alloc (.cells #[.int .i64 1] 3) := ⟨_, rfl⟩
  have hz2 : w2.heap.size = w1.heap.size + 1 + 1 := by rw [hw2]; simp
  have hb2 : Below w1.heap.size w1 w2 := by rw [hw2]; exact below_alloc_two _ _ _
  have hg1 : w2.heap[w1.heap.size]? = some (.cells #[.int .i64 1] 3) := by rw [hw2]; exact heap_alloc_old' _ _ _
  have hg2 : w2.heap[w1.heap.size + 1]? = some (.cells #[.int .i64 1] 3) := by rw [hw2]; exact heap_alloc_new' _ _ _
  have hL1 : Sl intE w2 free (.slice (some ⟨w1.heap.size, 0, none⟩) 1 1) [1] := Sl.of_block (n := 1) (m := 1) hg1 (Els.one rfl) id rfl (by simp) (by simp)
  have hL2 : Sl intE w2 free (.slice (some ⟨w1.heap.size + 1, 0, none⟩) 1 1) [1] := Sl.of_block (n := 1) (m := 1) hg2 (Els.one rfl) id rfl (by simp) (by simp)
  have hE1 : tupE.is w2 free ⟨vs, 0, 5, [1]⟩ [.slice a1 2 c1, .int .i64 0, .int .i64 5, .slice (some ⟨w1.heap.size, 0, none⟩) 1 1] := ⟨_, _, rfl, (HV1.out.free).below hb2, hL1⟩
  have hE2 : tupE.is w2 free ⟨vs, 3, 9, [1]⟩ [.slice a1 2 c1, .int .i64 3, .int .i64 9, .slice (some ⟨w1.heap.size + 1, 0, none⟩) 1 1] := ⟨_, _, rfl, (HV1.out.free).below hb2, hL2⟩
  obtain ⟨w3, hw3⟩ : ∃ w3, w3 = w2.alloc (.cells #[.slice a1 2 c1, .int .i64 0, .int .i64 5, .slice (some ⟨w1.heap.size, 0, none⟩) 1 1, .slice a1 2 c1, .int .i64 3, .int .i64 9, .slice (some ⟨w1.heap.size + 1, 0, none⟩) 1 1] 45) := ⟨_, rfl⟩
  have hb3 : Below w2.heap.size w2 w3 := by rw [hw3]; exact below_alloc _ _
  have hT3 : Tups w3 (.slice (some ⟨w2.heap.size, 0, none⟩) 2 2) [⟨vs, 0, 5, [1]⟩, ⟨vs, 3, 9, [1]⟩] := Sl.of_block (n := 2) (m := 2) (by rw [hw3]; exact World.alloc_heap_new _ _) (Els.cons (tupE.below hE1 hb3) (Els.one (tupE.below hE2 hb3))) id rfl (by simp) (by simp)
  have HB3 := Lib.hid (below_keep (below_keep HB1.out hb2) hb3)
  have HN := Lib.hid (normalize_any _ _ w3 hT3 (by simp) (by
    intro x hx
    simp at hx
    rcases hx with rfl | rfl <;> exact HKY.out [1] (by simp) (by intro i hi; simp at hi; subst hi; decide)) (HT.out.below HB3.out))
  rw [hz2] at HN
  have HW3 : Hid (w3 = ((w1.alloc (.cells #[.int .i64 1] 3)).alloc (.cells #[.int .i64 1] 3)).alloc (.cells #[.slice a1 2 c1, .int .i64 0, .int .i64 5, .slice (some ⟨w1.heap.size, 0, none⟩) 1 1, .slice a1 2 c1, .int .i64 3, .int .i64 9, .slice (some ⟨w1.heap.size + 1, 0, none⟩) 1 1] 45)) := Lib.hid (by rw [hw3, hw2])
  clear hw2 hz2 hb2 hg1 hg2 hL1 hL2 hE1 hE2 hw3 hb3 hT3
  go_wp2_with fail
  rw [← HW3.out]
  refine HN.out.mono ?_
  rintro _ w4 ⟨T, hT, _, vT, rfl, hOT, hb4⟩
  obtain rfl : T = [⟨vs, 0, 9, [1]⟩, ⟨vs, 3, 5, [1]⟩] := hT.unique (awake_nf vs)
  obtain ⟨aT, cT, rfl⟩ := hOT.shape
  have hST := hOT.sl
  obtain ⟨b, o, x1, x2, x3, x4, rfl, hv1, hu1, p0, p1, p2, p3⟩ := tups_at hST (k := 0) rfl
  obtain ⟨b', o', y1, y2, y3, y4, eb, hv2, hu2, q0, q1, q2, q3⟩ := tups_at hST (k := 1) rfl
  cases eb
  have HST := Lib.hid hST
  have HB4 := Lib.hid (below_keep HB3.out hb4)
  have HV0 := Lib.hid hv1
  have HU0 := Lib.hid hu1
  have hs4 : ∀ x ∈ ([⟨vs, 0, 9, [1]⟩, ⟨vs, 3, 5, [1]⟩] : List Tup), x.vals.length ≤ 1000 ∧ x.lin.length ≤ 1000 := by
    intro x hx
    simp at hx
    rcases hx with rfl | rfl <;> exact ⟨by dsimp only; rw [HLN.out]; decide, by simp⟩
  have HTS := Lib.hid (timeslice_any _ _ 4 w4 hOT.sl (by simp) hs4)
  have hrl : (sortR (atDay [⟨vs, 0, 9, [1]⟩, ⟨vs, 3, 5, [1]⟩] 4)).length = 2 := by rw [sortR_length]; rfl
  obtain ⟨rows, hrows⟩ : ∃ rows, rows = sortR (atDay [⟨vs, 0, 9, [1]⟩, ⟨vs, 3, 5, [1]⟩] 4) := ⟨_, rfl⟩
  rw [← hrows] at HTS hrl
  have HBN : ∀ W, Below w4.heap.size w4 W → Hid (Calls Tryz.prog 26 #[.slice (some ⟨b, o, none⟩) 2 cT] W (RetOwn intE W [0, 3, 5, 9])) := fun W h => by
    have := bnds_any _ _ W (HST.out.below h) (by simp)
    rw [bnds_awake] at this
    exact Lib.hid this
  have HTV : ∀ W, Below w4.heap.size w4 W → Hid (Calls Tryz.prog 28 #[.agg #[.slice x1 2 x2, .int .i64 0, .int .i64 9, .slice x3 1 x4]] W fun e w' => e = .returned (.bool true) ∧ Below W.heap.size W w') := fun W h => by
    have hh := HV0.out.below h
    have hh2 := HU0.out.below h
    dsimp only at hh hh2
    rw [HLN.out] at hh
    have := tvalid_any (.slice x1 2 x2) (.slice x3 1 x4) vs [1] 0 9 W hh hh2 HSZ.out
    have e : tupValid ⟨vs, 0, 9, [1]⟩ = true := by
      show (true && (true && vs.all validG)) = true
      rw [HVL.out]; rfl
    rw [e] at this
    exact Lib.hid this
  dsimp only at p0 p1 p2 p3 q0 q1 q2 q3
  rw [HLN.out] at p0 q0
  simp only [Nat.zero_mul, Nat.add_zero, Nat.one_mul, List.length_cons, List.length_nil, Nat.zero_add] at p0 p1 p2 p3 q0 q1 q2 q3
  have he1 : (binOp .eql 43 (.agg #[.int .i64 0, .int .i64 9]) (.agg #[.int .i64 0, .int .i64 9])).run Tryz.prog w4 = .ok (.bool true) w4 := per_eql 0 9 0 9 w4
  have he2 : (binOp .eql 43 (.agg #[.int .i64 3, .int .i64 5]) (.agg #[.int .i64 3, .int .i64 5])).run Tryz.prog w4 = .ok (.bool true) w4 := per_eql 3 5 3 5 w4
  have HRL := Lib.hid hrl
  have HBN' := Lib.hid HBN
  have HTV' := Lib.hid HTV
  simp only [List.length_cons, List.length_nil, Nat.zero_add]
  clear hv1 hu1 hv2 hu2 hs4 hrows hrl HBN HTV hST hOT hT hb4 HN HW3
  go_wp2_with fail
  refine HTS.out.mono ?_
  rintro _ w5 ⟨vr, rfl, hOR, hb5⟩
  obtain ⟨ar, cr, rfl⟩ := hOR.shape
  rw [HRL.out]
  have HB5 := Lib.hid (below_keep HB4.out hb5)
  have HB45 := Lib.hid hb5
  have HBN5 := HBN'.out w5 hb5
  clear hOR hb5 HTS
  go_wp2_with fail
  refine HBN5.out.mono ?_
  rintro _ w6 ⟨vb, rfl, hOB, hb6⟩
  obtain ⟨ab, cb, rfl⟩ := hOB.shape
  have hba := below_alloc w6 (.cells #[.int .i64 0, .int .i64 3, .int .i64 5, .int .i64 9] 3)
  have HSI := Lib.hid (sameInts_q _ _ [0, 3, 5, 9] _ (hOB.sl.below hba) (Sl.of_block (E := intE) (n := 4) (m := 4) (World.alloc_heap_new w6 (.cells #[.int .i64 0, .int .i64 3, .int .i64 5, .int .i64 9] 3)) (Els.cons (cs := [.int .i64 0]) rfl (Els.cons (cs := [.int .i64 3]) rfl (Els.cons (cs := [.int .i64 5]) rfl (Els.one (cs := [.int .i64 9]) rfl)))) id rfl (by simp) (by simp)))
  have HB46 := Lib.hid (below_keep (below_keep HB45.out hb6) hba)
  have HB6 := Lib.hid (below_keep (below_keep HB5.out hb6) hba)
  simp only [List.length_cons, List.length_nil, Nat.zero_add] at HSI ⊢
  clear hOB hb6 hba HBN5
  go_wp2_with fail
  refine HSI.out.mono ?_
  rintro _ w7 ⟨rfl, hb7⟩
  have hb47 := below_keep HB46.out hb7
  have HB7 := Lib.hid (below_keep HB6.out hb7)
  have r0 := cell_keep hb47 p0
  have r1 := cell_keep hb47 p1
  have r2 := cell_keep hb47 p2
  have r3 := cell_keep hb47 p3
  have HTV7 := HTV'.out w7 hb47
  clear hb7 hb47 HSI p0 p1 p2 p3 q0 q1 q2 q3 he1 he2
  go_wp2_with fail
  refine HTV7.out.mono ?_
  rintro _ w8 ⟨rfl, hb8⟩
  have HB8 := Lib.hid (below_keep HB7.out hb8)
  clear hb8
  go_wp2_with fail
  go_ret
  exact ⟨rfl, HB8.out⟩
end Go.Proofs.YtnfccpkmaebbiaaGreatDoor

namespace Go.Proofs.YtnfccpkmaebbiaaGreatDoor
open Go.RowKit Go.Lib Go.Shelf

def sameRowsL : List GRow → List GRow → Bool
  | [], [] => true
  | a :: l, b :: m => sameRowL a.vals b.vals a.lin b.lin && sameRowsL l m
  | _, _ => false
theorem sameRowsL_iff : ∀ {l m : List GRow}, sameRowsL l m = true ↔ l = m
  | [], [] => by simp [sameRowsL]
  | [], b :: m => by simp [sameRowsL]
  | a :: l, [] => by simp [sameRowsL]
  | ⟨v, u⟩ :: l, ⟨v', u'⟩ :: m => by
    rw [sameRowsL, Bool.and_eq_true, sameRowL_iff, sameRowsL_iff, List.cons.injEq, GRow.mk.injEq]
theorem sameRowsL_ne {l m : List GRow} (h : l.length ≠ m.length) : sameRowsL l m = false := by
  cases hs : sameRowsL l m
  · rfl
  · exact absurd (congrArg List.length (sameRowsL_iff.1 hs)) h
set_option maxHeartbeats 4000000 in
set_option maxRecDepth 100000 in
theorem sameRows_any (v u : Value) (l m : List GRow) (w : World) (hv : Sl rowE w free v l) (hu : Sl rowE w free u m) :
    Calls Tryz.prog 25 #[v, u] w fun e w' => e = .returned (.bool (sameRowsL l m)) ∧ Below w.heap.size w w' := by
  obtain ⟨a, c, rfl⟩ := hv.shape
  obtain ⟨a2, c2, rfl⟩ := hu.shape
  have h63 := hv.1
  have g63 := hu.1
  have HV := Lib.hid hv
  have HU := Lib.hid hu
  by_cases hlen : l.length = m.length
  · obtain ⟨n, hn⟩ : ∃ n, n = l.length := ⟨_, rfl⟩
    have HN := Lib.hid hn
    have HM : Hid (n = m.length) := Lib.hid (hn.trans hlen)
    rw [← hlen, ← hn] at HU
    rw [← hn] at HV h63
    rw [← hlen, ← hn]
    clear hv hu hn hlen g63
    go_enter Tryz.func25, Tryz.ntmps25
    go_wp2_with fail
    go_loopw [5] (fun i wr => ∃ k : Nat, k ≤ n ∧ i = .int .i64 k ∧ Hid (sameRowsL (l.drop k) (m.drop k) = sameRowsL l m) ∧ Hid (Below w.heap.size w wr)) (fun i _ => n - (RowKit.intOf i).toNat)
    case atStart => exact ⟨0, Nat.zero_le _, rfl, Lib.hid rfl, Lib.hid (.refl _ _)⟩
    case round =>
      obtain ⟨k, hk, rfl, HR, HB⟩ := hrel
      obtain ⟨wo, rfl⟩ : ∃ wo : World, wo = wr := ⟨_, rfl⟩
      by_cases hlt : k < n
      · obtain ⟨x, hx⟩ := lget_some l k (by rw [← HN.out]; exact hlt)
        obtain ⟨y, hy⟩ := lget_some m k (by rw [← HM.out]; exact hlt)
        obtain ⟨b, o, a1, n1, e1, m1, rfl, hv1, hu1, p0, p1⟩ := rows_at (HV.out.below HB.out) hx
        obtain ⟨b2, o2, a3, n3, e3, m3, rfl, hv2, hu2, q0, q1⟩ := rows_at (HU.out.below HB.out) hy
        have HSM := fun W (h : Below wo.heap.size wo W) => Lib.hid (sameRow_any _ _ _ _ x.vals y.vals x.lin y.lin W (hv1.below h).vals (hu1.below h).ints (hv2.below h).vals (hu2.below h).ints)
        have HS : Hid (sameRowsL (l.drop k) (m.drop k) = (sameRowL x.vals y.vals x.lin y.lin && sameRowsL (l.drop (k + 1)) (m.drop (k + 1)))) := by show _ = _; rw [drop_get hx, drop_get hy]; rfl
        obtain ⟨q, hq⟩ : ∃ q, q = sameRowL x.vals y.vals x.lin y.lin := ⟨_, rfl⟩
        rw [← hq] at HSM HS
        have hbo : Below wo.heap.size wo wo := .refl _ _
        clear hx hy hv1 hu1 hv2 hu2 hq
        go_wp2_with fail
        go_region_held3 (fun W => Below wo.heap.size wo W ∧ W.cell? ⟨b, o + k * 2, none⟩ = some (.slice a1 x.vals.length n1) ∧ W.cell? ⟨b, o + k * 2 + 1, none⟩ = some (.slice e1 x.lin.length m1) ∧ W.cell? ⟨b2, o2 + k * 2, none⟩ = some (.slice a3 y.vals.length n3) ∧ W.cell? ⟨b2, o2 + k * 2 + 1, none⟩ = some (.slice e3 y.lin.length m3))
          ((go_split_ands; refine ⟨?_, ?_, ?_, ?_, ?_⟩ <;> (first | with_reducible assumption | with_reducible exact Below.drew (by assumption) | with_reducible exact cell_drew (by assumption) | with_reducible exact cell_keep (by assumption) (by assumption) | with_reducible exact below_keep (by assumption) (by assumption))))
          (first | (go_at_call 38; go_split_ands; refine (HSM _ (by first | assumption | exact Below.drew (by assumption))).out.mono ?_; rintro e' wS ⟨rfl, hbS⟩))
        all_goals (
          go_split_ands
          have HBS : Hid (Below w.heap.size w wS) := Lib.hid (below_keep HB.out (by assumption))
          clear HSM
          cases q
          · have HF : Hid (sameRowsL l m = false) := by show _ = _; rw [← HR.out, HS.out]; rfl
            go_wp2_with fail
            go_ret
            exact ⟨ret_bool HF.out.symm, HBS.out⟩
          · have HF : Hid (sameRowsL (l.drop (k + 1)) (m.drop (k + 1)) = sameRowsL l m) := by show _ = _; rw [← HR.out, HS.out]; rfl
            go_wp2_with fail
            go_roundw
            case rel => exact ⟨k + 1, by omega, by go_num, HF, HBS⟩
            case measure => simp [RowKit.intOf]; omega)
      · have HF : Hid (sameRowsL l m = true) := by
          show _ = _
          rw [← HR.out, List.drop_of_length_le (l := l) (by rw [← HN.out]; omega), List.drop_of_length_le (l := m) (by rw [← HM.out]; omega)]; rfl
        go_wp2_with fail
        go_ret
        exact ⟨ret_bool HF.out.symm, HB.out⟩
  · have HF : Hid (sameRowsL l m = false) := sameRowsL_ne hlen
    obtain ⟨n, hn⟩ : ∃ n, n = l.length := ⟨_, rfl⟩
    obtain ⟨n2, hn2⟩ : ∃ n, n = m.length := ⟨_, rfl⟩
    rw [← hn, ← hn2] at hlen ⊢
    rw [← hn] at h63
    rw [← hn2] at g63
    have hne : ((n : Int) != (n2 : Int)) = true := by rw [bne_iff_ne]; omega
    clear hv hu HV HU hn hn2 hlen
    go_enter Tryz.func25, Tryz.ntmps25
    go_wp2_with fail
    go_ret
    exact ⟨ret_bool HF.out.symm, Below.refl _ _⟩
end Go.Proofs.YtnfccpkmaebbiaaGreatDoor

namespace Go.Proofs.YtnfccpkmaebbiaaGreatDoor
open Go.RowKit Go.Lib Go.Shelf

theorem awake_split : splitAt [⟨[], 0, 9, []⟩] [5, 3, 9, 0] = [⟨[], 0, 3, []⟩, ⟨[], 3, 5, []⟩, ⟨[], 5, 9, []⟩] := by
  have h : srt [5, 3, 9, 0] = [0, 3, 5, 9] := by simp [srt, List.mergeSort]
  rw [splitAt, h]
  simp [splitOne, pvalid, cutAt]
end Go.Proofs.YtnfccpkmaebbiaaGreatDoor

namespace Go.Proofs.YtnfccpkmaebbiaaGreatDoor
open Go.RowKit Go.Lib Go.Shelf

theorem few_of {l : List Tup} {m : Nat} (h : few l m = true) : l.length ≤ m ∧ ∀ t ∈ l, t.vals.length ≤ 1000 ∧ t.lin.length ≤ 1000 := by
  simp [few, small] at h
  exact ⟨h.1, fun t ht => by have := h.2 t ht; omega⟩

end Go.Proofs.YtnfccpkmaebbiaaGreatDoor

namespace Go.Proofs.YtnfccpkmaebbiaaGreatDoor
open Go.ChangeShapes Go.WideShapes Go.ChangeAt Go.RowKit

theorem own : ownKnob Tryz.prog.godebug = none := by kernel_rfl
theorem laidOut : laidOutB Tryz.prog = true := by kernel_rfl

theorem trodAll_below {H : Type} {enc : TypeId × Value → H} {W W' : World} (hb : Below W.heap.size W W') : ∀ (ts : List TypeId) (vs : List Value) (ds : List (DataW H)) (ps : List MemPlace),
    (∀ t ∈ ts, Tryz.prog.readableRec t = true ∧ t < Tryz.prog.types.size) → DataW.TrodAll enc Tryz.prog W 0 (fun _ => true) true ts vs ds ps → (∀ x ∈ ps, x.block < W.heap.size) →
    DataW.TrodAll enc Tryz.prog W' 0 (fun b => decide (b < W.heap.size)) true ts vs ds ps := by
  intro ts
  induction ts with
  | nil =>
    intro vs ds ps _ h _
    cases vs <;> cases ds <;> simp [DataW.TrodAll] at h ⊢
    exact h
  | cons t ts ih =>
    intro vs ds ps hr h hlt
    cases vs with
    | nil => simp [DataW.TrodAll] at h
    | cons v vs =>
      cases ds with
      | nil => simp [DataW.TrodAll] at h
      | cons d ds =>
        obtain ⟨p, q, h1, h2, rfl⟩ := h
        have ht := hr t (List.mem_cons_self ..)
        exact ⟨p, q, Below.trod laidOut ht.1 ht.2 h1 hb (fun x hx => hlt x (List.mem_append_left _ hx)), ih vs ds q (fun t' h' => hr t' (List.mem_cons_of_mem _ h')) h2 (fun x hx => hlt x (List.mem_append_right _ hx)), rfl⟩

/-- The post of a law's row. -/
theorem law_post {H : Type} {enc : TypeId × Value → H} {f : Func} {s : ChangeSpec} {W W' : World} {args : Array Value} {ds gs : List (DataW H)} {before : List MemPlace}
    (hvars : s.vars = []) (hres : f.resultTypes = #[4]) (hr : ∀ t ∈ f.params.toList, Tryz.prog.readableRec t = true ∧ t < Tryz.prog.types.size)
    (hs : s.fn H (ds ++ gs) = { results := [.lit (.bool true)], args := ds })
    (hW : DataW.Whole enc Tryz.prog f.params.toList s.vars false W args.toList ds gs before) (hb : Below W.heap.size W W') :
    s.post enc Tryz.prog f false true false false W args (.bool true) W' := by
  have hlt : ∀ p ∈ before, p.block < W.heap.size := fun p hp => hW.lt p hp
  obtain ⟨p, q, hA, hV, hpq, hz, hn⟩ := id hW
  have hq : q = [] := by
    rw [hvars] at hV
    cases gs with
    | nil => exact hV
    | cons _ _ => simp [DataW.TrodVars] at hV
  subst hq
  rw [List.append_nil] at hpq
  refine ⟨ds, gs, before, [], p, [], hW, ?_, ?_, ?_, World.keptBut_mono (fun x hx => ⟨hx, ?_⟩) (hb.frame (· ∈ before)), fun h => by cases h⟩
  · rw [hs, hres]
    exact trodAll_cons_mk (shut_bool Tryz.underlying4 _) trodAll_mk0
  · rw [hs]
    exact trodAll_below hb _ _ _ _ hr hA (fun x hx => hlt x (by rw [hpq]; exact hx))
  · rw [hs, hvars]; rfl
  · rw [hpq] at hx; exact .inr (.inl hx)

/-- A slice whose elements (each of 'size' cells) read as the elements of a list. -/
def SliceOf {α : Type} (w : World) (size : Nat) (R : World → α → List Value → Prop) (v : Value) (l : List α) : Prop :=
  l.length ≤ 9223372036854775807 ∧ ∃ (a : Option Addr) (c : Nat), v = .slice a l.length c ∧ l.length ≤ c ∧
    (0 < l.length → ∃ b o, a = some ⟨b, o, none⟩ ∧ ∀ i x, l[i]? = some x → ∃ cs, cs.length = size ∧ R w x cs ∧ ∀ j u, cs[j]? = some u → w.cell? ⟨b, o + i * size + j, none⟩ = some u)

theorem open_sliceOf {H : Type} {enc : TypeId × Value → H} {P : Program} {w : World} {spare : Nat → Bool} {t e : TypeId} {v : Value} {d : DataW H} {ps : List MemPlace} {α : Type} {R : World → α → List Value → Prop} {size : Nat} {base : Nat}
    (ht : P.underlying t = some (.slice e)) (hce : P.cellsOf e = size) (hsz : 0 < size) (hv : Value.okWide P w .any base t v)
    (hel : ∀ n cs y, DataW.trod enc P w 0 spare true n e cs = some y → cs.length = size → ∃ x, R w x cs)
    (h : DataW.Trod enc P w 0 spare true t v d ps) : ∃ l : List α, SliceOf w size R v l := by
  obtain ⟨a0, len, cap, rfl⟩ := okWide_slice ht hv
  obtain ⟨fuel, hf⟩ := h
  rcases Go.Deep.open_slice ht hf with ⟨hcs, _⟩ | ⟨a, len', cap', m, n, D, Pl, hcs, _, hl, hm, hmm, _, hx⟩
  · simp [Value.cells] at hcs
    obtain ⟨rfl, rfl, rfl⟩ := hcs
    exact ⟨[], by simp, none, 0, rfl, by simp, by simp⟩
  · simp [Value.cells] at hcs
    obtain ⟨rfl, rfl, rfl⟩ := hcs
    have hlm : len ≤ m := by rw [hmm]; split <;> omega
    have each : ∀ i : Fin len, ∃ x cs, cs.length = size ∧ R w x cs ∧ ∀ j u, cs[j]? = some u → w.cell? ((a.add (i * size)).add j) = some u := by
      intro i
      obtain ⟨cs, h1, h2⟩ := hx i (by omega)
      rw [hce] at h1
      obtain ⟨_, hlen, hcell⟩ := World.cells?_some h1
      obtain ⟨x, hxr⟩ := hel _ _ _ h2 hlen
      refine ⟨x, cs, hlen, hxr, fun j u hu => ?_⟩
      have hj : j < size := by rw [← hlen]; exact (List.getElem?_eq_some_iff.1 hu).1
      rw [hcell j hj]; exact hu
    let f : Fin len → α := fun i => Classical.choose (each i)
    have hf' : ∀ i : Fin len, ∃ cs, cs.length = size ∧ R w (f i) cs ∧ ∀ j u, cs[j]? = some u → w.cell? ((a.add (i * size)).add j) = some u := fun i => Classical.choose_spec (each i)
    have hlen : (List.ofFn f).length = len := List.length_ofFn
    refine ⟨List.ofFn f, by rw [hlen]; unfold maxLen at hm; omega, some a, cap, by rw [hlen], by rw [hlen]; exact hl, fun hpos => ?_⟩
    rw [hlen] at hpos
    obtain ⟨b, o, spot⟩ := a
    have hspot : spot = none := by
      obtain ⟨cs, h1, _⟩ := hx 0 (by omega)
      rw [hce] at h1
      obtain ⟨_, hl0, hcell⟩ := World.cells?_some h1
      have h2 := hcell 0 hsz
      rw [List.getElem?_eq_getElem (by omega)] at h2
      have h3 : w.cell? ⟨b, o, spot⟩ = some (cs[0]'(by omega)) := by simpa [Addr.add] using h2
      cases spot with
      | none => rfl
      | some s => simp [World.cell?] at h3; split at h3 <;> simp at h3
    subst hspot
    refine ⟨b, o, rfl, fun i x hi => ?_⟩
    have hil : i < len := by rw [← hlen]; exact (List.getElem?_eq_some_iff.1 hi).1
    obtain ⟨cs, h1, h2, h3⟩ := hf' ⟨i, hil⟩
    have hxe : x = f ⟨i, hil⟩ := by
      rw [List.getElem?_ofFn] at hi
      simp [hil] at hi
      exact hi.symm
    refine ⟨cs, h1, by rw [hxe]; exact h2, fun j u hu => ?_⟩
    have := h3 j u hu
    rw [Go.Deep.add_add] at this
    rw [Addr.add_lit] at this
    rw [Nat.add_assoc]; exact this

mutual
/-- The cells of a datum of numbers. -/
def litCells : DataW Unit → List Value
  | .lit (.int k n) => [.int k n]
  | .agg parts => litCellsAll parts
  | _ => []
def litCellsAll : List (DataW Unit) → List Value
  | [] => []
  | d :: r => litCells d ++ litCellsAll r
end
end Go.Proofs.YtnfccpkmaebbiaaGreatDoor

namespace Go.Proofs.YtnfccpkmaebbiaaGreatDoor
open Go.ChangeShapes Go.WideShapes Go.ChangeAt Go.RowKit
open Go.ChangeMaps (open_string)

theorem open_sl_trod {H : Type} {enc : TypeId × Value → H} {P : Program} {w : World} {spare : Nat → Bool} {t e : TypeId} {cs0 : List Value} {y0 : DataW H × List MemPlace} {n0 : Nat} {α : Type} (E : El P α) (Pr : α → Prop)
    (ht : P.underlying t = some (.slice e)) (hce : P.cellsOf e = E.size)
    (hel : ∀ n cs y, DataW.trod enc P w 0 spare true n e cs = some y → cs.length = E.size → ∃ x, E.is w free x cs ∧ Pr x)
    (h : DataW.trod enc P w 0 spare true n0 t cs0 = some y0) : ∃ (v : Value) (l : List α), cs0 = [v] ∧ Sl E w free v l ∧ ∀ x ∈ l, Pr x := by
  rcases Go.Deep.open_slice ht h with ⟨hcs, _⟩ | ⟨a, len, cap, m, n, D, Pl, hcs, _, hl, hm, hmm, _, hx⟩
  · exact ⟨_, [], hcs, Sl.nil _ _ _ _ _, by simp⟩
  · have hlm : len ≤ m := by rw [hmm]; split <;> omega
    have hsz := E.pos
    have each : ∀ i : Fin len, ∃ x cs, cs.length = E.size ∧ (E.is w free x cs ∧ Pr x) ∧ ∀ j u, cs[j]? = some u → w.cell? ((a.add (i * E.size)).add j) = some u := by
      intro i
      obtain ⟨cs, h1, h2⟩ := hx i (by omega)
      rw [hce] at h1
      obtain ⟨_, hlen, hcell⟩ := World.cells?_some h1
      obtain ⟨x, hxr⟩ := hel _ _ _ h2 hlen
      refine ⟨x, cs, hlen, hxr, fun j u hu => ?_⟩
      have hj : j < E.size := by rw [← hlen]; exact (List.getElem?_eq_some_iff.1 hu).1
      rw [hcell j hj]; exact hu
    let f : Fin len → α := fun i => Classical.choose (each i)
    have hf' : ∀ i : Fin len, ∃ cs, cs.length = E.size ∧ (E.is w free (f i) cs ∧ Pr (f i)) ∧ ∀ j u, cs[j]? = some u → w.cell? ((a.add (i * E.size)).add j) = some u := fun i => Classical.choose_spec (each i)
    have hlen : (List.ofFn f).length = len := List.length_ofFn
    refine ⟨_, List.ofFn f, hcs, ⟨by rw [hlen]; unfold maxLen at hm; omega, some a, cap, by rw [hlen], by rw [hlen]; exact hl, fun hpos => ?_⟩, fun x hx => ?_⟩
    · rw [hlen] at hpos
      obtain ⟨b, o, spot⟩ := a
      have hspot : spot = none := by
        obtain ⟨cs, h1, _⟩ := hx 0 (by omega)
        rw [hce] at h1
        obtain ⟨_, hl0, hcell⟩ := World.cells?_some h1
        have h2 := hcell 0 hsz
        rw [List.getElem?_eq_getElem (by omega)] at h2
        have h3 : w.cell? ⟨b, o, spot⟩ = some (cs[0]'(by omega)) := by simpa [Addr.add] using h2
        cases spot with
        | none => rfl
        | some s => simp [World.cell?] at h3; split at h3 <;> simp at h3
      subst hspot
      refine ⟨b, o, rfl, id, fun i x hi => ?_⟩
      have hil : i < len := by rw [← hlen]; exact (List.getElem?_eq_some_iff.1 hi).1
      obtain ⟨cs, h1, h2, h3⟩ := hf' ⟨i, hil⟩
      have hxe : x = f ⟨i, hil⟩ := by
        rw [List.getElem?_ofFn] at hi
        simp [hil] at hi
        exact hi.symm
      refine ⟨cs, by rw [hxe]; exact h2.1, fun j u hu => ?_⟩
      have := h3 j u hu
      rw [Go.Deep.add_add] at this
      rw [Addr.add_lit] at this
      rw [Nat.add_assoc]; exact this
    · obtain ⟨i, rfl⟩ := List.mem_ofFn.1 hx
      exact (hf' i).choose_spec.2.1.2
theorem open_sl {H : Type} {enc : TypeId × Value → H} {P : Program} {w : World} {spare : Nat → Bool} {t e : TypeId} {v : Value} {d : DataW H} {ps : List MemPlace} {α : Type} {base : Nat} (E : El P α) (Pr : α → Prop)
    (ht : P.underlying t = some (.slice e)) (hce : P.cellsOf e = E.size) (hv : Value.okWide P w .any base t v)
    (hel : ∀ n cs y, DataW.trod enc P w 0 spare true n e cs = some y → cs.length = E.size → ∃ x, E.is w free x cs ∧ Pr x)
    (h : DataW.Trod enc P w 0 spare true t v d ps) : ∃ l : List α, Sl E w free v l ∧ ∀ x ∈ l, Pr x := by
  obtain ⟨a0, len, cap, rfl⟩ := okWide_slice ht hv
  obtain ⟨fuel, hf⟩ := h
  obtain ⟨v, l, hcs, hl⟩ := open_sl_trod E Pr ht hce hel hf
  simp [Value.cells] at hcs
  subst hcs
  exact ⟨l, hl⟩
theorem cells_int : Tryz.prog.cellsOf 3 = 1 := by kernel_rfl
theorem cells_i64 : Tryz.prog.cellsOf 2 = 1 := by kernel_rfl
theorem cells_string : Tryz.prog.cellsOf 9 = 1 := by kernel_rfl
theorem cells_val : Tryz.prog.cellsOf 74 = 3 := by kernel_rfl
/-- An int. -/
def Is64 (x : Int) : Prop := -9223372036854775808 ≤ x ∧ x ≤ 9223372036854775807
section
variable {H : Type} {enc : TypeId × Value → H} {w : World} {spare : Nat → Bool}
theorem is64_of {n : Int} (h : (Lit.int .i64 n).wf = true) : Is64 n := by
  simp [Lit.wf, IntKind.min, IntKind.max, IntKind.signed, IntKind.bits] at h
  unfold Is64
  omega
theorem open_int_el (n : Nat) (cs : List Value) (y : DataW H × List MemPlace) (h : DataW.trod enc Tryz.prog w 0 spare true n 3 cs = some y) (hl : cs.length = 1) : ∃ x, intE.is w free x cs ∧ Is64 x := by
  match cs, hl with
  | [c0], _ =>
    obtain ⟨k0, e0, _, hw⟩ := DataW.trod_int Tryz.underlying3 h
    simp at e0
    subst e0
    exact ⟨k0, rfl, is64_of hw⟩
/-- A value whose numbers and text are a machine's. -/
def IsVal (x : GVal) : Prop := Is64 x.kind ∧ Is64 x.n ∧ x.s.size ≤ maxLen
set_option maxRecDepth 10000 in
theorem open_val_el (n : Nat) (cs : List Value) (y : DataW H × List MemPlace) (h : DataW.trod enc Tryz.prog w 0 spare true n 74 cs = some y) (hl : cs.length = 3) : ∃ x, valE.is w free x cs ∧ IsVal x := by
  obtain ⟨xs, k, hk, hxy, _, hxl, hf⟩ := DataW.trod_struct Tryz.underlying74 h
  match cs, hl with
  | [c0, c1, c2], _ =>
    match xs, hxl with
    | [y0, y1, y2], _ =>
      have g0 := hf 0 _ rfl
      have g1 := hf 1 _ rfl
      have g2 := hf 2 _ rfl
      simp [cells_int, cells_i64, cells_string] at g0 g1 g2
      obtain ⟨k0, e0, _, w0⟩ := DataW.trod_int Tryz.underlying3 g0
      obtain ⟨k1, e1, _, w1⟩ := DataW.trod_int Tryz.underlying2 g1
      obtain ⟨s, e2, _, hs⟩ := DataW.trod_string Tryz.underlying9 g2
      simp at e0 e1 e2
      subst e0 e1 e2
      exact ⟨⟨k0, k1, s⟩, rfl, is64_of w0, is64_of w1, hs⟩
set_option maxRecDepth 10000 in
/-- An argument that is a value. -/
theorem open_valarg {base : Nat} {v : Value} {d : DataW H} {ps : List MemPlace} (hv : Value.okWide Tryz.prog w .any base 74 v) (h : DataW.Trod enc Tryz.prog w 0 spare true 74 v d ps) : ∃ x : GVal, v = aggG x ∧ IsVal x := by
  obtain ⟨cs, rfl, hs⟩ := okWide_struct Tryz.underlying74 hv
  obtain ⟨fuel, hf⟩ := h
  obtain ⟨x, hx, hp⟩ := open_val_el _ _ _ hf (by rw [cells_val] at hs; simpa [Value.cells] using hs)
  refine ⟨x, ?_, hp⟩
  have e : cs.toList = valOf x := hx
  obtain ⟨l⟩ := cs
  simp at e
  subst e
  rfl
end
end Go.Proofs.YtnfccpkmaebbiaaGreatDoor

namespace Go.Proofs.YtnfccpkmaebbiaaGreatDoor
open Go.ChangeShapes Go.WideShapes Go.ChangeAt Go.RowKit

theorem pow_type : (Tryz.prog.globals[0]?).map (·.type) = some 176 := by kernel_rfl
theorem cells_u64 : Tryz.prog.cellsOf 129 = 1 := by kernel_rfl
theorem cells_pow : Tryz.prog.cellsOf 176 = 20 := by kernel_rfl
/-- What the rows list. -/
abbrev laidList : List (String × DataW Unit) := [("math/bits.deBruijn32tab", Rows.laid_math_bits_deBruijn32tab), ("math/bits.deBruijn64tab", Rows.laid_math_bits_deBruijn64tab), ("internal/strconv.uint64pow10", Rows.laid_internal_strconv_uint64pow10)]
theorem pow_data : (Rows.laid_internal_strconv_uint64pow10 : DataW Unit) = Lib.tabData .u64 Lib.pow10Tab := by kernel_rfl
theorem pow_of_laid {W : World} (h : laidMet Tryz.prog laidList W) : Pow W := by
  have h1 := laidMet.tail (laidMet.tail h)
  rw [pow_data] at h1
  exact Lib.tabIs_of_head pow_named pow_type Tryz.underlying176 Tryz.underlying129 cells_u64 cells_pow h1
/-- Block n's cells replaced. -/
def layAt (w : World) (n : Nat) (cs : Array Value) : World :=
  { w with heap := w.heap.modify n fun
      | .cells _ t frozen => .cells cs t frozen
      | o => o }
noncomputable def laidWorld (os : Os) : World :=
  let w0 := World.holding Tryz.prog os ⟨#[], #[], []⟩
  let w3 := layAt w0 2 (litCells Rows.laid_math_bits_deBruijn32tab).toArray
  let w4 := layAt w3 3 (litCells Rows.laid_math_bits_deBruijn64tab).toArray
  layAt w4 0 (litCells Rows.laid_internal_strconv_uint64pow10).toArray
theorem laid_met (os : Os) (args : Array Value) : laidMet Tryz.prog laidList ((laidWorld os).forCall (fun _ _ => 0) ⟨#[], args, []⟩).memory :=
  laidMet_of_run' 8 (by kernel_rfl) (by kernel_rfl)
end Go.Proofs.YtnfccpkmaebbiaaGreatDoor

namespace Go.Proofs.YtnfccpkmaebbiaaGreatDoor
open Go.ChangeShapes Go.WideShapes Go.ChangeAt Go.RowKit
open Go.ChangeMaps (open_string)

theorem cells_per : Tryz.prog.cellsOf 43 = 2 := by kernel_rfl
theorem cells_tup : Tryz.prog.cellsOf 45 = 4 := by kernel_rfl
theorem cells_ints : Tryz.prog.cellsOf 34 = 1 := by kernel_rfl
theorem cells_vals : Tryz.prog.cellsOf 33 = 1 := by kernel_rfl
section
variable {H : Type} {enc : TypeId × Value → H} {w : World} {spare : Nat → Bool}
/-- A tuple whose numbers are a machine's. -/
def IsTup (x : Tup) : Prop := Is64 x.lo ∧ Is64 x.hi ∧ (∀ v ∈ x.vals, IsVal v) ∧ ∀ i ∈ x.lin, Is64 i
set_option maxRecDepth 10000 in
theorem open_tup_el (n : Nat) (cs : List Value) (y : DataW H × List MemPlace) (h : DataW.trod enc Tryz.prog w 0 spare true n 45 cs = some y) (hl : cs.length = 4) : ∃ x, tupE.is w free x cs ∧ IsTup x := by
  obtain ⟨xs, k, hk, hxy, _, hxl, hf⟩ := DataW.trod_struct Tryz.underlying45 h
  match cs, hl with
  | [c0, c1, c2, c3], _ =>
    match xs, hxl with
    | [y0, y1, y2], _ =>
      have g0 := hf 0 _ rfl
      have g1 := hf 1 _ rfl
      have g2 := hf 2 _ rfl
      simp [cells_ints, cells_vals, cells_per] at g0 g1 g2
      obtain ⟨v, lv, e0, hv, pv⟩ := open_sl_trod valE IsVal Tryz.underlying33 cells_val open_val_el g0
      obtain ⟨u, lu, e2, hu, pu⟩ := open_sl_trod intE Is64 Tryz.underlying34 cells_int open_int_el g2
      obtain ⟨xs1, k1, _, _, _, hxl1, hf1⟩ := DataW.trod_struct Tryz.underlying43 g1
      match xs1, hxl1 with
      | [z0, z1], _ =>
        have f0 := hf1 0 _ rfl
        have f1 := hf1 1 _ rfl
        simp [cells_int] at f0 f1
        obtain ⟨k0, e3, _, w0⟩ := DataW.trod_int Tryz.underlying3 f0
        obtain ⟨k1, e4, _, w1⟩ := DataW.trod_int Tryz.underlying3 f1
        simp at e0 e2 e3 e4
        subst e0 e2 e3 e4
        exact ⟨⟨lv, k0, k1, lu⟩, ⟨_, _, rfl, hv, hu⟩, is64_of w0, is64_of w1, pv, pu⟩
end
end Go.Proofs.YtnfccpkmaebbiaaGreatDoor

namespace Go.Proofs.YtnfccpkmaebbiaaGreatDoor
open Go.ChangeShapes Go.WideShapes Go.ChangeAt Go.RowKit

theorem cells_u16 : Tryz.prog.cellsOf 29 = 1 := by kernel_rfl
theorem cells_u5 : Tryz.prog.cellsOf 57 = 5 := by kernel_rfl
theorem u16_of {n : Int} (h : (Lit.int .u16 n).wf = true) : ∃ k : Nat, n = (k : Int) ∧ k < 65536 := by
  simp [Lit.wf, IntKind.min, IntKind.max, IntKind.signed, IntKind.bits] at h
  obtain ⟨k, rfl⟩ := Int.eq_ofNat_of_zero_le h.1
  exact ⟨k, rfl, by omega⟩
set_option maxRecDepth 10000 in
theorem open_u5_el {H : Type} {enc : TypeId × Value → H} {w : World} {spare : Nat → Bool} (n : Nat) (cs : List Value) (y : DataW H × List MemPlace) (h : DataW.trod enc Tryz.prog w 0 spare true n 57 cs = some y) (hl : cs.length = 5) : ∃ x, u5E.is w free x cs ∧ x.ok := by
  obtain ⟨xs, k, hk, hxy, _, hxl, hf⟩ := DataW.trod_array Tryz.underlying57 h
  match cs, hl with
  | [c0, c1, c2, c3, c4], _ =>
    match xs, hxl with
    | [y0, y1, y2, y3, y4], _ =>
      have g0 := hf 0 (by omega)
      have g1 := hf 1 (by omega)
      have g2 := hf 2 (by omega)
      have g3 := hf 3 (by omega)
      have g4 := hf 4 (by omega)
      simp [cells_u16] at g0 g1 g2 g3 g4
      obtain ⟨k0, e0, _, w0⟩ := DataW.trod_int Tryz.underlying29 g0
      obtain ⟨k1, e1, _, w1⟩ := DataW.trod_int Tryz.underlying29 g1
      obtain ⟨k2, e2, _, w2⟩ := DataW.trod_int Tryz.underlying29 g2
      obtain ⟨k3, e3, _, w3⟩ := DataW.trod_int Tryz.underlying29 g3
      obtain ⟨k4, e4, _, w4⟩ := DataW.trod_int Tryz.underlying29 g4
      simp at e0 e1 e2 e3 e4
      subst e0 e1 e2 e3 e4
      obtain ⟨n0, rfl, b0⟩ := u16_of w0
      obtain ⟨n1, rfl, b1⟩ := u16_of w1
      obtain ⟨n2, rfl, b2⟩ := u16_of w2
      obtain ⟨n3, rfl, b3⟩ := u16_of w3
      obtain ⟨n4, rfl, b4⟩ := u16_of w4
      exact ⟨⟨n0, n1, n2, n3, n4⟩, rfl, b0, b1, b2, b3, b4⟩
end Go.Proofs.YtnfccpkmaebbiaaGreatDoor

namespace Go.Proofs.YtnfccpkmaebbiaaGreatDoor
open Go.ChangeShapes Go.WideShapes Go.ChangeAt Go.RowKit
open Go.ChangeMaps (open_string)

theorem open_sl_b {H : Type} {enc : TypeId × Value → H} {P : Program} {w : World} {spare : Nat → Bool} {t e : TypeId} {v : Value} {d : DataW H} {ps : List MemPlace} {α : Type} {base : Nat} (E : El P α) (Pr : α → DataW H → Prop)
    (ht : P.underlying t = some (.slice e)) (hce : P.cellsOf e = E.size) (hv : Value.okWide P w .any base t v)
    (hel : ∀ n cs y, DataW.trod enc P w 0 spare true n e cs = some y → cs.length = E.size → ∃ x, E.is w free x cs ∧ Pr x y.1)
    (h : DataW.Trod enc P w 0 spare true t v d ps) : ∃ l : List α, Sl E w free v l ∧ ∀ x ∈ l, ∃ elems sp dx, d = .slice elems sp ∧ dx ∈ elems ∧ Pr x dx := by
  obtain ⟨a0, len0, cap0, rfl⟩ := okWide_slice ht hv
  obtain ⟨fuel, hf⟩ := h
  rcases Go.Deep.open_slice ht hf with ⟨hcs, _⟩ | ⟨a, len, cap, m, n, D, Pl, hcs, _, hl, hm, hmm, hxe, hx⟩
  · simp [Value.cells] at hcs
    obtain ⟨rfl, rfl, rfl⟩ := hcs
    exact ⟨[], Sl.nil _ _ _ _ _, by simp⟩
  · simp [Value.cells] at hcs
    obtain ⟨rfl, rfl, rfl⟩ := hcs
    have hd : d = .slice ((List.range len0).map D) ((List.range (m - len0)).map fun j => D (len0 + j)) := congrArg Prod.fst hxe
    have hlm : len0 ≤ m := by rw [hmm]; split <;> omega
    have hsz := E.pos
    have each : ∀ i : Fin len0, ∃ x cs, cs.length = E.size ∧ (E.is w free x cs ∧ Pr x (D i)) ∧ ∀ j u, cs[j]? = some u → w.cell? ((a.add (i * E.size)).add j) = some u := by
      intro i
      obtain ⟨cs, h1, h2⟩ := hx i (by omega)
      rw [hce] at h1
      obtain ⟨_, hlen, hcell⟩ := World.cells?_some h1
      obtain ⟨x, hxr⟩ := hel _ _ _ h2 hlen
      refine ⟨x, cs, hlen, hxr, fun j u hu => ?_⟩
      have hj : j < E.size := by rw [← hlen]; exact (List.getElem?_eq_some_iff.1 hu).1
      rw [hcell j hj]; exact hu
    let f : Fin len0 → α := fun i => Classical.choose (each i)
    have hf' : ∀ i : Fin len0, ∃ cs, cs.length = E.size ∧ (E.is w free (f i) cs ∧ Pr (f i) (D i)) ∧ ∀ j u, cs[j]? = some u → w.cell? ((a.add (i * E.size)).add j) = some u := fun i => Classical.choose_spec (each i)
    have hlen : (List.ofFn f).length = len0 := List.length_ofFn
    refine ⟨List.ofFn f, ⟨by rw [hlen]; unfold maxLen at hm; omega, some a, cap0, by rw [hlen], by rw [hlen]; exact hl, fun hpos => ?_⟩, fun x hx' => ?_⟩
    · rw [hlen] at hpos
      obtain ⟨b, o, spot⟩ := a
      have hspot : spot = none := by
        obtain ⟨cs, h1, _⟩ := hx 0 (by omega)
        rw [hce] at h1
        obtain ⟨_, hl0, hcell⟩ := World.cells?_some h1
        have h2 := hcell 0 hsz
        rw [List.getElem?_eq_getElem (by omega)] at h2
        have h3 : w.cell? ⟨b, o, spot⟩ = some (cs[0]'(by omega)) := by simpa [Addr.add] using h2
        cases spot with
        | none => rfl
        | some s => simp [World.cell?] at h3; split at h3 <;> simp at h3
      subst hspot
      refine ⟨b, o, rfl, id, fun i x hi => ?_⟩
      have hil : i < len0 := by rw [← hlen]; exact (List.getElem?_eq_some_iff.1 hi).1
      obtain ⟨cs, h1, h2, h3⟩ := hf' ⟨i, hil⟩
      have hxe : x = f ⟨i, hil⟩ := by
        rw [List.getElem?_ofFn] at hi
        simp [hil] at hi
        exact hi.symm
      refine ⟨cs, by rw [hxe]; exact h2.1, fun j u hu => ?_⟩
      have := h3 j u hu
      rw [Go.Deep.add_add] at this
      rw [Addr.add_lit] at this
      rw [Nat.add_assoc]; exact this
    · obtain ⟨i, rfl⟩ := List.mem_ofFn.1 hx'
      exact ⟨_, _, D i, hd, List.mem_map.2 ⟨i, List.mem_range.2 i.2, rfl⟩, (hf' i).choose_spec.2.1.2⟩
theorem bulk_mem {H : Type} (l : List (DataW H)) : ∀ d ∈ l, Rows.uptoBulk d ≤ Rows.uptoBulkAll l := by
  induction l with
  | nil => intro d h; simp at h
  | cons e l ih =>
    intro d h
    rw [Rows.uptoBulkAll]
    rcases List.mem_cons.1 h with rfl | h
    · omega
    · have := ih d h; omega
/-- Its numbers are a machine's; its text is no longer than the datum's bulk. -/
def BVal {H : Type} (x : GVal) (d : DataW H) : Prop := IsVal x ∧ x.s.size ≤ Rows.uptoBulk d
section
variable {H : Type} {enc : TypeId × Value → H} {w : World} {spare : Nat → Bool}
set_option maxRecDepth 10000 in
theorem open_val_b (n : Nat) (cs : List Value) (y : DataW H × List MemPlace) (h : DataW.trod enc Tryz.prog w 0 spare true n 74 cs = some y) (hl : cs.length = 3) : ∃ x, valE.is w free x cs ∧ BVal x y.1 := by
  obtain ⟨xs, k, hk, hxy, hy2, hxl, hf⟩ := DataW.trod_struct Tryz.underlying74 h
  match cs, hl with
  | [c0, c1, c2], _ =>
    match xs, hxl with
    | [y0, y1, y2], _ =>
      have g0 := hf 0 _ rfl
      have g1 := hf 1 _ rfl
      have g2 := hf 2 _ rfl
      simp [cells_int, cells_i64, cells_string] at g0 g1 g2
      obtain ⟨k0, e0, _, w0⟩ := DataW.trod_int Tryz.underlying3 g0
      obtain ⟨k1, e1, _, w1⟩ := DataW.trod_int Tryz.underlying2 g1
      obtain ⟨s, e2, e3, hs⟩ := DataW.trod_string Tryz.underlying9 g2
      simp at e0 e1 e2
      subst e0 e1 e2
      refine ⟨⟨k0, k1, s⟩, rfl, ⟨is64_of w0, is64_of w1, hs⟩, ?_⟩
      rw [hxy, e3]
      have hz := Lib.size_eq s
      simp only [List.map_cons, List.map_nil, Rows.uptoBulk, Rows.uptoBulkAll]
      omega
set_option maxRecDepth 10000 in
/-- A slice of values whose reading's bulk is bounded. -/
theorem open_vals_b {v : Value} {d : DataW H} {ps : List MemPlace} {base n : Nat} (hv : Value.okWide Tryz.prog w .any base 33 v) (h : DataW.Trod enc Tryz.prog w 0 spare true 33 v d ps) (hb : Rows.uptoBulk d ≤ n) :
    ∃ l : List GVal, Sl valE w free v l ∧ ∀ x ∈ l, IsVal x ∧ x.s.size ≤ n := by
  obtain ⟨l, h1, h2⟩ := open_sl_b valE BVal Tryz.underlying33 cells_val hv open_val_b h
  refine ⟨l, h1, fun x hx => ?_⟩
  obtain ⟨elems, sp, dx, rfl, hm, hp, hq⟩ := h2 x hx
  refine ⟨hp, ?_⟩
  have := bulk_mem elems dx hm
  rw [Rows.uptoBulk] at hb
  omega
/-- A small argument's bulk. -/
theorem bulk_le {ds : List (DataW H)} (hk : Rows.uptoSmall H ds = true) {d : DataW H} (hd : d ∈ ds) : Rows.uptoBulk d ≤ 1048576 := by
  have h1 := bulk_mem ds d hd
  have h2 : Rows.uptoBulkAll ds ≤ 1048576 := of_decide_eq_true hk
  omega
set_option maxRecDepth 10000 in
theorem open_u8v {base : Nat} {v : Value} {d : DataW H} {ps : List MemPlace}
    (hv : Value.okWide Tryz.prog w .any base 5 v) (h : DataW.Trod enc Tryz.prog w 0 spare true 5 v d ps) : ∃ x : Nat, v = .int .u8 (x : Int) ∧ x < 256 := by
  obtain ⟨n, rfl, _, _, hw⟩ := open_int Tryz.underlying5 hv h
  simp [Lit.wf, IntKind.min, IntKind.max, IntKind.signed, IntKind.bits] at hw
  obtain ⟨k, rfl⟩ := Int.eq_ofNat_of_zero_le hw.1
  exact ⟨k, rfl, by omega⟩
end
end Go.Proofs.YtnfccpkmaebbiaaGreatDoor

namespace Go.Proofs.YtnfccpkmaebbiaaGreatDoor
open Go.ChangeShapes Go.WideShapes Go.ChangeAt Go.RowKit

theorem open_sl_trod_b {H : Type} {enc : TypeId × Value → H} {P : Program} {w : World} {spare : Nat → Bool} {t e : TypeId} {cs0 : List Value} {y0 : DataW H × List MemPlace} {n0 : Nat} {α : Type} (E : El P α) (Pr : α → DataW H → Prop)
    (ht : P.underlying t = some (.slice e)) (hce : P.cellsOf e = E.size)
    (hel : ∀ n cs y, DataW.trod enc P w 0 spare true n e cs = some y → cs.length = E.size → ∃ x, E.is w free x cs ∧ Pr x y.1)
    (h : DataW.trod enc P w 0 spare true n0 t cs0 = some y0) : ∃ (v : Value) (l : List α), cs0 = [v] ∧ Sl E w free v l ∧ ∀ x ∈ l, ∃ elems sp dx, y0.1 = .slice elems sp ∧ dx ∈ elems ∧ Pr x dx := by
  rcases Go.Deep.open_slice ht h with ⟨hcs, _⟩ | ⟨a, len, cap, m, n, D, Pl, hcs, _, hl, hm, hmm, hxe0, hx⟩
  · exact ⟨_, [], hcs, Sl.nil _ _ _ _ _, by simp⟩
  · have hd : y0.1 = .slice ((List.range len).map D) ((List.range (m - len)).map fun j => D (len + j)) := congrArg Prod.fst hxe0
    have hlm : len ≤ m := by rw [hmm]; split <;> omega
    have hsz := E.pos
    have each : ∀ i : Fin len, ∃ x cs, cs.length = E.size ∧ (E.is w free x cs ∧ Pr x (D i)) ∧ ∀ j u, cs[j]? = some u → w.cell? ((a.add (i * E.size)).add j) = some u := by
      intro i
      obtain ⟨cs, h1, h2⟩ := hx i (by omega)
      rw [hce] at h1
      obtain ⟨_, hlen, hcell⟩ := World.cells?_some h1
      obtain ⟨x, hxr⟩ := hel _ _ _ h2 hlen
      refine ⟨x, cs, hlen, hxr, fun j u hu => ?_⟩
      have hj : j < E.size := by rw [← hlen]; exact (List.getElem?_eq_some_iff.1 hu).1
      rw [hcell j hj]; exact hu
    let f : Fin len → α := fun i => Classical.choose (each i)
    have hf' : ∀ i : Fin len, ∃ cs, cs.length = E.size ∧ (E.is w free (f i) cs ∧ Pr (f i) (D i)) ∧ ∀ j u, cs[j]? = some u → w.cell? ((a.add (i * E.size)).add j) = some u := fun i => Classical.choose_spec (each i)
    have hlen : (List.ofFn f).length = len := List.length_ofFn
    refine ⟨_, List.ofFn f, hcs, ⟨by rw [hlen]; unfold maxLen at hm; omega, some a, cap, by rw [hlen], by rw [hlen]; exact hl, fun hpos => ?_⟩, fun x hx => ?_⟩
    · rw [hlen] at hpos
      obtain ⟨b, o, spot⟩ := a
      have hspot : spot = none := by
        obtain ⟨cs, h1, _⟩ := hx 0 (by omega)
        rw [hce] at h1
        obtain ⟨_, hl0, hcell⟩ := World.cells?_some h1
        have h2 := hcell 0 hsz
        rw [List.getElem?_eq_getElem (by omega)] at h2
        have h3 : w.cell? ⟨b, o, spot⟩ = some (cs[0]'(by omega)) := by simpa [Addr.add] using h2
        cases spot with
        | none => rfl
        | some s => simp [World.cell?] at h3; split at h3 <;> simp at h3
      subst hspot
      refine ⟨b, o, rfl, id, fun i x hi => ?_⟩
      have hil : i < len := by rw [← hlen]; exact (List.getElem?_eq_some_iff.1 hi).1
      obtain ⟨cs, h1, h2, h3⟩ := hf' ⟨i, hil⟩
      have hxe : x = f ⟨i, hil⟩ := by
        rw [List.getElem?_ofFn] at hi
        simp [hil] at hi
        exact hi.symm
      refine ⟨cs, by rw [hxe]; exact h2.1, fun j u hu => ?_⟩
      have := h3 j u hu
      rw [Go.Deep.add_add] at this
      rw [Addr.add_lit] at this
      rw [Nat.add_assoc]; exact this
    · obtain ⟨i, rfl⟩ := List.mem_ofFn.1 hx
      exact ⟨_, _, D i, hd, List.mem_map.2 ⟨i, List.mem_range.2 i.2, rfl⟩, (hf' i).choose_spec.2.1.2⟩
/-- A tuple whose numbers are a machine's and whose texts are no longer than the datum's bulk. -/
def BTup {H : Type} (x : Tup) (d : DataW H) : Prop := IsTup x ∧ ∀ g ∈ x.vals, g.s.size ≤ Rows.uptoBulk d
section
variable {H : Type} {enc : TypeId × Value → H} {w : World} {spare : Nat → Bool}
set_option maxRecDepth 10000 in
theorem open_tup_b (n : Nat) (cs : List Value) (y : DataW H × List MemPlace) (h : DataW.trod enc Tryz.prog w 0 spare true n 45 cs = some y) (hl : cs.length = 4) : ∃ x, tupE.is w free x cs ∧ BTup x y.1 := by
  obtain ⟨xs, k, hk, hxy, _, hxl, hf⟩ := DataW.trod_struct Tryz.underlying45 h
  match cs, hl with
  | [c0, c1, c2, c3], _ =>
    match xs, hxl with
    | [y0, y1, y2], _ =>
      have g0 := hf 0 _ rfl
      have g1 := hf 1 _ rfl
      have g2 := hf 2 _ rfl
      simp [cells_ints, cells_vals, cells_per] at g0 g1 g2
      obtain ⟨v, lv, e0, hv, pv⟩ := open_sl_trod_b valE BVal Tryz.underlying33 cells_val open_val_b g0
      obtain ⟨u, lu, e2, hu, pu⟩ := open_sl_trod intE Is64 Tryz.underlying34 cells_int open_int_el g2
      obtain ⟨xs1, k1, _, _, _, hxl1, hf1⟩ := DataW.trod_struct Tryz.underlying43 g1
      match xs1, hxl1 with
      | [z0, z1], _ =>
        have f0 := hf1 0 _ rfl
        have f1 := hf1 1 _ rfl
        simp [cells_int] at f0 f1
        obtain ⟨k0, e3, _, w0⟩ := DataW.trod_int Tryz.underlying3 f0
        obtain ⟨k1, e4, _, w1⟩ := DataW.trod_int Tryz.underlying3 f1
        simp at e0 e2 e3 e4
        subst e0 e2 e3 e4
        refine ⟨⟨lv, k0, k1, lu⟩, ⟨_, _, rfl, hv, hu⟩, ⟨is64_of w0, is64_of w1, fun x hx => ?_, pu⟩, fun x hx => ?_⟩
        · obtain ⟨_, _, dx, _, _, hp⟩ := pv x hx
          exact hp.1
        · obtain ⟨elems, sp, dx, he, hm, hp⟩ := pv x hx
          rw [hxy]
          have h1 := bulk_mem elems dx hm
          have h2 := hp.2
          simp only [List.map_cons, List.map_nil, Rows.uptoBulk, Rows.uptoBulkAll, he]
          omega
set_option maxRecDepth 10000 in
/-- A slice of tuples whose reading's bulk is bounded. -/
theorem open_tups_b {v : Value} {d : DataW H} {ps : List MemPlace} {base n : Nat} (hv : Value.okWide Tryz.prog w .any base 22 v) (h : DataW.Trod enc Tryz.prog w 0 spare true 22 v d ps) (hb : Rows.uptoBulk d ≤ n) :
    ∃ l : List Tup, Tups w v l ∧ ∀ x ∈ l, IsTup x ∧ ∀ g ∈ x.vals, g.s.size ≤ n := by
  obtain ⟨l, h1, h2⟩ := open_sl_b tupE BTup Tryz.underlying22 cells_tup hv open_tup_b h
  refine ⟨l, h1, fun x hx => ?_⟩
  obtain ⟨elems, sp, dx, rfl, hm, hp, hq⟩ := h2 x hx
  refine ⟨hp, fun g hg => ?_⟩
  have h3 := hq g hg
  have h4 := bulk_mem elems dx hm
  rw [Rows.uptoBulk] at hb
  omega
theorem u8_of {n : Int} (h : (Lit.int .u8 n).wf = true) : ∃ k : Nat, n = (k : Int) ∧ k < 256 := by
  simp [Lit.wf, IntKind.min, IntKind.max, IntKind.signed, IntKind.bits] at h
  obtain ⟨k, rfl⟩ := Int.eq_ofNat_of_zero_le h.1
  exact ⟨k, rfl, by omega⟩
end
/-- Small tuples have keys. -/
theorem keyable_few {l : List Tup} {m : Nat} (hp : ∀ x ∈ l, IsTup x ∧ ∀ g ∈ x.vals, g.s.size ≤ 1048576) (hf : few l m = true) : ∀ x ∈ l, Keyable x.row := by
  obtain ⟨_, hs⟩ := few_of hf
  have hs6 : ∀ x ∈ l, x.vals.length ≤ 6 := by
    intro x hx
    simp [few, small] at hf
    exact (hf.2 x hx).1
  intro x hx
  obtain ⟨⟨_, _, h3, h4⟩, h5⟩ := hp x hx
  refine ⟨fun g hg => ⟨(h3 g hg).1, (h3 g hg).2.1, (h3 g hg).2.2⟩, h4, (hs x hx).1, (hs x hx).2, ?_⟩
  have key : ∀ (vs : List GVal), (∀ g ∈ vs, g ∈ x.vals) → (keyL vs).length ≤ 1100000 * vs.length := by
    intro vs
    induction vs with
    | nil => intro _; simp [keyL]
    | cons g vs ih =>
      intro hm
      have h6 := ih fun y hy => hm y (.tail _ hy)
      have h7 := hm g (.head _)
      have h8 := h5 g h7
      have h9 := keyOf_length g (h3 g h7).1 (h3 g h7).2.1 (by omega)
      have e : keyL (g :: vs) = keyOf g ++ keyL vs := by simp [keyL]
      rw [e, List.length_append, List.length_cons]
      omega
  have h6 := key x.vals fun g hg => hg
  have h7 := hs6 x hx
  show (keyL x.vals).length ≤ _
  omega
end Go.Proofs.YtnfccpkmaebbiaaGreatDoor
