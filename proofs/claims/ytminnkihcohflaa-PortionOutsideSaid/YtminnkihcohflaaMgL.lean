/- A part of the proofs of the laws of chapter 19: Del, Ins, Awk, Pap. No condition beside sizes. -/
import Derived.Test.YtminnkihcohflaaMgI
import Derived.Test.YtminnkihcohflaaMgJ
import Derived.Test.YtminnkihcohflaaMgD
import Derived.Test.YtminnkihcohflaaMgK
namespace Go.Proofs.Ytminnkihcohflaa
open Go.RowKit Go.Lib Go.Shelf

/-- What an edit returns. -/
def RetD (w : World) (cl : List Int) (ad : List Tup) : Ending → World → Prop := fun e w' => ∃ vc va, e = .returned (.agg #[vc, va]) ∧ Sl intE w' free vc cl ∧ Tups w' va ad ∧ Below w.heap.size w w'
theorem heap_three (w : World) (a b c : Obj) : (((w.alloc a).alloc b).alloc c).heap[w.heap.size]? = some a ∧ (((w.alloc a).alloc b).alloc c).heap[w.heap.size + 1]? = some b ∧ (((w.alloc a).alloc b).alloc c).heap[w.heap.size + 1 + 1]? = some c := by
  refine ⟨?_, ?_, ?_⟩
  · exact (Below.heap_alloc _ _ _ (by simp; omega)).trans ((Below.heap_alloc _ _ _ (by simp)).trans (World.alloc_heap_new w a))
  · exact (Below.heap_alloc _ _ _ (by simp)).trans (by simpa using World.alloc_heap_new (w.alloc a) b)
  · simpa using World.alloc_heap_new ((w.alloc a).alloc b) c
theorem heap_four (w : World) (a b c d : Obj) : ((((w.alloc a).alloc b).alloc c).alloc d).heap[w.heap.size]? = some a ∧ ((((w.alloc a).alloc b).alloc c).alloc d).heap[w.heap.size + 1]? = some b ∧ ((((w.alloc a).alloc b).alloc c).alloc d).heap[w.heap.size + 1 + 1]? = some c ∧ ((((w.alloc a).alloc b).alloc c).alloc d).heap[w.heap.size + 1 + 1 + 1]? = some d := by
  obtain ⟨h1, h2, h3⟩ := heap_three w a b c
  refine ⟨(Below.heap_alloc _ _ _ (by simp; omega)).trans h1, (Below.heap_alloc _ _ _ (by (simp; try omega))).trans h2, (Below.heap_alloc _ _ _ (by simp)).trans h3, by simpa using World.alloc_heap_new (((w.alloc a).alloc b).alloc c) d⟩
theorem heap_two (w : World) (a b : Obj) : ((w.alloc a).alloc b).heap[w.heap.size]? = some a ∧ ((w.alloc a).alloc b).heap[w.heap.size + 1]? = some b :=
  ⟨(Below.heap_alloc _ _ _ (by simp)).trans (World.alloc_heap_new w a), by simpa using World.alloc_heap_new (w.alloc a) b⟩
set_option maxHeartbeats 2000000 in
set_option maxRecDepth 100000 in
theorem del_m (v ve : Value) (l : List Ver) (plo phi : Int) (e : List GExp) (pred : Int) (m : Nat) (w : World) (hm : m ≤ w.heap.size) (hv : Sl verE w (fun k => m ≤ k) v l) (he : Sl expE w free ve e) (hl : l.length ≤ 20) (hel : e.length ≤ 1000) (hc : ∀ x ∈ e, In64 x.c.n) (hvn : ∀ x ∈ l, ∀ g ∈ x.vals, In64 g.n) (hvl : ∀ x ∈ l, x.vals.length ≤ 1000) :
    Calls Try.prog 21 #[v, .agg #[.int .i64 plo, .int .i64 phi], ve, .int .i64 pred] w (RetDelta m w ((affV plo phi e pred l).map Ver.id) ((affV plo phi e pred l).flatMap (partsV plo phi none))) := by
  have hW : Below w.heap.size w ((w.alloc (.cells #[.int .i64 plo, .int .i64 phi] 31)).alloc (.cells #[.slice none 0 0, .slice none 0 0] 38)) := below_alloc_two w _ _
  have HE : Hid (Calls Try.prog 57 #[v, .agg #[.int .i64 plo, .int .i64 phi], ve, .int .i64 pred, .nilFunc] ((w.alloc (.cells #[.int .i64 plo, .int .i64 phi] 31)).alloc (.cells #[.slice none 0 0, .slice none 0 0] 38)) (RetDelta m ((w.alloc (.cells #[.int .i64 plo, .int .i64 phi] 31)).alloc (.cells #[.slice none 0 0, .slice none 0 0] 38)) ((affV plo phi e pred l).map Ver.id) ((affV plo phi e pred l).flatMap (partsV plo phi none)))) := edit_any v _ _ l plo phi e pred _ m ((w.alloc (.cells #[.int .i64 plo, .int .i64 phi] 31)).alloc (.cells #[.slice none 0 0, .slice none 0 0] 38)) (Nat.le_trans hm hW.size) (hv.below hW) (he.below hW) hl hel hc hvn hvl rfl

  have HR : ((w.alloc (.cells #[.int .i64 plo, .int .i64 phi] 31)).alloc (.cells #[.slice none 0 0, .slice none 0 0] 38)).heap[w.heap.size + 1]? = some (.cells #[.slice none 0 0, .slice none 0 0] 38) ∧ w.heap.size + 1 < ((w.alloc (.cells #[.int .i64 plo, .int .i64 phi] 31)).alloc (.cells #[.slice none 0 0, .slice none 0 0] 38)).heap.size := ⟨(heap_two w _ _).2, by simp⟩
  generalize (affV plo phi e pred l).map Ver.id = cl at HE ⊢
  generalize (affV plo phi e pred l).flatMap (partsV plo phi none) = ad at HE ⊢
  have HW := hW
  clear hv he hc hvn hvl hW
  go_enter Try.func21, Try.ntmps21
  go_wp2_with fail
  refine HE.out.mono ?_
  rintro _ w2 ⟨vc, va, rfl, h1, h2, hb⟩
  obtain ⟨a1, c1, rfl⟩ := h1.shape
  obtain ⟨a2, c2, rfl⟩ := h2.shape
  have hr := (hb.block (w.heap.size + 1) HR.2).trans HR.1
  obtain ⟨r0, r1, f0, f1⟩ := box_two hr
  have H1 := Lib.hid h1
  have H2 := Lib.hid h2
  have HB : Hid (Below w.heap.size w w2) := HW.trans (hb.mono HW.size)
  have hK : Kept (fun k => m ≤ k ∧ k < ((w.alloc (.cells #[.int .i64 plo, .int .i64 phi] 31)).alloc (.cells #[.slice none 0 0, .slice none 0 0] 38)).heap.size) w2 ((w2.setCell ⟨w.heap.size + 1, 0, none⟩ (.slice a1 cl.length c1)).setCell ⟨w.heap.size + 1, 1, none⟩ (.slice a2 ad.length c2)) :=
    (kept_set (G := fun k => m ≤ k ∧ k < ((w.alloc (.cells #[.int .i64 plo, .int .i64 phi] 31)).alloc (.cells #[.slice none 0 0, .slice none 0 0] 38)).heap.size) (q := ⟨w.heap.size + 1, 0, none⟩) ⟨by show m ≤ w.heap.size + 1; omega, HR.2⟩).trans (kept_set (G := fun k => m ≤ k ∧ k < ((w.alloc (.cells #[.int .i64 plo, .int .i64 phi] 31)).alloc (.cells #[.slice none 0 0, .slice none 0 0] 38)).heap.size) (q := ⟨w.heap.size + 1, 1, none⟩) ⟨by show m ≤ w.heap.size + 1; omega, HR.2⟩)
  have HK := Lib.hid hK
  clear h1 h2 hb hr hK
  go_wp2_with fail
  refine bodyPost_ret (v := .agg #[.slice a1 cl.length c1, .slice a2 ad.length c2]) (by simp [results, Try.results21, go_sem, r0, r1]) rfl ⟨_, _, rfl, (H1.out.kept HK.out).mono (fun k _ h => ⟨h.1, Nat.lt_of_lt_of_le h.2 HW.size⟩), (H2.out.kept HK.out).mono (fun k _ h => ⟨h.1, Nat.lt_of_lt_of_le h.2 HW.size⟩), (HB.out.setCell (p := ⟨w.heap.size + 1, 0, none⟩) (by show w.heap.size ≤ w.heap.size + 1; omega) _).setCell (p := ⟨w.heap.size + 1, 1, none⟩) (by show w.heap.size ≤ w.heap.size + 1; omega) _⟩
set_option maxHeartbeats 2000000 in
set_option maxRecDepth 100000 in
theorem upd_m (v ve vs : Value) (l : List Ver) (plo phi : Int) (e : List GExp) (pred : Int) (set : List Asg) (m : Nat) (w : World) (hm : m ≤ w.heap.size) (hv : Sl verE w (fun k => m ≤ k) v l) (he : Sl expE w free ve e) (hl : l.length ≤ 20) (hel : e.length ≤ 1000) (hc : ∀ x ∈ e, In64 x.c.n) (hvn : ∀ x ∈ l, ∀ g ∈ x.vals, In64 g.n) (hvl : ∀ x ∈ l, x.vals.length ≤ 1000) (hs : Sl asgE w free vs set) :
    Calls Try.prog 23 #[v, .agg #[.int .i64 plo, .int .i64 phi], ve, .int .i64 pred, vs] w (RetDelta m w ((affV plo phi e pred l).map Ver.id) ((affV plo phi e pred l).flatMap (partsV plo phi (some (asgV e set))))) := by
  obtain ⟨ae, ce, rfl⟩ := he.shape
  obtain ⟨as1, cs, rfl⟩ := hs.shape
  have hW : Below w.heap.size w ((((w.alloc (.cells #[.int .i64 plo, .int .i64 phi] 31)).alloc (.cells #[.slice ae e.length ce] 32)).alloc (.cells #[.slice as1 set.length cs] 33)).alloc (.cells #[.slice none 0 0, .slice none 0 0] 38)) := below_alloc_keep (below_alloc_keep (below_alloc_two w _ _))
  obtain ⟨h1, h2, h3, h4⟩ := heap_four w (.cells #[.int .i64 plo, .int .i64 phi] 31) (.cells #[.slice ae e.length ce] 32) (.cells #[.slice as1 set.length cs] 33) (.cells #[.slice none 0 0, .slice none 0 0] 38)
  have HCH : ChgOf ((((w.alloc (.cells #[.int .i64 plo, .int .i64 phi] 31)).alloc (.cells #[.slice ae e.length ce] 32)).alloc (.cells #[.slice as1 set.length cs] 33)).alloc (.cells #[.slice none 0 0, .slice none 0 0] 38)) (.func (.func 59) #[] #[.pointer (some ⟨w.heap.size + 1 + 1, 0, none⟩), .pointer (some ⟨w.heap.size + 1, 0, none⟩)]) (some (asgV e set)) := ⟨_, _, rfl, fun W vo old hWW ho hol hvo => upd1_any vo _ _ old set e _ _ W ho ((hs.below hW).below hWW) ((he.below hW).below hWW) (cell_keep hWW (cell_of h3 rfl)) (cell_keep hWW (cell_of h2 rfl)) hel hol hc hvo⟩
  have HE : Hid (Calls Try.prog 57 #[v, .agg #[.int .i64 plo, .int .i64 phi], .slice ae e.length ce, .int .i64 pred, .func (.func 59) #[] #[.pointer (some ⟨w.heap.size + 1 + 1, 0, none⟩), .pointer (some ⟨w.heap.size + 1, 0, none⟩)]] ((((w.alloc (.cells #[.int .i64 plo, .int .i64 phi] 31)).alloc (.cells #[.slice ae e.length ce] 32)).alloc (.cells #[.slice as1 set.length cs] 33)).alloc (.cells #[.slice none 0 0, .slice none 0 0] 38)) (RetDelta m ((((w.alloc (.cells #[.int .i64 plo, .int .i64 phi] 31)).alloc (.cells #[.slice ae e.length ce] 32)).alloc (.cells #[.slice as1 set.length cs] 33)).alloc (.cells #[.slice none 0 0, .slice none 0 0] 38)) ((affV plo phi e pred l).map Ver.id) ((affV plo phi e pred l).flatMap (partsV plo phi (some (asgV e set)))))) := edit_any v _ _ l plo phi e pred _ m ((((w.alloc (.cells #[.int .i64 plo, .int .i64 phi] 31)).alloc (.cells #[.slice ae e.length ce] 32)).alloc (.cells #[.slice as1 set.length cs] 33)).alloc (.cells #[.slice none 0 0, .slice none 0 0] 38)) (Nat.le_trans hm hW.size) (hv.below hW) (he.below hW) hl hel hc hvn hvl HCH

  have HR : ((((w.alloc (.cells #[.int .i64 plo, .int .i64 phi] 31)).alloc (.cells #[.slice ae e.length ce] 32)).alloc (.cells #[.slice as1 set.length cs] 33)).alloc (.cells #[.slice none 0 0, .slice none 0 0] 38)).heap[w.heap.size + 1 + 1 + 1]? = some (.cells #[.slice none 0 0, .slice none 0 0] 38) ∧ w.heap.size + 1 + 1 + 1 < ((((w.alloc (.cells #[.int .i64 plo, .int .i64 phi] 31)).alloc (.cells #[.slice ae e.length ce] 32)).alloc (.cells #[.slice as1 set.length cs] 33)).alloc (.cells #[.slice none 0 0, .slice none 0 0] 38)).heap.size := ⟨(heap_four w _ _ _ _).2.2.2, by simp⟩
  generalize (affV plo phi e pred l).map Ver.id = cl at HE ⊢
  generalize (affV plo phi e pred l).flatMap (partsV plo phi (some (asgV e set))) = ad at HE ⊢
  have HW := hW
  clear hv he hc hvn hvl hW hs
  go_enter Try.func23, Try.ntmps23
  go_wp2_with fail
  refine HE.out.mono ?_
  rintro _ w2 ⟨vc, va, rfl, h1, h2, hb⟩
  obtain ⟨a1, c1, rfl⟩ := h1.shape
  obtain ⟨a2, c2, rfl⟩ := h2.shape
  have hr := (hb.block (w.heap.size + 1 + 1 + 1) HR.2).trans HR.1
  obtain ⟨r0, r1, f0, f1⟩ := box_two hr
  have H1 := Lib.hid h1
  have H2 := Lib.hid h2
  have HB : Hid (Below w.heap.size w w2) := HW.trans (hb.mono HW.size)
  have hK : Kept (fun k => m ≤ k ∧ k < ((((w.alloc (.cells #[.int .i64 plo, .int .i64 phi] 31)).alloc (.cells #[.slice ae e.length ce] 32)).alloc (.cells #[.slice as1 set.length cs] 33)).alloc (.cells #[.slice none 0 0, .slice none 0 0] 38)).heap.size) w2 ((w2.setCell ⟨w.heap.size + 1 + 1 + 1, 0, none⟩ (.slice a1 cl.length c1)).setCell ⟨w.heap.size + 1 + 1 + 1, 1, none⟩ (.slice a2 ad.length c2)) :=
    (kept_set (G := fun k => m ≤ k ∧ k < ((((w.alloc (.cells #[.int .i64 plo, .int .i64 phi] 31)).alloc (.cells #[.slice ae e.length ce] 32)).alloc (.cells #[.slice as1 set.length cs] 33)).alloc (.cells #[.slice none 0 0, .slice none 0 0] 38)).heap.size) (q := ⟨w.heap.size + 1 + 1 + 1, 0, none⟩) ⟨by show m ≤ w.heap.size + 1 + 1 + 1; omega, HR.2⟩).trans (kept_set (G := fun k => m ≤ k ∧ k < ((((w.alloc (.cells #[.int .i64 plo, .int .i64 phi] 31)).alloc (.cells #[.slice ae e.length ce] 32)).alloc (.cells #[.slice as1 set.length cs] 33)).alloc (.cells #[.slice none 0 0, .slice none 0 0] 38)).heap.size) (q := ⟨w.heap.size + 1 + 1 + 1, 1, none⟩) ⟨by show m ≤ w.heap.size + 1 + 1 + 1; omega, HR.2⟩)
  have HK := Lib.hid hK
  clear h1 h2 hb hr hK
  go_wp2_with fail
  refine bodyPost_ret (v := .agg #[.slice a1 cl.length c1, .slice a2 ad.length c2]) (by simp [results, Try.results23, go_sem, r0, r1]) rfl ⟨_, _, rfl, (H1.out.kept HK.out).mono (fun k _ h => ⟨h.1, Nat.lt_of_lt_of_le h.2 HW.size⟩), (H2.out.kept HK.out).mono (fun k _ h => ⟨h.1, Nat.lt_of_lt_of_le h.2 HW.size⟩), (HB.out.setCell (p := ⟨w.heap.size + 1 + 1 + 1, 0, none⟩) (by show w.heap.size ≤ w.heap.size + 1 + 1 + 1; omega) _).setCell (p := ⟨w.heap.size + 1 + 1 + 1, 1, none⟩) (by show w.heap.size ≤ w.heap.size + 1 + 1 + 1; omega) _⟩
theorem del_any (v ve : Value) (l : List Ver) (plo phi : Int) (e : List GExp) (pred : Int) (w : World) (hv : Sl verE w free v l) (he : Sl expE w free ve e) (hl : l.length ≤ 20) (hel : e.length ≤ 1000) (hc : ∀ x ∈ e, In64 x.c.n) (hvn : ∀ x ∈ l, ∀ g ∈ x.vals, In64 g.n) (hvl : ∀ x ∈ l, x.vals.length ≤ 1000) :
    Calls Try.prog 21 #[v, .agg #[.int .i64 plo, .int .i64 phi], ve, .int .i64 pred] w (RetD w ((affV plo phi e pred l).map Ver.id) ((affV plo phi e pred l).flatMap (partsV plo phi none))) := by
  refine (del_m v ve l plo phi e pred w.heap.size w (Nat.le_refl _) (hv.old (Nat.le_refl _)) he hl hel hc hvn hvl).mono ?_
  rintro _ w2 ⟨vc, va, rfl, h1, h2, hb⟩
  exact ⟨vc, va, rfl, h1.free, h2.free, hb⟩
theorem upd_any (v ve vs : Value) (l : List Ver) (plo phi : Int) (e : List GExp) (pred : Int) (set : List Asg) (w : World) (hv : Sl verE w free v l) (he : Sl expE w free ve e) (hl : l.length ≤ 20) (hel : e.length ≤ 1000) (hc : ∀ x ∈ e, In64 x.c.n) (hvn : ∀ x ∈ l, ∀ g ∈ x.vals, In64 g.n) (hvl : ∀ x ∈ l, x.vals.length ≤ 1000) (hs : Sl asgE w free vs set) :
    Calls Try.prog 23 #[v, .agg #[.int .i64 plo, .int .i64 phi], ve, .int .i64 pred, vs] w (RetD w ((affV plo phi e pred l).map Ver.id) ((affV plo phi e pred l).flatMap (partsV plo phi (some (asgV e set))))) := by
  refine (upd_m v ve vs l plo phi e pred set w.heap.size w (Nat.le_refl _) (hv.old (Nat.le_refl _)) he hl hel hc hvn hvl hs).mono ?_
  rintro _ w2 ⟨vc, va, rfl, h1, h2, hb⟩
  exact ⟨vc, va, rfl, h1.free, h2.free, hb⟩
end Go.Proofs.Ytminnkihcohflaa

namespace Go.Proofs.Ytminnkihcohflaa
open Go.RowKit Go.Lib Go.Shelf

/-- What an insertion adds. -/
def insL (vals : List GVal) (lo hi : Int) : List Tup := if pdays lo hi then [⟨vals, lo, hi, []⟩] else []
theorem size_allocI {n : Nat} {W : World} {o : Obj} (h : n ≤ W.heap.size) : n ≤ (W.alloc o).heap.size := by simp; omega
theorem below_setI {w W : World} {u1 u2 : Value} (h : Below w.heap.size w W) : Below w.heap.size w ((W.setCell ⟨w.heap.size + 1, 0, none⟩ u1).setCell ⟨w.heap.size + 1, 1, none⟩ u2) := (h.setCell (p := ⟨w.heap.size + 1, 0, none⟩) (by simp) _).setCell (p := ⟨w.heap.size + 1, 1, none⟩) (by simp) _
theorem size_setI {n : Nat} {W : World} {q1 q2 : Addr} {u1 u2 : Value} (h : n ≤ W.heap.size) : n ≤ ((W.setCell q1 u1).setCell q2 u2).heap.size := by simpa [World.setCell] using h
theorem cell_setI {W : World} {g j : Nat} {u1 u2 v : Value} (h : W.cell? ⟨g, j, none⟩ = some v) : ((W.setCell ⟨g + 1, 0, none⟩ u1).setCell ⟨g + 1, 1, none⟩ u2).cell? ⟨g, j, none⟩ = some v := by
  rw [World.cell?_setCell_far _ _ _ _ (by simp), World.cell?_setCell_far _ _ _ _ (by simp)]; exact h
theorem vAt_setI {W : World} {p q1 q2 : Addr} {u1 u2 v : Value} (h : W.cell? p = some v) : ((W.setCell q1 u1).setCell q2 u2).cell? p = some (vAt ((W.setCell q1 u1).setCell q2 u2) p) := vAt_set (vAt_set h)
theorem frozen_setI {W : World} {p q1 q2 : Addr} {u1 u2 : Value} (h : W.frozen? p = false) : ((W.setCell q1 u1).setCell q2 u2).frozen? p = false := by simp [h]
set_option maxHeartbeats 4000000 in
set_option maxRecDepth 100000 in
theorem ins_any (v : Value) (vals : List GVal) (lo hi : Int) (w : World) (hv : Sl valE w free v vals) (hl : vals.length ≤ 1000) :
    Calls Try.prog 19 #[v, .agg #[.int .i64 lo, .int .i64 hi]] w (RetD w [] (insL vals lo hi)) := by
  obtain ⟨a, c, rfl⟩ := hv.shape
  have HV := Lib.hid hv
  have HPD : ∀ W, Hid (Calls Try.prog 54 #[.agg #[.int .i64 lo, .int .i64 hi]] W fun e w' => e = .returned (.bool (pdays lo hi)) ∧ Below W.heap.size W w') := fun W => prd_days lo hi W
  obtain ⟨ins, hins⟩ : ∃ ins, ins = insL vals lo hi := ⟨_, rfl⟩
  rw [← hins]
  have HIN : Hid (ins = if pdays lo hi then [⟨vals, lo, hi, []⟩] else []) := hins
  generalize pdays lo hi = pd at HPD HIN
  clear hv hins
  go_enter Try.func19, Try.ntmps19
  go_wp2_with fail
  refine (HPD _).out.mono ?_
  rintro _ w2 ⟨rfl, hb⟩
  obtain ⟨g1, g2⟩ := heap_two w (.cells #[.int .i64 lo, .int .i64 hi] 31) (.cells #[.slice none 0 0, .slice none 0 0] 38)
  have hp := (hb.block w.heap.size (by simp; omega)).trans g1
  have hr := (hb.block (w.heap.size + 1) (by simp)).trans g2
  obtain ⟨p0, p1, _, _⟩ := box_two hp
  obtain ⟨r0, r1, f0, f1⟩ := box_two hr
  have HB := Lib.hid (below_two' hb)
  have hz : w.heap.size + 1 + 1 ≤ w2.heap.size := by simpa using hb.size
  clear hb hp hr HPD g1 g2
  cases pd
  · have HI : Hid (ins = []) := HIN.out
    clear HIN
    go_wp2_with fail
    refine bodyPost_ret (v := .agg #[.slice none 0 0, .slice none 0 0]) (by simp [results, Try.results19, go_sem, r0, r1]) rfl ⟨_, _, rfl, Sl.nil _ _ _ _ _, by rw [HI.out]; exact Sl.nil _ _ _ _ _, (HB.out.setCell (p := ⟨w.heap.size + 1, 0, none⟩) (by simp) _).setCell (p := ⟨w.heap.size + 1, 1, none⟩) (by simp) _⟩
  · have HI : Hid (ins = [⟨vals, lo, hi, []⟩]) := HIN.out
    clear HIN
    have hBB := HB.out
    have hrr0 := vAt_of r0
    have hrr1 := vAt_of r1
    have HCL : Hid (Calls Try.prog 55 #[.slice a vals.length c] w2.drew (RetOwn valE w2.drew vals)) := cloneVals_own _ vals _ ((HV.out.below HB.out).below (Below.refl _ _).drew) hl
    have hzz : w.heap.size ≤ w2.heap.size := by omega
    go_wp2_with fail
    go_region_held3 (fun W => Below w.heap.size w W ∧ w.heap.size + 1 + 1 ≤ W.heap.size ∧ W.cell? ⟨w.heap.size, 0, none⟩ = some (.int .i64 lo) ∧ W.cell? ⟨w.heap.size, 1, none⟩ = some (.int .i64 hi) ∧ W.cell? ⟨w.heap.size + 1, 0, none⟩ = some (vAt W ⟨w.heap.size + 1, 0, none⟩) ∧ W.cell? ⟨w.heap.size + 1, 1, none⟩ = some (vAt W ⟨w.heap.size + 1, 1, none⟩) ∧ W.frozen? ⟨w.heap.size + 1, 0, none⟩ = false ∧ W.frozen? ⟨w.heap.size + 1, 1, none⟩ = false)
      ((go_split_ands; refine ⟨?_, ?_, ?_, ?_, ?_, ?_, ?_, ?_⟩ <;> first | (with_reducible assumption) | with_reducible exact Below.drew (by assumption) | with_reducible exact size_drewA (by assumption) | with_reducible exact cell_drew (by assumption) | with_reducible exact vAt_drew (by assumption) | with_reducible exact frozen_drew (by assumption) | with_reducible exact below_keep (by assumption) (by assumption) | with_reducible exact Nat.le_trans (by assumption) (Below.size (by assumption)) | with_reducible exact cell_keep (by assumption) (by assumption) | with_reducible exact vAt_keep (by assumption) (by assumption) | with_reducible exact frozen_keep (by assumption) (by assumption) (by assumption) | with_reducible exact below_alloc_keep (by assumption) | with_reducible exact size_allocI (by assumption) | with_reducible exact cell_alloc (by assumption) | with_reducible exact vAt_alloc (by assumption) | with_reducible exact frozen_alloc (by assumption) (by assumption) | with_reducible exact below_setI (by assumption) | with_reducible exact size_setI (by assumption) | with_reducible exact cell_setI (by assumption) | with_reducible exact vAt_setI (by assumption) | with_reducible exact frozen_setI (by assumption)))
      (first
        | (go_at_call 55; go_split_ands; refine HCL.out.mono ?_; rintro e' wC ⟨vC, rfl, hOC, hbC⟩; obtain ⟨aC, cC, rfl⟩ := hOC.shape))
    have hzC : w.heap.size + 1 + 1 ≤ wC.heap.size := Nat.le_trans hz hbC.size
    have hS : Sl tupE (wC.alloc (.cells #[.slice aC vals.length cC, .int .i64 lo, .int .i64 hi, .slice none 0 0] 67)) (fun k => k = w.heap.size + 1) (.slice (some ⟨wC.heap.size, 0, none⟩) 1 1) [⟨vals, lo, hi, []⟩] :=
      Sl.of_block (World.alloc_heap_new wC _) (Els.one ⟨_, _, rfl, ((own_vals_from hOC).below (below_alloc _ _)).mono (fun k _ hk => by subst hk; show _ < w2.heap.size; omega), Sl.nil _ _ _ _ _⟩) (by omega) rfl (by simp) (by simp)
    have hBf : Below w.heap.size w (wC.alloc (.cells #[.slice aC vals.length cC, .int .i64 lo, .int .i64 hi, .slice none 0 0] 67)) := below_alloc_keep (below_keep HB.out (below_keep ((Below.refl _ _).drew) hbC))
    have HS := Lib.hid hS
    have HBf := Lib.hid hBf
    clear hS hBf
    go_wp2_with fail
    have rC0 : (wC.alloc (.cells #[.slice aC vals.length cC, .int .i64 lo, .int .i64 hi, .slice none 0 0] 67)).cell? ⟨w.heap.size + 1, 0, none⟩ = some (.slice none 0 0) := cell_alloc (cell_keep hbC (cell_drew r0))
    have rC1 : (wC.alloc (.cells #[.slice aC vals.length cC, .int .i64 lo, .int .i64 hi, .slice none 0 0] 67)).cell? ⟨w.heap.size + 1, 1, none⟩ = some (.slice none 0 0) := cell_alloc (cell_keep hbC (cell_drew r1))
    refine bodyPost_ret (v := .agg #[.slice none 0 0, .slice (some ⟨wC.heap.size, 0, none⟩) 1 1]) (by simp [results, Try.results19, go_sem, rC0, rC1]) rfl ⟨_, _, rfl, Sl.nil _ _ _ _ _, ?_, (HBf.out.setCell (p := ⟨w.heap.size + 1, 0, none⟩) (by simp) _).setCell (p := ⟨w.heap.size + 1, 1, none⟩) (by simp) _⟩
    rw [HI.out]
    exact (HS.out.kept ((kept_set (G := fun k => k = w.heap.size + 1) (q := ⟨w.heap.size + 1, 0, none⟩) rfl).trans (kept_set (G := fun k => k = w.heap.size + 1) (q := ⟨w.heap.size + 1, 1, none⟩) rfl))).free
set_option maxHeartbeats 4000000 in
set_option maxRecDepth 100000 in
theorem rins_any (v : Value) (vals : List GVal) (lo hi : Int) (w : World) (hv : Sl valE w free v vals) (_hl : vals.length ≤ 1000) :
    Calls Try.prog 20 #[v, .agg #[.int .i64 lo, .int .i64 hi]] w (RetD w [] (insL vals lo hi)) := by
  obtain ⟨a, c, rfl⟩ := hv.shape
  have HV := Lib.hid (hv.old (Nat.le_refl _))
  have HPD : ∀ W, Hid (Calls Try.prog 56 #[.agg #[.int .i64 lo, .int .i64 hi]] W fun e w' => e = .returned (.bool (pdays lo hi)) ∧ Below W.heap.size W w') := fun W => rprd_days lo hi W
  obtain ⟨ins, hins⟩ : ∃ ins, ins = insL vals lo hi := ⟨_, rfl⟩
  rw [← hins]
  have HIN : Hid (ins = if pdays lo hi then [⟨vals, lo, hi, []⟩] else []) := hins
  generalize pdays lo hi = pd at HPD HIN
  clear hv hins
  go_enter Try.func20, Try.ntmps20
  go_wp2_with fail
  refine (HPD _).out.mono ?_
  rintro _ w2 ⟨rfl, hb⟩
  obtain ⟨g1, g2⟩ := heap_two w (.cells #[.int .i64 lo, .int .i64 hi] 31) (.cells #[.slice none 0 0, .slice none 0 0] 38)
  have hp := (hb.block w.heap.size (by simp; omega)).trans g1
  have hr := (hb.block (w.heap.size + 1) (by simp)).trans g2
  obtain ⟨p0, p1, _, _⟩ := box_two hp
  obtain ⟨r0, r1, f0, f1⟩ := box_two hr
  have HB := Lib.hid (below_two' hb)
  have hz : w.heap.size + 1 + 1 ≤ w2.heap.size := by simpa using hb.size
  clear hb hp hr HPD g1 g2
  cases pd
  · have HI : Hid (ins = []) := HIN.out
    clear HIN
    go_wp2_with fail
    refine bodyPost_ret (v := .agg #[.slice none 0 0, .slice none 0 0]) (by simp [results, Try.results20, go_sem, r0, r1]) rfl ⟨_, _, rfl, Sl.nil _ _ _ _ _, by rw [HI.out]; exact Sl.nil _ _ _ _ _, (HB.out.setCell (p := ⟨w.heap.size + 1, 0, none⟩) (by simp) _).setCell (p := ⟨w.heap.size + 1, 1, none⟩) (by simp) _⟩
  · have HI : Hid (ins = [⟨vals, lo, hi, []⟩]) := HIN.out
    clear HIN
    have hS : Sl tupE (w2.alloc (.cells #[.slice a vals.length c, .int .i64 lo, .int .i64 hi, .slice none 0 0] 67)) (fun k => k = w.heap.size + 1) (.slice (some ⟨w2.heap.size, 0, none⟩) 1 1) [⟨vals, lo, hi, []⟩] :=
      Sl.of_block (World.alloc_heap_new w2 _) (Els.one ⟨_, _, rfl, ((HV.out.below HB.out).below (below_alloc _ _)).mono (fun k _ hk => by subst hk; omega), Sl.nil _ _ _ _ _⟩) (by omega) rfl (by simp) (by simp)
    have HS := Lib.hid hS
    have rC0 : (w2.alloc (.cells #[.slice a vals.length c, .int .i64 lo, .int .i64 hi, .slice none 0 0] 67)).cell? ⟨w.heap.size + 1, 0, none⟩ = some (.slice none 0 0) := cell_alloc r0
    have rC1 : (w2.alloc (.cells #[.slice a vals.length c, .int .i64 lo, .int .i64 hi, .slice none 0 0] 67)).cell? ⟨w.heap.size + 1, 1, none⟩ = some (.slice none 0 0) := cell_alloc r1
    have fC0 := frozen_alloc (o := (.cells #[.slice a vals.length c, .int .i64 lo, .int .i64 hi, .slice none 0 0] 67)) r0 f0
    have fC1 := frozen_alloc (o := (.cells #[.slice a vals.length c, .int .i64 lo, .int .i64 hi, .slice none 0 0] 67)) r1 f1
    clear hS
    go_wp2_with fail
    trace_state
    refine bodyPost_ret (v := .agg #[.slice none 0 0, .slice (some ⟨w2.heap.size, 0, none⟩) 1 1]) (by simp [results, Try.results20, go_sem, rC0, rC1]) rfl ⟨_, _, rfl, Sl.nil _ _ _ _ _, ?_, ((below_alloc_keep HB.out).setCell (p := ⟨w.heap.size + 1, 0, none⟩) (by simp) _).setCell (p := ⟨w.heap.size + 1, 1, none⟩) (by simp) _⟩
    rw [HI.out]
    exact (HS.out.kept ((kept_set (G := fun k => k = w.heap.size + 1) (q := ⟨w.heap.size + 1, 0, none⟩) rfl).trans (kept_set (G := fun k => k = w.heap.size + 1) (q := ⟨w.heap.size + 1, 1, none⟩) rfl))).free
end Go.Proofs.Ytminnkihcohflaa

namespace Go.Proofs.Ytminnkihcohflaa
open Go.RowKit Go.Lib Go.Maps Go.Shelf

def allE : List GExp := [⟨1, 0, 0, 0, ⟨3, 1, ⟨#[]⟩⟩⟩]
theorem evalG_all (row : List GVal) : evalG allE 0 row = ⟨3, 1, ⟨#[]⟩⟩ := by
  simp [evalG, allE, vals, xev, xapp, legalX, arity]
def awkV : List GVal := [gval0 0, gval1 0]
def awkL : List Ver := [⟨4, awkV, 0, 9, 1, 1099511627776⟩]
theorem awk_aff : affV 3 5 allE 0 awkL = awkL := by
  have h : keepV 3 5 allE 0 ⟨4, awkV, 0, 9, 1, 1099511627776⟩ = true := by
    unfold keepV
    rw [evalG_all]
    decide
  unfold affV awkL
  rw [List.filter_cons_of_pos h]
  rfl
theorem awk_del : awkL.flatMap (partsV 3 5 none) = [⟨awkV, 0, 3, [4]⟩, ⟨awkV, 5, 9, [4]⟩] := by
  have h1 : isLo 0 9 3 5 = 3 := by decide
  have h2 : isHi 0 9 3 5 = 5 := by decide
  unfold awkL
  simp [partsV, partL, partM, partR, h1, h2]
theorem awk_upd : awkL.flatMap (partsV 3 5 (some (asgV allE []))) = [⟨awkV, 0, 3, [4]⟩, ⟨awkV, 3, 5, [4]⟩, ⟨awkV, 5, 9, [4]⟩] := by
  have h1 : isLo 0 9 3 5 = 3 := by decide
  have h2 : isHi 0 9 3 5 = 5 := by decide
  unfold awkL
  simp [partsV, partL, partM, partR, h1, h2, asgV]
theorem awk_e1 : applyE awkL [4] [⟨awkV, 0, 3, [4]⟩, ⟨awkV, 5, 9, [4]⟩] 2 5 = 0 := by
  simp [applyE, awkL, argBad, okC, curId, lateC, pdays, pvalid]
theorem awk_e2 : applyE awkL [4] [⟨awkV, 0, 3, [4]⟩, ⟨awkV, 5, 9, [4]⟩] 0 5 = 10 := by
  simp [applyE, awkL, argBad, okC, curId, lateC]
theorem awk_l : applyL awkL [4] [⟨awkV, 0, 3, [4]⟩, ⟨awkV, 5, 9, [4]⟩] 2 5 = [⟨4, awkV, 0, 9, 1, 2⟩, ⟨5, awkV, 0, 3, 2, 1099511627776⟩, ⟨6, awkV, 5, 9, 2, 1099511627776⟩] := by
  simp [applyL, awkL, keepOne, newV]
theorem awk_vals : ∀ g ∈ awkV, In64 g.n := by
  intro g hg
  simp [awkV, gval0, gval1, gint, gtext] at hg
  rcases hg with rfl | rfl <;> constructor <;> decide
theorem delta_added (a a2 : Option Addr) (n c n2 c2 : Nat) (W : World) : (Instr.field 38 (.agg #[.slice a n c, .slice a2 n2 c2]) 1).run Try.prog W = .ok (.slice a2 n2 c2) W := by kernel_rfl
set_option maxHeartbeats 8000000 in
set_option maxRecDepth 100000 in
theorem awake_any (w : World) : Calls Try.prog 17 #[] w fun e w' => e = .returned (.bool true) ∧ Below w.heap.size w w' := by
  go_enter Try.func17, Try.ntmps17
  go_wp2_with fail
  refine (vals_any 0 0 (by decide) (by decide) w).mono ?_
  rintro _ w1 ⟨av, cv, rfl, hsv, hb1⟩
  have hv0 : Sl valE w1 free (.slice av 2 cv) awkV := hsv.free
  clear hsv
  have hl0 : Sl verE (w1.alloc (.cells #[.int .i64 4, .slice av 2 cv, .int .i64 0, .int .i64 9, .int .i64 1, .int .i64 1099511627776] 59)) free (.slice (some ⟨w1.heap.size, 0, none⟩) 1 1) awkL :=
    Sl.of_block (World.alloc_heap_new w1 _) (Els.one ⟨_, rfl, hv0.below (below_alloc _ _)⟩) id rfl (by simp) (by simp)
  obtain ⟨wl, hwl⟩ : ∃ wl, wl = w1.alloc (.cells #[.int .i64 4, .slice av 2 cv, .int .i64 0, .int .i64 9, .int .i64 1, .int .i64 1099511627776] 59) := ⟨_, rfl⟩
  have hel : Sl expE (wl.alloc (.cells #[.int .i64 1, .int .i64 0, .int .i64 0, .int .i64 0, .int .i64 3, .int .i64 1, .string ⟨#[]⟩] 81)) free (.slice (some ⟨wl.heap.size, 0, none⟩) 1 1) allE :=
    Sl.of_block (World.alloc_heap_new wl _) (Els.one rfl) id rfl (by simp) (by simp)
  have hzl : wl.heap.size = w1.heap.size + 1 := by rw [hwl]; simp
  rw [← hwl] at hl0
  have hl1 := hl0.below (below_alloc wl (.cells #[.int .i64 1, .int .i64 0, .int .i64 0, .int .i64 0, .int .i64 3, .int .i64 1, .string ⟨#[]⟩] 81))
  have hbl : Below w.heap.size w (wl.alloc (.cells #[.int .i64 1, .int .i64 0, .int .i64 0, .int .i64 0, .int .i64 3, .int .i64 1, .string ⟨#[]⟩] 81)) := by rw [hwl]; exact below_alloc_keep (below_alloc_keep hb1)
  obtain ⟨we, hwe⟩ : ∃ we, we = wl.alloc (.cells #[.int .i64 1, .int .i64 0, .int .i64 0, .int .i64 0, .int .i64 3, .int .i64 1, .string ⟨#[]⟩] 81) := ⟨_, rfl⟩
  rw [← hwe] at hl1 hel hbl
  rw [hzl] at hel
  have HL := Lib.hid hl1
  have HE := Lib.hid hel
  have HB := Lib.hid hbl
  have HW : Hid (we = (w1.alloc (.cells #[.int .i64 4, .slice av 2 cv, .int .i64 0, .int .i64 9, .int .i64 1, .int .i64 1099511627776] 59)).alloc (.cells #[.int .i64 1, .int .i64 0, .int .i64 0, .int .i64 0, .int .i64 3, .int .i64 1, .string ⟨#[]⟩] 81)) := by show _ = _; rw [hwe, hwl]
  clear hl0 hl1 hel hbl hwl hwe hzl hv0 hb1
  go_wp2_with fail
  rw [← HW.out]
  clear HW
  have hvn : ∀ x ∈ awkL, ∀ g ∈ x.vals, In64 g.n := by intro x hx; simp [awkL] at hx; subst hx; exact awk_vals
  have hvl : ∀ x ∈ awkL, x.vals.length ≤ 1000 := by intro x hx; simp [awkL] at hx; subst hx; decide
  have hc : ∀ x ∈ allE, In64 x.c.n := by intro x hx; simp [allE] at hx; subst hx; constructor <;> decide
  have hidl : ∀ x ∈ awkL, In64 x.id := by intro x hx; simp [awkL] at hx; subst hx; constructor <;> decide
  have HVN := Lib.hid hvn
  have HVL := Lib.hid hvl
  have HC := Lib.hid hc
  have HID := Lib.hid hidl
  clear hvn hvl hc hidl
  refine (del_any _ _ awkL 3 5 allE 0 we HL.out HE.out (by decide) (by decide) HC.out HVN.out HVL.out).mono ?_
  rw [awk_aff, awk_del, show awkL.map Ver.id = [4] from rfl]
  rintro _ w2 ⟨vc, va, rfl, h1, h2, hb2⟩
  obtain ⟨a1, c1, e1⟩ := h1.shape
  replace e1 : vc = .slice a1 1 c1 := e1
  subst e1
  obtain ⟨a2, c2, e2⟩ := h2.shape
  replace e2 : va = .slice a2 2 c2 := e2
  subst e2
  have hd := World.alloc_heap_new w2 (.cells #[.slice a1 1 c1, .slice a2 2 c2] 38)
  have hbd := below_alloc w2 (.cells #[.slice a1 1 c1, .slice a2 2 c2] 38)
  obtain ⟨wd, hwd⟩ : ∃ wd, wd = w2.alloc (.cells #[.slice a1 1 c1, .slice a2 2 c2] 38) := ⟨_, rfl⟩
  rw [← hwd] at hd hbd
  have HWD := Lib.hid hwd
  have HD := Lib.hid hd
  have HB2 := Lib.hid hb2
  have HBD := Lib.hid (below_keep hb2 hbd)
  have H1 := Lib.hid (h1.below hbd)
  have H2 := Lib.hid (h2.below hbd)
  clear h1 h2 hb2 hd hbd hwd
  go_wp2_with fail
  rw [← HWD.out]
  clear HWD
  refine (upd_any _ _ (.slice none 0 0) awkL 3 5 allE 0 [] wd (HL.out.below HBD.out) (HE.out.below HBD.out) (by decide) (by decide) HC.out HVN.out HVL.out (Sl.nil _ _ _ _ _)).mono ?_
  rw [awk_aff, awk_upd, show awkL.map Ver.id = [4] from rfl]
  rintro _ w3 ⟨vc, va, rfl, h3, h4, hb3⟩
  obtain ⟨a3, c3, e3⟩ := h3.shape
  replace e3 : vc = .slice a3 1 c3 := e3
  subst e3
  obtain ⟨a4, c4, e4⟩ := h4.shape
  replace e4 : va = .slice a4 3 c4 := e4
  subst e4
  have hu := World.alloc_heap_new w3 (.cells #[.slice a3 1 c3, .slice a4 3 c4] 38)
  have hbu := below_alloc w3 (.cells #[.slice a3 1 c3, .slice a4 3 c4] 38)
  obtain ⟨wu, hwu⟩ : ∃ wu, wu = w3.alloc (.cells #[.slice a3 1 c3, .slice a4 3 c4] 38) := ⟨_, rfl⟩
  rw [← hwu] at hu hbu
  have HWU := Lib.hid hwu
  have HU := Lib.hid hu
  have HBU := Lib.hid (below_keep hb3 hbu)
  have HDU := Lib.hid (box_kept HD.out (below_keep hb3 hbu))
  have d0 : wu.cell? ⟨w2.heap.size, 0, none⟩ = some (.slice a1 1 c1) := cell_of HDU.out rfl
  have d1 : wu.cell? ⟨w2.heap.size, 1, none⟩ = some (.slice a2 2 c2) := cell_of HDU.out rfl
  rw [hwu] at d0 d1
  clear h3 h4 hb3 hu hbu hwu
  go_wp2_with fail
  rw [← HWU.out] at d0 d1 ⊢
  clear HWU
  refine (apply_ver _ _ _ awkL [4] [⟨awkV, 0, 3, [4]⟩, ⟨awkV, 5, 9, [4]⟩] 2 5 wu ((HL.out.below HBD.out).below HBU.out) (H1.out.below HBU.out) (H2.out.below HBU.out) (by decide) (by decide) (by decide) HID.out (by intro x hx; simp at hx; subst hx; constructor <;> decide) HVL.out (by intro x hx; simp at hx; rcases hx with rfl | rfl <;> decide)).mono ?_
  rintro _ w4 ⟨r, hr, hr0, _, hb4⟩
  have hr1 : r = 0 := hr.out.trans awk_e1
  subst hr1
  obtain ⟨vo, rfl, hvo⟩ := hr0 rfl
  rw [awk_l] at hvo
  obtain ⟨a5, c5, e5⟩ := hvo.shape
  replace e5 : vo = .slice a5 3 c5 := e5
  subst e5
  have HVO := Lib.hid hvo
  have HB4 := Lib.hid hb4
  replace d0 := cell_keep hb4 d0
  replace d1 := cell_keep hb4 d1
  clear hr hr0 hvo hb4
  go_wp2_with fail
  refine (apply_ver _ _ _ awkL [4] [⟨awkV, 0, 3, [4]⟩, ⟨awkV, 5, 9, [4]⟩] 0 5 w4 (((HL.out.below HBD.out).below HBU.out).below HB4.out) ((H1.out.below HBU.out).below HB4.out) ((H2.out.below HBU.out).below HB4.out) (by decide) (by decide) (by decide) HID.out (by intro x hx; simp at hx; subst hx; constructor <;> decide) HVL.out (by intro x hx; simp at hx; rcases hx with rfl | rfl <;> decide)).mono ?_
  rintro _ w5 ⟨r, hr, _, hr1, hb5⟩
  have hr2 : r = 10 := hr.out.trans awk_e2
  subst hr2
  have hr3 := hr1 (by decide)
  subst hr3
  replace d0 := cell_keep hb5 d0
  replace d1 := cell_keep hb5 d1
  have hbu5 := below_keep HB4.out hb5
  have u0 : w5.cell? ⟨w3.heap.size, 0, none⟩ = some (.slice a3 1 c3) := cell_of (box_kept HU.out hbu5) rfl
  have u1 : w5.cell? ⟨w3.heap.size, 1, none⟩ = some (.slice a4 3 c4) := cell_of (box_kept HU.out hbu5) rfl
  obtain ⟨bo, oo, _, _, eo, _, _, _, _, _, _, p5⟩ := ver_at (HVO.out.below hb5) (k := 0) rfl
  obtain ⟨bo', oo', _, _, eo', _, q0, _⟩ := ver_at (HVO.out.below hb5) (k := 2) rfl
  subst eo
  cases eo'
  replace p5 : w5.cell? ⟨bo, oo + 5, none⟩ = some (.int .i64 2) := by simpa using p5
  replace q0 : w5.cell? ⟨bo, oo + 12, none⟩ = some (.int .i64 6) := by simpa using q0
  have HB5 : Hid (Below w.heap.size w w5) := below_keep HB.out (below_keep (below_keep HBD.out HBU.out) hbu5)
  clear hr hr1 hb5 hbu5
  go_wp2_with fail
  refine (ins_any (.slice none 0 0) [] 0 0 w5 (Sl.nil _ _ _ _ _) (by decide)).mono ?_
  rw [show insL [] 0 0 = [] from by decide]
  rintro _ w6 ⟨vc, va, rfl, h5, h6, hb6⟩
  obtain ⟨a7, c7, e7⟩ := h5.shape
  replace e7 : vc = .slice a7 0 c7 := e7
  subst e7
  obtain ⟨a6, c6, e6⟩ := h6.shape
  replace e6 : va = .slice a6 0 c6 := e6
  subst e6
  have hfd := delta_added a7 a6 0 c7 0 c6 w6
  have HB6 := Lib.hid (below_keep HB5.out hb6)
  clear h5 h6 hb6
  go_wp2_with fail
  go_ret
  exact ⟨rfl, HB6.out⟩
end Go.Proofs.Ytminnkihcohflaa

namespace Go.Proofs.Ytminnkihcohflaa
open Go.RowKit Go.Lib Go.Maps Go.Shelf

def fewA (l : List Ver) (e : List GExp) (set : List Asg) : Bool := fewV l 20 && (decide (e.length ≤ 40) && decide (set.length ≤ 10))
set_option maxHeartbeats 2000000 in
theorem fewA_any (v ve vs : Value) (l : List Ver) (e : List GExp) (set : List Asg) (w : World) (hv : Sl verE w free v l) (he : Sl expE w free ve e) (hs : Sl asgE w free vs set) :
    Calls Try.prog 16 #[v, ve, vs] w fun e' w' => e' = .returned (.bool (fewA l e set)) ∧ Below w.heap.size w w' := by
  obtain ⟨a1, c1, rfl⟩ := he.shape
  obtain ⟨a2, c2, rfl⟩ := hs.shape
  have HF : Hid (Calls Try.prog 51 #[v, .int .i64 20] w fun e' w' => e' = .returned (.bool (fewV l 20)) ∧ Below w.heap.size w w') := fewV_any v l 20 (by decide) w hv
  have HR : Hid (fewA l e set = (fewV l 20 && (decide (e.length ≤ 40) && decide (set.length ≤ 10)))) := Lib.hid rfl
  generalize fewV l 20 = q at HF HR
  generalize fewA l e set = r at HR ⊢
  obtain ⟨n, hn⟩ : ∃ n, n = e.length := ⟨_, rfl⟩
  obtain ⟨m, hm⟩ : ∃ m, m = set.length := ⟨_, rfl⟩
  rw [← hn, ← hm] at HR ⊢
  clear hv he hs hn hm
  go_enter Try.func16, Try.ntmps16
  go_wp2_with fail
  refine HF.out.mono ?_
  rintro _ w2 ⟨rfl, hb⟩
  have HB := Lib.hid hb
  clear hb HF
  cases q
  · go_wp2_with fail
    go_ret
    exact ⟨ret_bool (by rw [HR.out]; rfl), HB.out⟩
  · by_cases h1 : n ≤ 40
    · by_cases h2 : m ≤ 10
      · have g1 : (n : Int) ≤ 40 := by omega
        have g2 : (m : Int) ≤ 10 := by omega
        go_wp2_with fail
        go_ret
        exact ⟨ret_bool (by rw [HR.out]; first | (simp [h1, h2]; done) | (simp [h1, h2]; omega)), HB.out⟩
      · have g1 : (n : Int) ≤ 40 := by omega
        have g2 : ¬ (m : Int) ≤ 10 := by omega
        go_wp2_with fail
        go_ret
        exact ⟨ret_bool (by rw [HR.out]; first | (simp [h1, h2]; done) | (simp [h1, h2]; omega)), HB.out⟩
    · have g1 : ¬ (n : Int) ≤ 40 := by omega
      go_wp2_with fail
      go_ret
      exact ⟨ret_bool (by rw [HR.out]; first | (simp [h1]; done) | (simp [h1]; omega)), HB.out⟩
theorem fewV_len {l : List Ver} {m : Nat} (h : fewV l m = true) : l.length ≤ m ∧ ∀ x ∈ l, x.vals.length ≤ 6 := by
  unfold fewV at h
  rw [Bool.and_eq_true, List.all_eq_true] at h
  exact ⟨by simpa using h.1, fun x hx => by simpa using h.2 x hx⟩
theorem few_len {l : List Tup} {m : Nat} (h : few l m = true) : l.length ≤ m ∧ ∀ x ∈ l, x.vals.length ≤ 6 := by
  unfold few at h
  rw [Bool.and_eq_true, List.all_eq_true] at h
  refine ⟨by simpa using h.1, fun x hx => ?_⟩
  have := h.2 x hx
  unfold small at this
  simp at this
  exact this.1
set_option maxHeartbeats 4000000 in
set_option maxRecDepth 100000 in
theorem papply_walk (v vc va : Value) (l : List Ver) (cl : List Int) (ad : List Tup) (at' first : Int) (w : World) (hv : Sl verE w free v l) (hcl : Sl intE w free vc cl) (had : Tups w va ad) (hid : ∀ x ∈ l, In64 x.id) (hci : ∀ x ∈ cl, In64 x) :
    Calls Try.prog 5 #[v, .agg #[vc, va], .int .i64 at', .int .i64 first] w fun e w' => e = .returned (.bool true) ∧ Below w.heap.size w w' := by
  obtain ⟨a, c, rfl⟩ := hv.shape
  obtain ⟨a2, c2, rfl⟩ := hcl.shape
  obtain ⟨a3, c3, rfl⟩ := had.shape
  have hc63 := hcl.1
  have HV := Lib.hid hv
  have HCL := Lib.hid hcl
  have HAD := Lib.hid had
  have HID := Lib.hid hid
  have HCI := Lib.hid hci
  have hb0 := below_alloc w (.cells #[.slice a2 cl.length c2, .slice a3 ad.length c3] 38)
  have HF : Hid (Calls Try.prog 16 #[.slice a l.length c, .slice none 0 0, .slice none 0 0] (w.alloc (.cells #[.slice a2 cl.length c2, .slice a3 ad.length c3] 38)) fun e' w' => e' = .returned (.bool (fewA l [] [])) ∧ Below (w.alloc (.cells #[.slice a2 cl.length c2, .slice a3 ad.length c3] 38)).heap.size (w.alloc (.cells #[.slice a2 cl.length c2, .slice a3 ad.length c3] 38)) w') := fewA_any _ _ _ l [] [] _ (hv.below hb0) (Sl.nil _ _ _ _ _) (Sl.nil _ _ _ _ _)
  obtain ⟨n, hn⟩ : ∃ n, n = l.length := ⟨_, rfl⟩
  obtain ⟨m, hm⟩ : ∃ m, m = cl.length := ⟨_, rfl⟩
  obtain ⟨q, hq⟩ : ∃ q, q = ad.length := ⟨_, rfl⟩
  rw [← hn] at HV HF ⊢
  rw [← hm] at HCL HF hc63 ⊢
  rw [← hq] at HAD HF ⊢
  have HN := Lib.hid hn
  have HM := Lib.hid hm
  have HQ := Lib.hid hq
  obtain ⟨fw, hfw⟩ : ∃ fw, fw = fewA l [] [] := ⟨_, rfl⟩
  rw [← hfw] at HF
  have HFW := Lib.hid hfw
  clear hv hcl had hid hci hn hm hq hfw hb0
  go_enter Try.func5, Try.ntmps5
  go_wp2_with fail
  refine HF.out.mono ?_
  rintro _ w1 ⟨rfl, hb1⟩
  have hd := block_new w _ _ hb1
  have d0 : w1.cell? ⟨w.heap.size, 0, none⟩ = some (.slice a2 m c2) := cell_of hd rfl
  have d1 : w1.cell? ⟨w.heap.size, 1, none⟩ = some (.slice a3 q c3) := cell_of hd rfl
  have HB1 := Lib.hid (below_alloc2' hb1)
  have HD := Lib.hid hd
  have HFT : Hid (Calls Try.prog 12 #[.slice a3 q c3, .int .i64 20] w1 fun e w' => e = .returned (.bool (few ad 20)) ∧ w' = w1) := few_any _ ad 20 (by decide) w1 (HAD.out.below HB1.out)
  obtain ⟨ft, hft⟩ : ∃ ft, ft = few ad 20 := ⟨_, rfl⟩
  rw [← hft] at HFT
  have HFTE := Lib.hid hft
  clear HF hb1 hd hft
  cases fw
  · go_wp2_with fail
    refine (awake_any _).mono ?_
    rintro _ w2 ⟨rfl, hb2⟩
    have HB2 := Lib.hid (below_keep HB1.out hb2)
    clear hb2
    go_wp2_with fail
    go_ret
    exact ⟨rfl, HB2.out⟩
  · by_cases hm20 : m ≤ 20
    · have g1 : ¬ (20 : Int) < (m : Int) := by omega
      go_wp2_with fail
      refine HFT.out.mono ?_
      rintro _ w2 ⟨rfl, rfl⟩
      cases ft
      · go_wp2_with fail
        refine (awake_any _).mono ?_
        rintro _ w3 ⟨rfl, hb3⟩
        have HB3 := Lib.hid (below_keep HB1.out hb3)
        clear hb3
        go_wp2_with fail
        go_ret
        exact ⟨rfl, HB3.out⟩
      · have hfv : fewV l 20 = true := by have h := HFW.out.symm; unfold fewA at h; rw [Bool.and_eq_true] at h; exact h.1
        obtain ⟨hl20, hlv⟩ := fewV_len hfv
        obtain ⟨ha20, hav⟩ := few_len HFTE.out.symm
        have hmm : cl.length ≤ 1000 := by rw [← HM.out]; omega
        have AP : ∀ W, Below w.heap.size w W → Hid (Calls Try.prog 25 #[.slice a n c, .agg #[.slice a2 m c2, .slice a3 q c3], .int .i64 at', .int .i64 first] W fun e w' => ∃ r : Int, Hid (r = applyE l cl ad at' first) ∧ (r = 0 → ∃ vo, e = .returned (.tuple #[vo, .int .i64 0]) ∧ Sl verE w' free vo (applyL l cl ad at' first)) ∧ (r ≠ 0 → e = .returned (.tuple #[.slice none 0 0, .int .i64 r])) ∧ Below W.heap.size W w') := fun W hW => apply_ver _ _ _ l cl ad at' first W (HV.out.below hW) (HCL.out.below hW) (HAD.out.below hW) (by omega) hmm (by omega) HID.out HCI.out (fun x hx => by have := hlv x hx; omega) (fun x hx => by have := hav x hx; omega)
        have AR : ∀ W, Below w.heap.size w W → Hid (Calls Try.prog 26 #[.slice a n c, .agg #[.slice a2 m c2, .slice a3 q c3], .int .i64 at', .int .i64 first] W fun e w' => ∃ r : Int, Hid (r = applyE l cl ad at' first) ∧ (r = 0 → ∃ vo, e = .returned (.tuple #[vo, .int .i64 0]) ∧ Sl verE w' free vo (applyL l cl ad at' first)) ∧ (r ≠ 0 → e = .returned (.tuple #[.slice none 0 0, .int .i64 r])) ∧ Below W.heap.size W w') := fun W hW => rapply_ver _ _ _ l cl ad at' first W (HV.out.below hW) (HCL.out.below hW) (HAD.out.below hW) (by omega) hmm (by omega)
        clear hfv hl20 hlv ha20 hav hmm
        go_wp2_with fail
        refine (AP _ HB1.out).out.mono ?_
        rintro e3 w3 ⟨r, HR, h1, h2, hb3⟩
        have HB3 := Lib.hid (below_keep HB1.out hb3)
        have d0' := cell_keep hb3 d0
        have d1' := cell_keep hb3 d1
        by_cases hr : r = 0
        · subst hr
          obtain ⟨vo, rfl, hvo⟩ := h1 rfl
          obtain ⟨lo, hlo⟩ : ∃ lo, lo = applyL l cl ad at' first := ⟨_, rfl⟩
          rw [← hlo] at hvo AR
          obtain ⟨ao, co, rfl⟩ := hvo.shape
          have HVO := Lib.hid hvo
          clear h1 h2 hb3 hvo hlo AP
          go_wp2_with fail
          refine (AR _ HB3.out).out.mono ?_
          rintro e4 w4 ⟨r, HR2, h1, _, hb4⟩
          have hr0 : r = 0 := HR2.out.trans HR.out.symm
          subst hr0
          obtain ⟨vu, rfl, hvu⟩ := h1 rfl
          obtain ⟨au, cu, rfl⟩ := hvu.shape
          have HVU := Lib.hid hvu
          have HVO4 := Lib.hid (HVO.out.below hb4)
          have HB4 := Lib.hid (below_keep HB3.out hb4)
          clear h1 hvu hb4
          go_wp2_with fail
          refine (awake_any _).mono ?_
          rintro _ w5 ⟨rfl, hb5⟩
          have HSV := Lib.hid (sameVers_any _ _ lo w5 (HVO4.out.below hb5) (HVU.out.below hb5))
          have HB5 := Lib.hid (below_keep HB4.out hb5)
          clear hb5
          go_wp2_with fail
          refine HSV.out.mono ?_
          rintro _ w6 ⟨rfl, hb6⟩
          have HB6 := Lib.hid (below_keep HB5.out hb6)
          clear hb6
          go_wp2_with fail
          go_ret
          exact ⟨rfl, HB6.out⟩
        · have e3' := h2 hr
          subst e3'
          clear h1 h2 hb3 AP
          go_wp2_with fail
          refine (AR _ HB3.out).out.mono ?_
          rintro e4 w4 ⟨r2, HR2, _, h2, hb4⟩
          have hr0 : r2 = r := HR2.out.trans HR.out.symm
          subst hr0
          have e4' := h2 hr
          subst e4'
          have HB4 := Lib.hid (below_keep HB3.out hb4)
          clear h2 hb4
          go_wp2_with fail
          refine (awake_any _).mono ?_
          rintro _ w5 ⟨rfl, hb5⟩
          have HSV := Lib.hid (sameVers_any (.slice none 0 0) (.slice none 0 0) [] w5 (Sl.nil _ _ _ _ _) (Sl.nil _ _ _ _ _))
          have HB5 := Lib.hid (below_keep HB4.out hb5)
          clear hb5
          go_wp2_with fail
          refine HSV.out.mono ?_
          rintro _ w6 ⟨rfl, hb6⟩
          have HB6 := Lib.hid (below_keep HB5.out hb6)
          clear hb6
          go_wp2_with fail
          go_ret
          exact ⟨rfl, HB6.out⟩
    · have g1 : (20 : Int) < (m : Int) := by omega
      go_wp2_with fail
      refine (awake_any _).mono ?_
      rintro _ w2 ⟨rfl, hb2⟩
      have HB2 := Lib.hid (below_keep HB1.out hb2)
      clear hb2
      go_wp2_with fail
      go_ret
      exact ⟨rfl, HB2.out⟩
end Go.Proofs.Ytminnkihcohflaa
