/- Rows of tuples, copies of rows, valid periods. No condition. -/
import Derived.Test.YtminnkihcohflaaIter
import Derived.Test.YtminnkihcohflaaChecked
import Derived.Lib.BufferOwn
namespace Go.Proofs.Ytminnkihcohflaa
open Go.RowKit Go.Lib Go.Shelf


set_option maxHeartbeats 1000000 in
theorem tupleRow_any (v u : Value) (lo hi : Int) (w : World) (a b : Option Addr) (n c m d : Nat) (hv : v = .slice a n c) (hu : u = .slice b m d) :
    Calls Try.prog 48 #[.agg #[v, .int .i64 lo, .int .i64 hi, u]] w fun e w' => e = .returned (.agg #[v, u]) ∧ Below w.heap.size w w' := by
  subst hv hu
  go_enter Try.func48, Try.ntmps48
  go_wp2
  refine bodyPost_ret (v := .agg #[.slice a n c, .slice b m d]) ?_ rfl ⟨rfl, below_alloc_two w _ _⟩
  simp [results, Try.results48, go_sem]

theorem reads_shape {w : World} {size : Nat} {v : Value} {n : Nat} {xs : List Value} (h : Reads w size v n xs) : ∃ a c, v = .slice a n c := by
  obtain ⟨_, _, a, c, e, _⟩ := h; exact ⟨a, c, e⟩
/-- A slice in memory that is newer than w. -/
def Newer (B : Nat) (v : Value) : Prop := ∀ k, v.ownBlock = some k → B ≤ k
/-- A copy: it reads the same, in newer memory. -/
structure Copied (w : World) (size n : Nat) (xs : List Value) (v' : Value) (w' : World) : Prop where
  reads : Reads w' size v' n xs
  newer : Newer w.heap.size v'
  below : Below w.heap.size w w'
theorem Copied.of {w w' : World} {size n : Nat} {xs : List Value} {e : TypeId} {v' : Value} (ho : w'.ownsRow w.heap.size e size v' n xs) (hb : Below w.heap.size w w') : Copied w size n xs v' w' :=
  ⟨own_reads ho, fun k hk => (ho.lt k hk).1, hb⟩
theorem cloneInts_any (v : Value) (l : List Int) (w : World) (hr : Reads w 1 v l.length (numCells l)) (hs : l.length ≤ 1000) :
    Calls Try.prog 112 #[v] w fun e w' => ∃ v', e = .returned v' ∧ Copied w 1 l.length (numCells l) v' w' := by
  obtain ⟨_, _, a, c, rfl, _, hp⟩ := hr
  cases a with
  | none =>
    have hl : l.length = 0 := by
      rcases Nat.eq_zero_or_pos l.length with h | h
      · exact h
      · obtain ⟨b, o, e, _⟩ := hp h; cases e
    refine (sh_slices_Clone_int_nil _ _ _).mono ?_
    rintro e w' ⟨rfl, rfl⟩
    have : l = [] := List.eq_nil_of_length_eq_zero hl
    subst this
    exact ⟨_, rfl, .of (e := 3) (World.ownsRow_nil _ _ _ _) (Below.refl _ _)⟩
  | some p =>
    rcases Nat.eq_zero_or_pos l.length with h | h
    · have : l = [] := List.eq_nil_of_length_eq_zero h
      subst this
      refine (sh_slices_Clone_int_zero p c w).mono ?_
      rintro e w' ⟨v', rfl, ho, _, hb⟩
      exact ⟨_, rfl, .of ho hb⟩
    · obtain ⟨b, o, e, hc⟩ := hp h
      cases e
      refine (sh_slices_Clone_int b o l.length c l w (Nat.le_refl _) (by omega) (fun j hj => ?_)).mono ?_
      · rw [hc j _ (numCells_at l j _ (List.getElem?_eq_getElem hj))]; simp [List.getD, List.getElem?_eq_getElem hj]
      · rintro e w' ⟨v', rfl, ho, _, hb⟩
        rw [List.take_length] at ho
        exact ⟨_, rfl, .of ho hb⟩
theorem valCells_one (l : List GVal) : ∀ u ∈ valCells l, u.oneCell' = true := by
  intro u hu
  obtain ⟨x, _, hx⟩ := List.mem_flatMap.1 hu
  simp [valOf] at hx
  rcases hx with rfl | rfl | rfl <;> rfl
set_option maxHeartbeats 1000000 in
theorem cloneVals_zero (p : Addr) (c : Nat) (w : World) :
    Calls Try.prog 55 #[.slice (some p) 0 c] w fun e w' => ∃ v', e = .returned v' ∧ Copied w 3 0 [] v' w' := by
  obtain ⟨i0, hi, hz0, hz1, hz2⟩ := info_parts val_info
  have q22 : ∀ (w : World) (a : Option Addr) (n c n' c' : Nat), (binOp .eql 34 (.slice a n c) (.slice none n' c')).run Try.prog w = .ok (.bool a.isNone) w := fun w a n c n' c' => Lib.run_eql_slice_nil w _ _ a n c n' c' Try.underlying34
  go_enter Try.func55, Try.ntmps55
  go_wp2_with (at_builtin; refine wpList_append_own _ rfl _ _ 34 rfl w.heap.size 79 i0 _ 3 32 Try.underlying34 hi hz0 hz1 hz2 rfl (by decide) _ _ _ rfl (World.ownsRow_made w #[] 0 (Nat.le_refl _) (Nat.zero_le _) rfl) p 0 c [] rfl rfl (by intro j u hj; simp at hj) (by intro u hu; cases hu) (by unfold maxLen; omega) (by omega) (by simp) ?_; intro v' w1 hown hgrow hnil)
  go_ret
  exact ⟨v', rfl, .of hown (((Below.refl _ w).alloc (Nat.le_refl _) _).grown hgrow (by simp) (fun k hk => ((World.ownsRow_made (base := w.heap.size) (e := 79) (size := 3) w #[] 0 (Nat.le_refl _) (Nat.zero_le _) rfl).lt k hk).1))⟩
theorem cloneVals_any (v : Value) (l : List GVal) (w : World) (hr : Reads w 3 v l.length (valCells l)) (hs : l.length ≤ 1000) :
    Calls Try.prog 55 #[v] w fun e w' => ∃ v', e = .returned v' ∧ Copied w 3 l.length (valCells l) v' w' := by
  obtain ⟨_, _, a, c, rfl, _, hp⟩ := hr
  obtain ⟨i0, hi, hz0, hz1, hz2⟩ := info_parts val_info
  have hfn : ∃ a', a = a' := ⟨_, rfl⟩
  cases a with
  | none =>
    have hl : l.length = 0 := by
      rcases Nat.eq_zero_or_pos l.length with h | h
      · exact h
      · obtain ⟨b, o, e, _⟩ := hp h; cases e
    refine (AnyE.slices_Clone_nil sh_clone78 _ _ _).mono ?_
    rintro e w' ⟨rfl, rfl⟩
    have : l = [] := List.eq_nil_of_length_eq_zero hl
    subst this
    exact ⟨_, rfl, .of (e := 79) (World.ownsRow_nil _ _ _ _) (Below.refl _ _)⟩
  | some p =>
    rcases Nat.eq_zero_or_pos l.length with h | h
    · have : l = [] := List.eq_nil_of_length_eq_zero h
      subst this
      exact cloneVals_zero p c w
    obtain ⟨b, o, e, hc⟩ := hp h
    cases e
    refine (AnyE.slices_Clone sh_clone78 i0 _ 3 32 hi hz0 hz1 hz2 rfl (by decide) (fun w => Try.sizeOf79 w) b o l.length c (valCells l) w (valCells_length l) (by unfold maxLen; omega) (by omega) hc (valCells_one l)).mono ?_
    rintro e w' ⟨v', rfl, ho, _, hb⟩
    exact ⟨_, rfl, .of ho hb⟩

theorem cloneInts_from (w0 : World) (v : Value) (l : List Int) (w : World) (hr : Reads w0 1 v l.length (numCells l)) (hs : l.length ≤ 1000) (hb : Below w0.heap.size w0 w) :
    Calls Try.prog 112 #[v] w fun e w' => ∃ v', e = .returned v' ∧ Copied w 1 l.length (numCells l) v' w' ∧ Below w0.heap.size w0 w' := by
  refine (cloneInts_any v l w (hr.below hb) hs).mono ?_
  rintro e w' ⟨v', rfl, hC⟩
  exact ⟨v', rfl, hC, hb.trans (hC.below.mono hb.size)⟩
theorem cloneVals_from (w0 : World) (v : Value) (l : List GVal) (w : World) (hr : Reads w0 3 v l.length (valCells l)) (hs : l.length ≤ 1000) (hb : Below w0.heap.size w0 w) :
    Calls Try.prog 55 #[v] w fun e w' => ∃ v', e = .returned v' ∧ Copied w 3 l.length (valCells l) v' w' ∧ Below w0.heap.size w0 w' := by
  refine (cloneVals_any v l w (hr.below hb) hs).mono ?_
  rintro e w' ⟨v', rfl, hC⟩
  exact ⟨v', rfl, hC, hb.trans (hC.below.mono hb.size)⟩

/-- A box of two cells, unchanged. -/
theorem box_two {w : World} {g : Nat} {x y : Value} {e : TypeId} (h : w.heap[g]? = some (.cells #[x, y] e (0, 0))) :
    w.cell? ⟨g, 0, none⟩ = some x ∧ w.cell? ⟨g, 1, none⟩ = some y ∧ w.frozen? ⟨g, 0, none⟩ = false ∧ w.frozen? ⟨g, 1, none⟩ = false := by
  refine ⟨?_, ?_, ?_, ?_⟩ <;> simp [World.cell?, World.frozen?, h]
theorem heap_alloc_new' (w : World) (o o' : Obj) : ((w.alloc o).alloc o').heap[w.heap.size + 1]? = some o' := by
  have := World.alloc_heap_new (w.alloc o) o'
  rwa [World.size_alloc] at this
theorem heap_alloc_old' (w : World) (o o' : Obj) : ((w.alloc o).alloc o').heap[w.heap.size]? = some o :=
  (Below.heap_alloc _ _ _ (by simp)).trans (World.alloc_heap_new w o)
theorem box_kept {w w' : World} {g : Nat} {o : Obj} (h : w.heap[g]? = some o) (hb : Below w.heap.size w w') : w'.heap[g]? = some o :=
  (hb.block g (Array.getElem?_eq_some_iff.1 h).1).trans h
theorem box_kept_drew {w w' : World} {g n : Nat} {o : Obj} (h : w.heap[g]? = some o) (hb : Below (w.drewN n).heap.size (w.drewN n) w') : w'.heap[g]? = some o :=
  box_kept (w := w.drewN n) h hb

theorem newer_at {B : Nat} {w : World} {o : Obj} {v : Value} (h : w.heap[B + 1]? = some o) (hn : Newer w.heap.size v) : Hid (Newer (B + 2) v) := fun k hk => by
  have h1 := hn k hk
  have h2 := (Array.getElem?_eq_some_iff.1 h).1
  omega
/-- What the second copy and the two stores leave of the first. -/
theorem copied_end {w w2 W : World} {size n : Nat} {xs : List Value} {v : Value} (hr : Reads w2 size v n xs) (hn : Newer (w.heap.size + 2) v) (hb : Below w.heap.size w w2) (x y : Value)
    (hW : W = (w2.setCell ⟨w.heap.size + 1, 0, none⟩ x).setCell ⟨w.heap.size + 1, 1, none⟩ y) : Copied w size n xs v W := by
  have hg : w2.grownBy W (some (w.heap.size + 1)) := by rw [hW]; exact grownBy_trans (grownBy_setCell _ _ _ _) (grownBy_setCell _ _ _ _)
  have hA : ReadsA w2 (some (w.heap.size + 1)) size v n xs := ⟨hr, fun hp e => by have := hn _ e; omega⟩
  refine ⟨(hA.grown hg).1, fun k hk => by have := hn k hk; omega, hb.grown hg hb.size (fun k e => by cases e; omega)⟩

set_option maxHeartbeats 4000000 in
theorem bagClone_any (v u : Value) (l : List GVal) (m : List Int) (w : World) (hv : Reads w 3 v l.length (valCells l)) (hu : Reads w 1 u m.length (numCells m)) (hl : l.length ≤ 1000) (hm : m.length ≤ 1000) :
    Calls Try.prog 81 #[.agg #[v, u]] w fun e w' => ∃ v' u', e = .returned (.agg #[v', u']) ∧ Copied w 3 l.length (valCells l) v' w' ∧ Copied w 1 m.length (numCells m) u' w' := by
  have HV := Lib.hid hv
  have HU := Lib.hid hu
  obtain ⟨_, _, a, c, rfl, _⟩ := hv
  obtain ⟨_, _, b, d, rfl, _⟩ := hu
  go_enter Try.func81, Try.ntmps81
  go_wp2_with fail
  go_region_with (first | (go_at_call 55; refine (cloneVals_from w _ l _ HV.out hl (by first | exact below_alloc_two w _ _ | exact (below_drewN (below_alloc_two w _ _) _))).mono ?_; rintro e w' ⟨v', rfl, hC, hB⟩; obtain ⟨a', c', rfl⟩ := reads_shape hC.reads; have hx : w'.heap[w.heap.size + 1]? = some (.cells #[.slice none 0 0, .slice none 0 0] 97 (0, 0)) := (by first | exact box_kept (heap_alloc_new' w _ _) hC.below | exact box_kept_drew (heap_alloc_new' w _ _) hC.below | exact box_kept (by assumption) hC.below | exact box_kept_drew (by assumption) hC.below); obtain ⟨x0, x1, x2, x3⟩ := box_two hx; have hy : w'.heap[w.heap.size]? = some (.cells #[.slice a l.length c, .slice b m.length d] 97 (0, 0)) := (by first | exact box_kept (heap_alloc_old' w _ _) hC.below | exact box_kept_drew (heap_alloc_old' w _ _) hC.below | exact box_kept (by assumption) hC.below | exact box_kept_drew (by assumption) hC.below); obtain ⟨y0, y1, y2, y3⟩ := box_two hy; have hN1 : Hid (Newer (w.heap.size + 2) (.slice a' l.length c')) := (fun k hk => by have h9 := hC.newer k hk; simp at h9; omega); have hR1 := Lib.hid hC.reads; have HB1 := Lib.hid hB; clear hC hB) | (go_at_call 112; refine (cloneInts_from w _ m _ HU.out hm (by first | exact HB1.out | exact (below_drewN HB1.out _))).mono ?_; rintro e w' ⟨v', rfl, hC, hB⟩; obtain ⟨a', c', rfl⟩ := reads_shape hC.reads; have hx : w'.heap[w.heap.size + 1]? = some (.cells #[.slice none 0 0, .slice none 0 0] 97 (0, 0)) := (by first | exact box_kept (heap_alloc_new' w _ _) hC.below | exact box_kept_drew (heap_alloc_new' w _ _) hC.below | exact box_kept (by assumption) hC.below | exact box_kept_drew (by assumption) hC.below); obtain ⟨x0, x1, x2, x3⟩ := box_two hx; have hy : w'.heap[w.heap.size]? = some (.cells #[.slice a l.length c, .slice b m.length d] 97 (0, 0)) := (by first | exact box_kept (heap_alloc_old' w _ _) hC.below | exact box_kept_drew (heap_alloc_old' w _ _) hC.below | exact box_kept (by assumption) hC.below | exact box_kept_drew (by assumption) hC.below); obtain ⟨y0, y1, y2, y3⟩ := box_two hy; have hN2 : Hid (Newer (w.heap.size + 2) (.slice a' m.length c')) := newer_at (by assumption) hC.newer; have hR2 := Lib.hid hC.reads; have hR1' := Lib.hid (Reads.below (hR1.out) hC.below); have HB2 := Lib.hid hB; clear hC hB hx hy))
  all_goals go_wp2_with fail
  all_goals refine bodyPost_ret (v := .agg #[.slice _ _ _, .slice _ _ _]) ?_ rfl ⟨_, _, rfl, copied_end hR1'.out hN1.out HB2.out _ _ rfl, copied_end hR2.out hN2.out HB2.out _ _ rfl⟩
  all_goals simp [results, Try.results81, go_sem, x0, x1]
end Go.Proofs.Ytminnkihcohflaa
