/- A part of the proofs: BldC, MvQ, Mvx, Clp, Mnf, Hand, Wde, Sum, EvlA, EvlB, EvlC, EvlD, EvlE, EvlF. No condition beside sizes and tables that read as laid. -/
import Derived.Test.YtfmbbfidjcgeiaaGreatDoorMgAb
import Derived.Test.YtfmbbfidjcgeiaaGreatDoorMgAa
import Derived.Deep.RegionHeld3
import Derived.Laws.Externs
import Derived.Deep.DeepCutAuto
import Derived.IntWalk
namespace Go.Proofs.YtfmbbfidjcgeiaaGreatDoor
open Go.RowKit Go.Lib Go.Shelf

theorem u5_at {w : World} {a : Option Addr} {n c k : Nat} {l : List U5} {x : U5} (h : Sl u5E w free (.slice a n c) l) (hk : l[k]? = some x) :
    ∃ b o, a = some ⟨b, o, none⟩ ∧ w.cell? ⟨b, o + k * 5, none⟩ = some (.int .u16 (x.x0 : Int)) ∧ w.cell? ⟨b, o + k * 5 + 1, none⟩ = some (.int .u16 (x.x1 : Int)) ∧ w.cell? ⟨b, o + k * 5 + 2, none⟩ = some (.int .u16 (x.x2 : Int)) ∧ w.cell? ⟨b, o + k * 5 + 3, none⟩ = some (.int .u16 (x.x3 : Int)) ∧ w.cell? ⟨b, o + k * 5 + 4, none⟩ = some (.int .u16 (x.x4 : Int)) := by
  obtain ⟨b, o, cs, ha, rfl, hc⟩ := Sl.at h hk
  exact ⟨b, o, ha, hc 0 _ rfl, hc 1 _ rfl, hc 2 _ rfl, hc 3 _ rfl, hc 4 _ rfl⟩
def tupsOf (l : List U5) (m : Nat) : List Tup := (l.take m).map tupOf
theorem tupsOf_length (l : List U5) (m : Nat) : (tupsOf l m).length ≤ m := by simp [tupsOf]; omega
set_option maxHeartbeats 4000000 in
set_option maxRecDepth 100000 in
theorem tuples_any (v : Value) (l : List U5) (m : Nat) (hm : m ≤ 1000) (w : World) (hv : Sl u5E w free v l) (hok : ∀ x ∈ l, x.ok) :
    Calls Tryz.prog 4 #[v, .int .i64 (m : Int)] w (RetOwn tupE w (tupsOf l m)) := by
  obtain ⟨a, c, rfl⟩ := hv.shape
  have HV := Lib.hid hv
  have HOK := Lib.hid hok
  have h63 := hv.1
  obtain ⟨n, hn⟩ : ∃ n, n = l.length := ⟨_, rfl⟩
  have HN := Lib.hid hn
  rw [← hn] at HV h63 ⊢
  clear hv hn hok
  go_enter Tryz.func4, Tryz.ntmps4
  go_wp2_with fail
  go_loopw [6, 5] (fun i o wr => ∃ k : Nat, k ≤ n ∧ k ≤ m ∧ i = .int .i64 k ∧ Own tupE wr w.heap.size o ((l.take k).map tupOf) ∧ Below w.heap.size w wr) (fun i _ _ => n - (intOf i).toNat)
  case atStart => exact ⟨0, Nat.zero_le _, Nat.zero_le _, rfl, Own.nil _ _ _, Below.refl _ _⟩
  case round =>
    obtain ⟨k, hk, hkm, rfl, hO, hB⟩ := hrel
    obtain ⟨acc, hacc⟩ : ∃ acc, acc = (l.take k).map tupOf := ⟨_, rfl⟩
    have hlen : acc.length ≤ k := by rw [hacc]; simp; omega
    rw [← hacc] at hO
    obtain ⟨oa, oc, rfl⟩ := hO.shape
    have HACC := Lib.hid hacc
    clear hacc
    by_cases hlt : k < n ∧ k < m
    · obtain ⟨hlt1, hlt2⟩ := hlt
      obtain ⟨x, hx⟩ := lget_some l k (by rw [← HN.out]; exact hlt1)
      obtain ⟨b, o, rfl, p0, p1, p2, p3, p4⟩ := u5_at HV.out hx
      replace p0 := cell_keep hB p0
      replace p1 := cell_keep hB p1
      replace p2 := cell_keep hB p2
      replace p3 := cell_keep hB p3
      replace p4 := cell_keep hB p4
      have HT : Hid ((l.take (k + 1)).map tupOf = acc ++ [tupOf x]) := by show _ = _; rw [take_get hx, HACC.out, List.map_append]; rfl
      have HX := Lib.hid (HOK.out x (List.mem_of_getElem? hx))
      clear hx
      obtain ⟨t, ht⟩ : ∃ t, t = tupOf x := ⟨_, rfl⟩
      have HTU := Lib.hid (tuple_any x HX.out wr)
      rw [← ht] at HT HTU
      clear ht
      go_wp2_with fail
      refine HTU.out.mono ?_
      rintro e w2 hN
      obtain ⟨a4, c4, b4, d4, rfl, his⟩ := hN.cells
      have hb2 := hN.below
      clear hN
      have hB2 := below_keep hB hb2
      have hO2 := hO.below hb2
      go_wp2_with (at_builtin; refine wpList_push rfl _ _ 24 rfl tupE Tryz.underlying24 w.heap.size (.slice oa acc.length oc) acc rfl hO2 [t] #[.slice a4 t.vals.length c4, .int .i64 t.lo, .int .i64 t.hi, .slice b4 t.lin.length d4] (Els.one (tupE.mono his (fun k _ hk => (hO.lt k hk.symm).2))) 1 1 rfl rfl (by decide) (by unfold maxLen; omega) (by show _ * 64 ≤ _; omega) hB2.size ?_; intro g cap w5 hP hPa)
      go_roundw
      case rel => exact ⟨k + 1, by omega, by omega, by go_num, by rw [HT.out]; exact hP.own' (by simp), hB2.trans hP.below⟩
      case measure => simp [intOf]; omega
    · have HF : Hid (acc = tupsOf l m) := by
        show _ = _
        rw [HACC.out, tupsOf]
        by_cases h1 : k < n
        · have : k = m := by omega
          rw [this]
        · rw [List.take_of_length_le (by rw [← HN.out]; omega), List.take_of_length_le (by rw [← HN.out]; omega)]
      by_cases h1 : k < n
      · have h2 : ¬ k < m := fun h => hlt ⟨h1, h⟩
        clear hlt
        go_wp2_with fail
        go_ret
        exact ⟨_, rfl, by rw [← HF.out]; exact hO, hB⟩
      · clear hlt
        go_wp2_with fail
        go_ret
        exact ⟨_, rfl, by rw [← HF.out]; exact hO, hB⟩
end Go.Proofs.YtfmbbfidjcgeiaaGreatDoor

namespace Go.Proofs.YtfmbbfidjcgeiaaGreatDoor
open Go.RowKit Go.Lib

/-- Tuples that lie within all days. -/
def InDays (l : List Tup) : Prop := ∀ t ∈ l, 0 ≤ t.lo ∧ t.lo < t.hi ∧ t.hi ≤ 1000000
theorem tupsOf_days (l : List U5) (m : Nat) : InDays (tupsOf l m) := by
  intro t ht
  obtain ⟨x, _, rfl⟩ := List.mem_map.1 ht
  have h : 0 ≤ (gper x.x0 x.x1).1 ∧ (gper x.x0 x.x1).1 < (gper x.x0 x.x1).2 ∧ (gper x.x0 x.x1).2 ≤ 1000000 := by
    unfold gper
    split <;> dsimp only <;> omega
  exact h
/-- The tuples that a window sees. -/
def winL (D : Int) (l : List Tup) (d : Int) : List Tup := l.filter fun t => decide (t.lo ≤ d) && decide (d < t.hi + D - 1)
theorem hold_win {D d : Int} (hD : 1 ≤ D) (hd : d < 1000000) : ∀ l : List Tup, InDays l → (holdL (extL D l) d).map Tup.vals = (winL D l d).map Tup.vals
  | [], _ => rfl
  | t :: l, h => by
    have ih := hold_win hD hd l fun t ht => h t (List.mem_cons_of_mem _ ht)
    have ht := h t (List.mem_cons_self ..)
    have hv : pvalid t.lo t.hi = true := pvalid_iff.2 ⟨ht.1, ht.2.1, by omega⟩
    have e1 : extT D t = [⟨t.vals, t.lo, min (min t.hi 1000000 + D - 1) 1000000, t.lin⟩] := if_pos ⟨hv, by omega⟩
    have hp : pincl t.lo (min (min t.hi 1000000 + D - 1) 1000000) d = (decide (t.lo ≤ d) && decide (d < t.hi + D - 1)) := by
      rw [Bool.eq_iff_iff, pincl_iff, pvalid_iff]
      simp
      omega
    unfold holdL winL extL at *
    rw [List.flatMap_cons, e1, List.filter_append, List.map_append, ih, List.filter_cons, List.filter_cons, List.filter_nil]
    dsimp only
    rw [hp]
    cases (decide (t.lo ≤ d) && decide (d < t.hi + D - 1)) <;> rfl
theorem aggT_win {D d : Int} (hD : 1 ≤ D) (hd : d < 1000000) {l : List Tup} (h : InDays l) (e : List GExp) (arg kind : Int) :
    aggT e arg kind (holdL (extL D l) d) = aggP kind ((winL D l d).map fun t => evalG e arg t.vals) := by
  have := hold_win hD hd l h
  unfold aggT
  rw [show ((holdL (extL D l) d).map fun t => evalG e arg t.vals) = ((holdL (extL D l) d).map Tup.vals).map (evalG e arg) by rw [List.map_map]; rfl, this, List.map_map]
  rfl
theorem count_win {D d : Int} (hD : 1 ≤ D) (hd : d < 1000000) {l : List Tup} (h : InDays l) (e : List GExp) (arg : Int) :
    aggT e arg 1 (holdL (extL D l) d) = gint (winL D l d).length := by
  rw [aggT_win hD hd h]
  unfold aggP
  rw [if_pos rfl, List.length_map]
theorem win_wider {D E d : Int} (h : D ≤ E) (l : List Tup) : winL D l d = (winL E l d).filter fun t => decide (t.lo ≤ d) && decide (d < t.hi + D - 1) := by
  unfold winL
  rw [List.filter_filter]
  refine List.filter_congr fun t _ => ?_
  rw [Bool.eq_iff_iff]
  simp
  omega
theorem win_len {D E d : Int} (h : D ≤ E) (l : List Tup) : (winL D l d).length ≤ (winL E l d).length := by
  rw [win_wider h l]
  exact List.length_filter_le _ _
/-- The first column. -/
def colX : GExp := ⟨2, 0, 0, 0, gnull⟩
theorem eval_col (a b : GVal) : evalG [colX] 0 [a, b] = a := rfl
/-- Null or a number. -/
def Num01 (g : GVal) : Prop := g.kind = 0 ∨ g.kind = 1
theorem col_num (l : List U5) (m : Nat) : ∀ t ∈ tupsOf l m, Num01 (evalG [colX] 0 t.vals) := by
  intro t ht
  obtain ⟨x, _, rfl⟩ := List.mem_map.1 ht
  have e : evalG [colX] 0 (tupOf x).vals = gval0 x.x2 := eval_col _ _
  rw [e]
  unfold gval0 Num01
  split
  · exact .inl rfl
  · exact .inr rfl
theorem cmpG_null {g : GVal} (h : 0 < g.kind) : cmpG gnull g = -1 := by
  unfold cmpG lessG
  rw [if_pos]
  simp [gnull, h]
theorem cmpG_tri (a b : GVal) : cmpG a b = -1 ∨ cmpG a b = 0 ∨ cmpG a b = 1 := (sgn_val a b b).1
/-- A greatest value among fewer is not greater. -/
theorem max_wider {A B : List GVal} (h : ∀ x ∈ A, x ∈ B) (hn : ∀ x ∈ B, Num01 x) : cmpG (aggP 4 A) (aggP 4 B) ≤ 0 := by
  have ha : ∀ l, aggP 4 l = extG 1 (nonNull l) := fun l => rfl
  rw [ha, ha]
  have hsub : ∀ x ∈ nonNull A, x ∈ nonNull B := fun x hx => by
    obtain ⟨h1, h2⟩ := List.mem_filter.1 hx
    exact List.mem_filter.2 ⟨h x h1, h2⟩
  by_cases hA : nonNull A = []
  · rw [hA]
    show cmpG gnull _ ≤ 0
    by_cases hB : nonNull B = []
    · rw [hB]
      show cmpG gnull gnull ≤ 0
      rw [cmpG_zero.2 rfl]
      decide
    · have hb := (extG_best (.inl rfl) hB).1
      obtain ⟨h1, h2⟩ := List.mem_filter.1 hb
      rw [cmpG_null]
      · decide
      · rcases hn _ h1 with e | e
        · rw [e] at h2; cases h2
        · omega
  · have hp := (extG_best (.inl rfl) hA).1
    have hB : nonNull B ≠ [] := List.ne_nil_of_mem (hsub _ hp)
    have := (extG_best (.inl rfl) hB).2 _ (hsub _ hp)
    rcases cmpG_tri (extG 1 (nonNull A)) (extG 1 (nonNull B)) with e | e | e <;> omega
theorem col_wider {D E d : Int} (hD : 1 ≤ D) (h : D ≤ E) (hd : d < 1000000) (l : List U5) (m : Nat) :
    cmpG (aggT [colX] 0 4 (holdL (extL D (tupsOf l m)) d)) (aggT [colX] 0 4 (holdL (extL E (tupsOf l m)) d)) ≤ 0 := by
  rw [aggT_win hD hd (tupsOf_days l m), aggT_win (by omega) hd (tupsOf_days l m)]
  refine max_wider (fun x hx => ?_) (fun x hx => ?_)
  · obtain ⟨t, ht, rfl⟩ := List.mem_map.1 hx
    rw [win_wider h] at ht
    exact List.mem_map_of_mem (List.mem_filter.1 ht).1
  · obtain ⟨t, ht, rfl⟩ := List.mem_map.1 hx
    exact col_num l m t (List.mem_filter.1 ht).1
theorem wide_n {l : List Tup} (h : InDays l) (D : Int) {d : Int} (h0 : 0 ≤ d) (h1 : d < 1000000) : valueL (movL l [] 0 D 1) d = gint (winL (clampD D) l d).length := by
  rw [movL_value l [] 0 D 1 h0 h1, count_win (clampD_pos D).1 h1 h]
theorem clampD_le {D E : Int} (h : D ≤ E) : clampD D ≤ clampD E := by unfold clampD; omega
theorem wide_c (l : List U5) (m : Nat) {D E d : Int} (h : D ≤ E) (h0 : 0 ≤ d) (h1 : d < 1000000) : cmpG (valueL (movL (tupsOf l m) [colX] 0 D 4) d) (valueL (movL (tupsOf l m) [colX] 0 E 4) d) ≤ 0 := by
  rw [movL_value _ [colX] 0 D 4 h0 h1, movL_value _ [colX] 0 E 4 h0 h1]
  exact col_wider (clampD_pos D).1 (clampD_le h) h1 l m
/-! All of time. -/
/-- The tuples that started by then. -/
def begun (l : List Tup) (d : Int) : List Tup := l.filter fun t => decide (t.lo ≤ d)
theorem win_all {d : Int} (hd : d < 1000000) {l : List Tup} (h : InDays l) : winL 1000000 l d = begun l d := by
  unfold winL begun
  refine List.filter_congr fun t ht => ?_
  have := h t ht
  rw [Bool.eq_iff_iff]
  simp
  omega
theorem begun_mono {c d : Int} (h : c ≤ d) (l : List Tup) : (begun l c).length ≤ (begun l d).length := by
  have e : begun l c = (begun l d).filter fun t => decide (t.lo ≤ c) := by
    unfold begun
    rw [List.filter_filter]
    refine List.filter_congr fun t _ => ?_
    rw [Bool.eq_iff_iff]
    simp
    omega
  rw [e]
  exact List.length_filter_le _ _
theorem begun_snoc {l : List Tup} {k : Nat} {t : Tup} {d : Int} (h : l[k]? = some t) : (begun (l.take (k + 1)) d).length = (begun (l.take k) d).length + if t.lo ≤ d then 1 else 0 := by
  unfold begun
  rw [take_get h, List.filter_append, List.length_append, List.filter_cons, List.filter_nil]
  by_cases e : t.lo ≤ d <;> simp [e]
theorem clampD_all : clampD 1000000 = 1000000 := rfl
/-- The steps of the window that reaches back to day 0. -/
theorem total_steps (l : List Tup) : StepI (movL l [] 0 1000000 1) 0 1000000 (fun d => aggT [] 0 1 (holdL (extL 1000000 l) d)) := movL_steps l [] 0 1000000 1
theorem tiles_lt : ∀ {l : List Stp} {a b : Int}, Tiles l a b → ∀ s ∈ l, a ≤ s.lo ∧ s.lo < s.hi ∧ s.hi ≤ b
  | s :: l, a, b, ⟨h1, h2, h3⟩, t, ht => by
    have h4 := h3.le
    rcases List.mem_cons.1 ht with rfl | ht
    · omega
    · have := tiles_lt h3 t ht; omega
/-- Step k begins where the steps ahead of it end. -/
theorem tiles_at : ∀ {l : List Stp} {a b : Int} {k : Nat} {s : Stp}, Tiles l a b → l[k]? = some s → Tiles (l.take k) a s.lo
  | s :: l, a, b, 0, t, ⟨h1, h2, h3⟩, ht => by
    cases ht
    exact h1.symm
  | s :: l, a, b, k + 1, t, ⟨h1, h2, h3⟩, ht => ⟨h1, h2, tiles_at h3 ht⟩
/-- Each step counts more than the one ahead of it. -/
theorem total_up {l : List Tup} (h : InDays l) {k : Nat} {s t : Stp} (hs : (movL l [] 0 1000000 1)[k]? = some s) (ht : (movL l [] 0 1000000 1)[k + 1]? = some t) : s.v.n < t.v.n := by
  have hI := total_steps l
  have e : ∀ u ∈ movL l [] 0 1000000 1, u.v = gint (begun l u.lo).length := fun u hu => by
    have h1 := tiles_lt hI.tiles u hu
    rw [hI.val u hu u.lo (Int.le_refl _) h1.2.1, count_win (by decide) (by omega) h, win_all (by omega) h]
  have hsm := List.mem_of_getElem? hs
  have htm := List.mem_of_getElem? ht
  have hne := hI.adj k s t hs ht
  have hle : s.lo ≤ t.lo := by
    have h1 := tiles_at hI.tiles ht
    have h2 : s ∈ (movL l [] 0 1000000 1).take (k + 1) := by
      rw [take_get hs]
      exact List.mem_append.2 (.inr (List.mem_singleton.2 rfl))
    have := tiles_lt h1 s h2
    omega
  have hmn := begun_mono hle l
  rw [e s hsm, e t htm] at hne ⊢
  show ((begun l s.lo).length : Int) < ((begun l t.lo).length : Int)
  have : (begun l s.lo).length ≠ (begun l t.lo).length := fun e => hne (by rw [e])
  omega
theorem total_value {l : List Tup} (h : InDays l) {d : Int} (h0 : 0 ≤ d) (h1 : d < 1000000) : valueL (movL l [] 0 1000000 1) d = gint (begun l d).length := by
  rw [movL_value l [] 0 1000000 1 h0 h1, clampD_all, count_win (by decide) h1 h, win_all h1 h]
/-- The window meets a tuple's period exactly if it sees the tuple. -/
theorem covers_iff (l : List Tup) (D d : Int) : (∃ p ∈ l.map fun t => (t.lo, t.hi), p.1 ≤ d ∧ d - D + 1 < p.2) ↔ 0 < (winL D l d).length := by
  rw [List.length_pos_iff_exists_mem]
  unfold winL
  constructor
  · rintro ⟨p, hp, h1, h2⟩
    obtain ⟨t, ht, rfl⟩ := List.mem_map.1 hp
    dsimp only at h1 h2
    exact ⟨t, List.mem_filter.2 ⟨ht, by simp; omega⟩⟩
  · rintro ⟨t, ht⟩
    obtain ⟨h1, h2⟩ := List.mem_filter.1 ht
    simp at h2
    exact ⟨_, List.mem_map.2 ⟨t, h1, rfl⟩, h2.1, by dsimp only; omega⟩
end Go.Proofs.YtfmbbfidjcgeiaaGreatDoor

namespace Go.Proofs.YtfmbbfidjcgeiaaGreatDoor
open Go.RowKit Go.Lib

theorem ext_ok (lo hi : Int) : isOk lo hi 0 1000000 = decide (pvalid lo hi = true ∧ lo < 1000000) := by
  unfold isOk
  rw [Bool.eq_iff_iff]
  have h0 : pvalid 0 1000000 = true := by decide
  rw [h0]
  simp
  intro h
  have := pvalid_iff.1 h
  omega
theorem ext_lohi {lo hi : Int} (h : isOk lo hi 0 1000000 = true) : isLo lo hi 0 1000000 = lo ∧ isHi lo hi 0 1000000 = min hi 1000000 ∧ 0 ≤ lo ∧ lo < hi := by
  unfold isLo isHi
  rw [if_pos h, if_pos h]
  rw [ext_ok, decide_eq_true_eq] at h
  have := pvalid_iff.1 h.1
  omega
set_option maxHeartbeats 4000000 in
set_option maxRecDepth 100000 in
theorem extend_any (v : Value) (l : List Tup) (D : Int) (hD : 1 ≤ D ∧ D ≤ 1000000) (w : World) (hv : Tups w v l) (hl : l.length ≤ 100000) :
    Calls Tryz.prog 27 #[v, .int .i64 D] w (RetOwn tupE w (extL D l)) := by
  obtain ⟨a, c, rfl⟩ := hv.shape
  have h63 := hv.1
  have HV0 := Lib.hid hv
  obtain ⟨n, hn⟩ : ∃ n, n = l.length := ⟨_, rfl⟩
  have HN := Lib.hid hn
  rw [← hn] at HV0 h63 hl ⊢
  obtain ⟨hD1, hD2⟩ := hD
  clear hv hn
  have hbx := World.alloc_heap_new w (.cells #[.int .i64 0, .int .i64 1000000] 46)
  have hb0 := below_alloc w (.cells #[.int .i64 0, .int .i64 1000000] 46)
  obtain ⟨w1, hw1⟩ : ∃ w1, w1 = w.alloc (.cells #[.int .i64 0, .int .i64 1000000] 46) := ⟨_, rfl⟩
  go_enter Tryz.func27, Tryz.ntmps27
  go_wp2_with fail
  rw [← hw1] at hbx hb0 ⊢
  have HBX := Lib.hid hbx
  have HB0 := Lib.hid hb0
  have HV := Lib.hid (HV0.out.below hb0)
  clear hbx hb0 hw1 HV0
  go_loopw [14, 6] (fun i o wr => ∃ k : Nat, k ≤ n ∧ i = .int .i64 k ∧ Own tupE wr w1.heap.size o (extL D (l.take k)) ∧ Hid (Below w1.heap.size w1 wr)) (fun i _ _ => n - (RowKit.intOf i).toNat)
  case atStart => exact ⟨0, Nat.zero_le _, rfl, Own.nil _ _ _, Lib.hid (.refl _ _)⟩
  case round =>
    obtain ⟨k, hk, rfl, hO, HB⟩ := hrel
    obtain ⟨wo, rfl⟩ : ∃ wo : World, wo = wr := ⟨_, rfl⟩
    by_cases hlt : k < n
    · obtain ⟨x, hx⟩ := lget_some l k (by rw [← HN.out]; exact hlt)
      obtain ⟨b, o, a1, n1, e1, m1, rfl, hvv, hll, p0, p1, p2, p3⟩ := tups_at HV.out hx
      replace p0 := cell_keep HB.out p0
      replace p1 := cell_keep HB.out p1
      replace p2 := cell_keep HB.out p2
      replace p3 := cell_keep HB.out p3
      have HT : Hid (extL D (l.take (k + 1)) = extL D (l.take k) ++ extT D x) := Lib.hid (extL_snoc D l k x hx)
      obtain ⟨lk, hlke⟩ : ∃ lk, lk = extL D (l.take k) := ⟨_, rfl⟩
      have hlk : lk.length ≤ 100000 := by rw [hlke]; exact Nat.le_trans (extL_len _ _) (by rw [List.length_take]; omega)
      rw [← hlke] at hO HT
      obtain ⟨ao, co, rfl⟩ := hO.shape
      obtain ⟨xv, xlo, xhi, xl⟩ := x
      dsimp only at p0 p1 p2 p3 hvv hll HT
      have HI := fun W => Lib.hid (isect_any xlo xhi 0 1000000 W)
      have hLH := @ext_lohi xlo xhi
      have hOK := ext_ok xlo xhi
      generalize isOk xlo xhi 0 1000000 = q at HI hLH hOK
      generalize isLo xlo xhi 0 1000000 = qlo at HI hLH
      generalize isHi xlo xhi 0 1000000 = qhi at HI hLH
      have HLH := Lib.hid hLH
      have HOK := Lib.hid hOK
      have HVV := Lib.hid hvv
      have HLL := Lib.hid hll
      have hg := World.alloc_heap_new wo (.cells #[.slice a1 xv.length n1, .int .i64 xlo, .int .i64 xhi, .slice e1 xl.length m1] 48)
      have HB1 : Hid (Below w1.heap.size w1 (wo.alloc (.cells #[.slice a1 xv.length n1, .int .i64 xlo, .int .i64 xhi, .slice e1 xl.length m1] 48))) := Lib.hid (below_alloc_keep HB.out)
      obtain ⟨⟨c0, c1⟩⟩ := (⟨⟨(box_two (box_kept HBX.out HB1.out)).1, (box_two (box_kept HBX.out HB1.out)).2.1⟩⟩ : PLift (_ ∧ _))
      have HO1 := Lib.hid (hO.below (below_alloc wo (.cells #[.slice a1 xv.length n1, .int .i64 xlo, .int .i64 xhi, .slice e1 xl.length m1] 48)))
      have HO := Lib.hid hO
      have HG := Lib.hid hg
      clear hx hvv hll hO hlke hg hLH hOK
      go_wp2_with fail
      refine (HI _).out.mono ?_
      rintro _ w3 ⟨rfl, hb3⟩
      obtain ⟨⟨d0, d1, d2, d3⟩, f0, f1, f2, f3⟩ := box_four (box_kept HG.out hb3)
      have HB3 : Hid (Below w1.heap.size w1 w3) := Lib.hid (below_keep HB1.out hb3)
      have HO3 := Lib.hid (HO1.out.below hb3)
      have HW3 : Hid (Below wo.heap.size wo w3) := Lib.hid (below_alloc2' hb3)
      have hsz : wo.heap.size < w3.heap.size := World.block_lt_of_cell? _ _ d0
      clear hb3 HG HB1 HO1 HI c0 c1
      cases q
      · have HT' : Hid (extL D (l.take (k + 1)) = lk) := by
          show _ = _
          have h := HOK.out
          rw [HT.out]
          unfold extT
          rw [if_neg (fun h2 => by rw [decide_eq_true h2] at h; cases h), List.append_nil]
        go_wp2_with fail
        go_roundw
        case rel => exact ⟨k + 1, by omega, by go_num, by rw [HT'.out]; exact HO3.out.below (below_alloc _ _), Lib.hid (below_alloc_keep HB3.out)⟩
        case measure => simp [RowKit.intOf]; omega
      · obtain ⟨rfl, hqh, hl0, hl1⟩ := HLH.out rfl
        obtain ⟨z, hz⟩ : ∃ z, z = min (min xhi 1000000 + D - 1) 1000000 := ⟨_, rfl⟩
        have HT' : Hid (extL D (l.take (k + 1)) = lk ++ [⟨xv, qlo, z, xl⟩]) := by
          show _ = _
          have h := HOK.out
          rw [HT.out, hz]
          unfold extT
          rw [if_pos (of_decide_eq_true h.symm)]
        have hq1 : 1 ≤ qhi := by omega
        have hq2 : qhi ≤ 1000000 := by omega
        rw [← hqh] at hz
        have HZ := Lib.hid hz
        clear hz hqh hl0 hl1
        go_upto_region 9 with fail
        rw [← HZ.out]
        have hE : Below wo.heap.size wo (((w3.setCell ⟨wo.heap.size, 1, none⟩ (.int .i64 qlo)).setCell ⟨wo.heap.size, 2, none⟩ (.int .i64 z)).alloc (.cells #[.int .i64 qlo, .int .i64 qhi] 46)) := below_alloc_keep ((HW3.out.setCell (by exact Nat.le_refl _) _).setCell (by exact Nat.le_refl _) _)
        have hF : Below w1.heap.size w1 (((w3.setCell ⟨wo.heap.size, 1, none⟩ (.int .i64 qlo)).setCell ⟨wo.heap.size, 2, none⟩ (.int .i64 z)).alloc (.cells #[.int .i64 qlo, .int .i64 qhi] 46)) := HB.out.trans (hE.mono HB.out.size)
        have e0 : (((w3.setCell ⟨wo.heap.size, 1, none⟩ (.int .i64 qlo)).setCell ⟨wo.heap.size, 2, none⟩ (.int .i64 z)).alloc (.cells #[.int .i64 qlo, .int .i64 qhi] 46)).cell? ⟨wo.heap.size, 0, none⟩ = some (.slice a1 xv.length n1) := cell_alloc (by simp [d0, go_sem])
        have e1' : (((w3.setCell ⟨wo.heap.size, 1, none⟩ (.int .i64 qlo)).setCell ⟨wo.heap.size, 2, none⟩ (.int .i64 z)).alloc (.cells #[.int .i64 qlo, .int .i64 qhi] 46)).cell? ⟨wo.heap.size, 1, none⟩ = some (.int .i64 qlo) := cell_alloc (by simp [d1, go_sem])
        have e2 : (((w3.setCell ⟨wo.heap.size, 1, none⟩ (.int .i64 qlo)).setCell ⟨wo.heap.size, 2, none⟩ (.int .i64 z)).alloc (.cells #[.int .i64 qlo, .int .i64 qhi] 46)).cell? ⟨wo.heap.size, 2, none⟩ = some (.int .i64 z) := cell_alloc (by simp [d2, go_sem])
        have e3 : (((w3.setCell ⟨wo.heap.size, 1, none⟩ (.int .i64 qlo)).setCell ⟨wo.heap.size, 2, none⟩ (.int .i64 z)).alloc (.cells #[.int .i64 qlo, .int .i64 qhi] 46)).cell? ⟨wo.heap.size, 3, none⟩ = some (.slice e1 xl.length m1) := cell_alloc (by simp [d3, go_sem])
        obtain ⟨w4, hw4⟩ : ∃ w4, w4 = (((w3.setCell ⟨wo.heap.size, 1, none⟩ (.int .i64 qlo)).setCell ⟨wo.heap.size, 2, none⟩ (.int .i64 z)).alloc (.cells #[.int .i64 qlo, .int .i64 qhi] 46)) := ⟨_, rfl⟩
        rw [← hw4] at hE hF e0 e1' e2 e3 ⊢
        have HO4 := Lib.hid (HO.out.below hE)
        have HB4 := Lib.hid hF
        have HIS : Hid (Els tupE w4 (fun j => some j = (Value.slice ao lk.length co).ownBlock) [⟨xv, qlo, z, xl⟩] [.slice a1 xv.length n1, .int .i64 qlo, .int .i64 z, .slice e1 xl.length m1]) := Lib.hid (Els.one ⟨_, _, rfl, ((HVV.out.old (Nat.le_refl _)).below HB4.out).mono (fun j _ hj => (HO4.out.lt j hj.symm).1), ((HLL.out.old (Nat.le_refl _)).below HB4.out).mono (fun j _ hj => (HO4.out.lt j hj.symm).1)⟩)
        clear hw4 hE hF d0 d1 d2 d3 f0 f1 f2 f3 HO3 HB3
        go_wp2_with (at_builtin; refine wpList_push rfl (.tmp 36) (.tmp 38) 24 rfl tupE Tryz.underlying24 w1.heap.size (.slice ao lk.length co) lk rfl HO4.out [⟨xv, qlo, z, xl⟩] #[.slice a1 xv.length n1, .int .i64 qlo, .int .i64 z, .slice e1 xl.length m1] HIS.out 1 1 rfl rfl (by decide) (by unfold maxLen; omega) (by show _ * 64 ≤ _; omega) HB4.out.size ?_; intro g cap w5 hP hPa)
        go_roundw
        case rel => exact ⟨k + 1, by omega, by go_num, by rw [HT'.out]; exact hP.own' (by simp), Lib.hid (HB4.out.trans hP.below)⟩
        case measure => simp [RowKit.intOf]; omega
    · have hkk : l.take k = l := List.take_of_length_le (by rw [← HN.out]; omega)
      rw [hkk] at hO
      obtain ⟨ao, co, rfl⟩ := hO.shape
      have HO := Lib.hid (hO.mono HB0.out.size)
      clear hO hkk
      go_wp2_with fail
      go_ret
      exact ⟨_, rfl, HO.out, HB0.out.trans (HB.out.mono HB0.out.size)⟩
end Go.Proofs.YtfmbbfidjcgeiaaGreatDoor

namespace Go.Proofs.YtfmbbfidjcgeiaaGreatDoor
open Go.RowKit Go.Lib

/-- All days read as laid. -/
def Days (w : World) : Prop := w.cell? ⟨0, 0, none⟩ = some (.int .i64 0) ∧ w.cell? ⟨0, 1, none⟩ = some (.int .i64 1000000)
theorem Days.below {w w' : World} (h : Days w) (hb : Below w.heap.size w w') : Days w' := ⟨cell_keep hb h.1, cell_keep hb h.2⟩
theorem clip_isect {lo hi : Int} (h0 : 0 ≤ lo) (h1 : lo < hi) (h2 : hi ≤ 1000000) : isOk lo hi 0 1000000 = true ∧ isLo lo hi 0 1000000 = lo ∧ isHi lo hi 0 1000000 = hi := by
  have h : isOk lo hi 0 1000000 = true := by
    rw [ext_ok]
    exact decide_eq_true ⟨pvalid_iff.2 ⟨h0, h1, by omega⟩, by omega⟩
  obtain ⟨e1, e2, _⟩ := ext_lohi h
  exact ⟨h, e1, by rw [e2]; omega⟩
theorem tups_atG {w : World} {G : Nat → Prop} {a : Option Addr} {n c k : Nat} {l : List Tup} {x : Tup} (h : Sl tupE w G (.slice a n c) l) (hk : l[k]? = some x) :
    ∃ b o a1 n1 e1 m1, a = some ⟨b, o, none⟩ ∧ Sl valE w G (.slice a1 x.vals.length n1) x.vals ∧ Sl intE w G (.slice e1 x.lin.length m1) x.lin ∧ w.cell? ⟨b, o + k * 4, none⟩ = some (.slice a1 x.vals.length n1) ∧ w.cell? ⟨b, o + k * 4 + 1, none⟩ = some (.int .i64 x.lo) ∧ w.cell? ⟨b, o + k * 4 + 2, none⟩ = some (.int .i64 x.hi) ∧ w.cell? ⟨b, o + k * 4 + 3, none⟩ = some (.slice e1 x.lin.length m1) := by
  obtain ⟨b, o, cs, ha, ⟨v, u, rfl, hv, hu⟩, hc⟩ := Sl.at h hk
  obtain ⟨a1, n1, rfl⟩ := hv.shape
  obtain ⟨e1, m1, rfl⟩ := hu.shape
  exact ⟨b, o, a1, n1, e1, m1, ha, hv, hu, hc 0 _ rfl, hc 1 _ rfl, hc 2 _ rfl, hc 3 _ rfl⟩
set_option maxHeartbeats 4000000 in
set_option maxRecDepth 100000 in
theorem clip_any (B0 : Nat) (v : Value) (l : List Tup) (w : World) (hB0 : B0 ≤ w.heap.size) (hv : Sl tupE w (fun k => B0 ≤ k) v l) (hl : l.length ≤ 100000) (hd : InDays l) (hD : Days w) :
    Calls Tryz.prog 15 #[v] w (RetOwn (tupE.avoid fun k => B0 ≤ k) w l) := by
  obtain ⟨a, c, rfl⟩ := hv.shape
  have h63 := hv.1
  have HV := Lib.hid hv
  obtain ⟨n, hn⟩ : ∃ n, n = l.length := ⟨_, rfl⟩
  have HN := Lib.hid hn
  have HID := Lib.hid hd
  have HDY := Lib.hid hD
  rw [← hn] at HV h63 hl ⊢
  clear hv hn hd hD
  go_enter Tryz.func15, Tryz.ntmps15
  go_wp2_with fail
  go_loopw [10, 3] (fun i o wr => ∃ k : Nat, k ≤ n ∧ i = .int .i64 k ∧ Own (tupE.avoid fun k => B0 ≤ k) wr w.heap.size o (l.take k) ∧ Hid (Below w.heap.size w wr)) (fun i _ _ => n - (RowKit.intOf i).toNat)
  case atStart => exact ⟨0, Nat.zero_le _, rfl, Own.nil _ _ _, Lib.hid (.refl _ _)⟩
  case round =>
    obtain ⟨k, hk, rfl, hO, HB⟩ := hrel
    obtain ⟨wo, rfl⟩ : ∃ wo : World, wo = wr := ⟨_, rfl⟩
    by_cases hlt : k < n
    · obtain ⟨x, hx⟩ := lget_some l k (by rw [← HN.out]; exact hlt)
      obtain ⟨b, o, a1, n1, e1, m1, rfl, hvv, hll, p0, p1, p2, p3⟩ := tups_atG HV.out hx
      replace p0 := cell_keep HB.out p0
      replace p1 := cell_keep HB.out p1
      replace p2 := cell_keep HB.out p2
      replace p3 := cell_keep HB.out p3
      have HT : Hid (l.take (k + 1) = l.take k ++ [x]) := Lib.hid (take_get hx)
      have hxd := HID.out x (List.mem_of_getElem? hx)
      have hlk : (l.take k).length ≤ 100000 := by rw [List.length_take]; omega
      obtain ⟨lk, hlke⟩ : ∃ lk, lk = l.take k := ⟨_, rfl⟩
      rw [← hlke] at hO HT hlk
      obtain ⟨ao, co, rfl⟩ := hO.shape
      have HO00 := Lib.hid hO
      obtain ⟨xv, xlo, xhi, xl⟩ := x
      dsimp only at p0 p1 p2 p3 hvv hll HT hxd
      have HI := fun W => Lib.hid (isect_any xlo xhi 0 1000000 W)
      obtain ⟨i1, i2, i3⟩ := clip_isect hxd.1 hxd.2.1 hxd.2.2
      rw [i1, i2, i3] at HI
      have HVV := Lib.hid hvv
      have HLL := Lib.hid hll
      have hg := World.alloc_heap_new wo (.cells #[.slice a1 xv.length n1, .int .i64 xlo, .int .i64 xhi, .slice e1 xl.length m1] 48)
      have HB1 : Hid (Below w.heap.size w (wo.alloc (.cells #[.slice a1 xv.length n1, .int .i64 xlo, .int .i64 xhi, .slice e1 xl.length m1] 48))) := Lib.hid (below_alloc_keep HB.out)
      obtain ⟨g0, g1⟩ := HDY.out.below HB1.out
      have HO1 := Lib.hid (hO.below (below_alloc wo (.cells #[.slice a1 xv.length n1, .int .i64 xlo, .int .i64 xhi, .slice e1 xl.length m1] 48)))
      have HG := Lib.hid hg
      clear hx hvv hll hO hlke hg i1 i2 i3
      go_wp2_with fail
      refine (HI _).out.mono ?_
      rintro _ w3 ⟨rfl, hb3⟩
      obtain ⟨⟨d0, d1, d2, d3⟩, f0, f1, f2, f3⟩ := box_four (box_kept HG.out hb3)
      have HB3 : Hid (Below w.heap.size w w3) := Lib.hid (below_keep HB1.out hb3)
      have HW3 : Hid (Below wo.heap.size wo w3) := Lib.hid (below_alloc2' hb3)
      have hsz : wo.heap.size < w3.heap.size := World.block_lt_of_cell? _ _ d0
      have HO0 := Lib.hid (HO1.out.below hb3)
      have hzo := HB.out.size
      clear hb3 HG HB1 HO1 HI g0 g1
      go_upto_region 8 with fail
      have hE : Below wo.heap.size wo (((w3.setCell ⟨wo.heap.size, 1, none⟩ (.int .i64 xlo)).setCell ⟨wo.heap.size, 2, none⟩ (.int .i64 xhi)).alloc (.cells #[.int .i64 xlo, .int .i64 xhi] 46)) := below_alloc_keep ((HW3.out.setCell (by exact Nat.le_refl _) _).setCell (by exact Nat.le_refl _) _)
      have hF : Below w.heap.size w (((w3.setCell ⟨wo.heap.size, 1, none⟩ (.int .i64 xlo)).setCell ⟨wo.heap.size, 2, none⟩ (.int .i64 xhi)).alloc (.cells #[.int .i64 xlo, .int .i64 xhi] 46)) := HB.out.trans (hE.mono HB.out.size)
      have e0 : (((w3.setCell ⟨wo.heap.size, 1, none⟩ (.int .i64 xlo)).setCell ⟨wo.heap.size, 2, none⟩ (.int .i64 xhi)).alloc (.cells #[.int .i64 xlo, .int .i64 xhi] 46)).cell? ⟨wo.heap.size, 0, none⟩ = some (.slice a1 xv.length n1) := cell_alloc (by simp [d0, go_sem])
      have e1' : (((w3.setCell ⟨wo.heap.size, 1, none⟩ (.int .i64 xlo)).setCell ⟨wo.heap.size, 2, none⟩ (.int .i64 xhi)).alloc (.cells #[.int .i64 xlo, .int .i64 xhi] 46)).cell? ⟨wo.heap.size, 1, none⟩ = some (.int .i64 xlo) := cell_alloc (by simp [d1, go_sem])
      have e2 : (((w3.setCell ⟨wo.heap.size, 1, none⟩ (.int .i64 xlo)).setCell ⟨wo.heap.size, 2, none⟩ (.int .i64 xhi)).alloc (.cells #[.int .i64 xlo, .int .i64 xhi] 46)).cell? ⟨wo.heap.size, 2, none⟩ = some (.int .i64 xhi) := cell_alloc (by simp [d2, go_sem])
      have e3 : (((w3.setCell ⟨wo.heap.size, 1, none⟩ (.int .i64 xlo)).setCell ⟨wo.heap.size, 2, none⟩ (.int .i64 xhi)).alloc (.cells #[.int .i64 xlo, .int .i64 xhi] 46)).cell? ⟨wo.heap.size, 3, none⟩ = some (.slice e1 xl.length m1) := cell_alloc (by simp [d3, go_sem])
      obtain ⟨w4, hw4⟩ : ∃ w4, w4 = (((w3.setCell ⟨wo.heap.size, 1, none⟩ (.int .i64 xlo)).setCell ⟨wo.heap.size, 2, none⟩ (.int .i64 xhi)).alloc (.cells #[.int .i64 xlo, .int .i64 xhi] 46)) := ⟨_, rfl⟩
      rw [← hw4] at hE hF e0 e1' e2 e3 ⊢
      have HO4 := Lib.hid (HO00.out.below hE)
      have HB4 := Lib.hid hF
      have HIS : Hid (Els (tupE.avoid fun k => B0 ≤ k) w4 (fun j => some j = (Value.slice ao lk.length co).ownBlock) [⟨xv, xlo, xhi, xl⟩] [.slice a1 xv.length n1, .int .i64 xlo, .int .i64 xhi, .slice e1 xl.length m1]) := Lib.hid (Els.one ⟨_, _, rfl, (HVV.out.below HB4.out).mono (fun j _ hj => hj.elim (fun hj => Nat.le_trans hB0 (HO4.out.lt j hj.symm).1) id), (HLL.out.below HB4.out).mono (fun j _ hj => hj.elim (fun hj => Nat.le_trans hB0 (HO4.out.lt j hj.symm).1) id)⟩)
      clear hw4 hE hF d0 d1 d2 d3 f0 f1 f2 f3 HO0 HB3
      go_wp2_with (at_builtin; refine wpList_push rfl (.tmp 24) (.tmp 26) 24 rfl (tupE.avoid fun k => B0 ≤ k) Tryz.underlying24 w.heap.size (.slice ao lk.length co) lk rfl HO4.out [⟨xv, xlo, xhi, xl⟩] #[.slice a1 xv.length n1, .int .i64 xlo, .int .i64 xhi, .slice e1 xl.length m1] HIS.out 1 1 rfl rfl (by decide) (by unfold maxLen; omega) (by show _ * 64 ≤ _; omega) HB4.out.size ?_; intro g cap w5 hP hPa)
      go_roundw
      case rel => exact ⟨k + 1, by omega, by go_num, by rw [HT.out]; exact hP.own' (by simp), Lib.hid (HB4.out.trans hP.below)⟩
      case measure => simp [RowKit.intOf]; omega
    · have hkk : l.take k = l := List.take_of_length_le (by rw [← HN.out]; omega)
      rw [hkk] at hO
      obtain ⟨ao, co, rfl⟩ := hO.shape
      have HO := Lib.hid hO
      clear hO hkk
      go_wp2_with fail
      go_ret
      exact ⟨_, rfl, HO.out, HB.out⟩
theorem project_none (v u : Value) (w : World) (a : Option Addr) (c : Nat) : Calls Tryz.prog 16 #[v, .slice a 0 c, u] w fun e w' => e = .returned (.slice none 0 0) ∧ w = w' := by
  go_enter Tryz.func16, Tryz.ntmps16
  go_wp2_with fail
  go_loopw [12, 7] (fun i o wr => i = .int .i64 0 ∧ o = .slice none 0 0 ∧ wr = w) (fun i _ _ => 0)
  case atStart => exact ⟨rfl, rfl, rfl⟩
  case round =>
    obtain ⟨rfl, rfl, rfl⟩ := hrel
    go_wp2_with fail
    go_ret
    exact ⟨rfl, rfl⟩
end Go.Proofs.YtfmbbfidjcgeiaaGreatDoor

namespace Go.Proofs.YtfmbbfidjcgeiaaGreatDoor
open Go.RowKit Go.Lib

/-- A value in a box of its own. -/
def BoxV (W : World) (b : Nat) (v : GVal) : Prop := W.heap[b]? = some (.cells #[.int .i64 v.kind, .int .i64 v.n, .string v.s] 40)
theorem BoxV.cells {W : World} {b : Nat} {v : GVal} (h : BoxV W b v) : (W.cell? ⟨b, 0, none⟩ = some (.int .i64 v.kind) ∧ W.cell? ⟨b, 1, none⟩ = some (.int .i64 v.n) ∧ W.cell? ⟨b, 2, none⟩ = some (.string v.s)) ∧ W.frozen? ⟨b, 0, none⟩ = false ∧ W.frozen? ⟨b, 1, none⟩ = false ∧ W.frozen? ⟨b, 2, none⟩ = false := box_three h
theorem BoxV.below {W W' : World} {b : Nat} {v : GVal} (h : BoxV W b v) (hb : Below W.heap.size W W') : BoxV W' b v := box_kept h hb
theorem BoxV.lt {W : World} {b : Nat} {v : GVal} (h : BoxV W b v) : b < W.heap.size := (Array.getElem?_eq_some_iff.1 h).1
theorem BoxV.set {W : World} {b : Nat} {v : GVal} (h : BoxV W b v) (y : GVal) : BoxV (((W.setCell ⟨b, 0, none⟩ (.int .i64 y.kind)).setCell ⟨b, 1, none⟩ (.int .i64 y.n)).setCell ⟨b, 2, none⟩ (.string y.s)) b y := by
  have h1 := heap_setCell_same W b 0 _ _ (.int .i64 y.kind) h
  have h2 := heap_setCell_same _ b 1 _ _ (.int .i64 y.n) h1
  have h3 := heap_setCell_same _ b 2 _ _ (.string y.s) h2
  exact h3
theorem heap_set3 {W : World} {k c : Nat} {o : Obj} (h : W.heap[k]? = some o) (hc : k ≠ c) (v0 v1 v2 : Value) : (((W.setCell ⟨c, 0, none⟩ v0).setCell ⟨c, 1, none⟩ v1).setCell ⟨c, 2, none⟩ v2).heap[k]? = some o := by
  rw [heap_setCell_other _ _ _ _ hc, heap_setCell_other _ _ _ _ hc, heap_setCell_other _ _ _ _ hc]
  exact h
theorem below_box3 {w W : World} {q : Nat} {u1 u2 u3 : Value} (h : Below w.heap.size w W) (h1 : w.heap.size ≤ q) : Below w.heap.size w (((W.setCell ⟨q, 0, none⟩ u1).setCell ⟨q, 1, none⟩ u2).setCell ⟨q, 2, none⟩ u3) :=
  ((h.setCell h1 _).setCell h1 _).setCell h1 _
theorem cmpG_three (a b : GVal) : cmpG a b = -1 ∨ cmpG a b = 0 ∨ cmpG a b = 1 := (sgn_val a b b).1
set_option maxHeartbeats 8000000 in
set_option maxRecDepth 100000 in
theorem minF_any (v : Value) (x0 : GVal) (l : List GVal) (w : World) (hv : Sl valE w free v (x0 :: l)) :
    Calls Tryz.prog 54 #[v, .func (.func 29) #[] #[]] w fun e w' => e = .returned (aggG (bestG (-1) x0 l)) ∧ Below w.heap.size w w' := by
  obtain ⟨a, c, rfl⟩ := hv.shape
  have h63 := hv.1
  obtain ⟨n, hn⟩ : ∃ n, n = (x0 :: l).length := ⟨_, rfl⟩
  have HV := Lib.hid hv
  have HN := Lib.hid hn
  rw [← hn] at HV h63 ⊢
  have h1 : 1 ≤ n := by rw [hn]; simp
  have h1I : ¬ (n : Int) < 1 := by omega
  have h1N : 0 < n := h1
  obtain ⟨b0, o0, rfl, p0, p1, p2⟩ := gv_at3 HV.out (show (x0 :: l)[0]? = some x0 from rfl)
  rw [Nat.zero_mul, Nat.add_zero] at p0 p1 p2
  have hz0 : b0 < w.heap.size := World.block_lt_of_cell? _ _ p0
  have hB0 : Below w.heap.size w ((w.alloc (.cells #[.int .i64 0, .int .i64 0, .string ⟨#[]⟩] 40)).alloc (.cells #[.int .i64 x0.kind, .int .i64 x0.n, .string x0.s] 40)) := below_alloc_two _ _ _
  have hr0 : BoxV ((w.alloc (.cells #[.int .i64 0, .int .i64 0, .string ⟨#[]⟩] 40)).alloc (.cells #[.int .i64 x0.kind, .int .i64 x0.n, .string x0.s] 40)) w.heap.size gnull := heap_alloc_old' _ _ _
  have hm0 : BoxV ((w.alloc (.cells #[.int .i64 0, .int .i64 0, .string ⟨#[]⟩] 40)).alloc (.cells #[.int .i64 x0.kind, .int .i64 x0.n, .string x0.s] 40)) (w.heap.size + 1) x0 := heap_alloc_new' _ _ _
  obtain ⟨w1, hw1⟩ : ∃ w1, w1 = (w.alloc (.cells #[.int .i64 0, .int .i64 0, .string ⟨#[]⟩] 40)).alloc (.cells #[.int .i64 x0.kind, .int .i64 x0.n, .string x0.s] 40) := ⟨_, rfl⟩
  obtain ⟨res, hres⟩ : ∃ res, res = bestG (-1) x0 l := ⟨_, rfl⟩
  rw [← hres]
  have HRES := Lib.hid hres
  clear hv hn hres
  go_enter Tryz.func54, Tryz.ntmps54
  go_wp2_with fail
  rw [← hw1] at hB0 hr0 hm0 ⊢
  have HB0 := Lib.hid hB0
  have HR0 := Lib.hid hr0
  have HM0 := Lib.hid hm0
  clear p0 p1 p2 hz0 hB0 hr0 hm0 hw1
  go_loopw [6] (fun i wr => ∃ (k : Nat) (b : GVal), 1 ≤ k ∧ k ≤ n ∧ i = .int .i64 (k : Int) ∧ Hid (bestG (-1) b ((x0 :: l).drop k) = res) ∧ Hid (Below w.heap.size w wr) ∧ Hid (BoxV wr w.heap.size gnull) ∧ Hid (BoxV wr (w.heap.size + 1) b)) (fun i _ => n - (intOf i).toNat)
  case atStart => exact ⟨1, x0, Nat.le_refl _, h1, rfl, Lib.hid HRES.out.symm, HB0, HR0, HM0⟩
  case round =>
    obtain ⟨k, b, hk1, hk, rfl, HR, HB, HX, HM⟩ := hrel
    obtain ⟨wo, rfl⟩ : ∃ wo : World, wo = wr := ⟨_, rfl⟩
    by_cases hlt : k < n
    · obtain ⟨x, hx⟩ := lget_some (x0 :: l) k (by rw [← HN.out]; exact hlt)
      obtain ⟨_, _, e0, p0, p1, p2⟩ := gv_at3 (HV.out.below HB.out) hx
      cases e0
      obtain ⟨⟨q0, q1, q2⟩, _⟩ := HM.out.cells
      have HS : Hid (bestG (-1) (if cmpG x b = -1 then x else b) ((x0 :: l).drop (k + 1)) = res) := Lib.hid (by
        have h := HR.out
        rw [drop_get hx] at h
        exact h)
      have hth := cmpG_three x b
      have HC := fun W => Lib.hid (valCmp_any x b W)
      generalize cmpG x b = r at HS HC hth
      have hkI : (k : Int) < (n : Int) := by omega
      clear hx HR HM0 HR0 HB0
      obtain ⟨xk, xn, xs⟩ := x
      obtain ⟨bk, bn, bs⟩ := b
      unfold aggG at HC
      dsimp only at HC p0 p1 p2 q0 q1 q2
      have hB := HB.out
      go_upto_region 7 with fail
      go_region_held3 (fun W => Below w.heap.size w W ∧ W.cell? ⟨b0, o0 + k * 3, none⟩ = some (.int .i64 xk) ∧ W.cell? ⟨b0, o0 + k * 3 + 1, none⟩ = some (.int .i64 xn) ∧ W.cell? ⟨b0, o0 + k * 3 + 2, none⟩ = some (.string xs) ∧ W.cell? ⟨w.heap.size + 1, 0, none⟩ = some (.int .i64 bk) ∧ W.cell? ⟨w.heap.size + 1, 1, none⟩ = some (.int .i64 bn) ∧ W.cell? ⟨w.heap.size + 1, 2, none⟩ = some (.string bs) ∧ BoxV W w.heap.size gnull ∧ BoxV W (w.heap.size + 1) ⟨bk, bn, bs⟩)
        ((go_split_ands; refine ⟨?_, ?_, ?_, ?_, ?_, ?_, ?_, ?_, ?_⟩ <;> (first | with_reducible assumption | with_reducible exact Below.drew (by assumption) | with_reducible exact cell_drew (by assumption) | with_reducible exact below_keep (by assumption) (by assumption) | with_reducible exact cell_keep (by assumption) (by assumption) | exact HX.out | exact HM.out | exact BoxV.below (by with_reducible assumption) (by with_reducible assumption))))
        (first | ((with_reducible refine (HC _).out.mono ?_); rintro _ w2 ⟨rfl, hb⟩))
      go_split_ands
      have HBF : Hid (Below w.heap.size w w2) := Lib.hid (by with_reducible assumption)
      have HXF : Hid (BoxV w2 w.heap.size gnull) := Lib.hid (by with_reducible assumption)
      have HMF : Hid (BoxV w2 (w.heap.size + 1) ⟨bk, bn, bs⟩) := Lib.hid (by with_reducible assumption)
      have k0 : w2.cell? ⟨b0, o0 + k * 3, none⟩ = some (.int .i64 xk) := by with_reducible assumption
      have k1 : w2.cell? ⟨b0, o0 + k * 3 + 1, none⟩ = some (.int .i64 xn) := by with_reducible assumption
      have k2 : w2.cell? ⟨b0, o0 + k * 3 + 2, none⟩ = some (.string xs) := by with_reducible assumption
      clear hb hB p0 p1 p2 q0 q1 q2 HB HX HM HC
      by_cases hr : r < 0
      · have hre : r = -1 := by omega
        have HS' : Hid (bestG (-1) ⟨xk, xn, xs⟩ ((x0 :: l).drop (k + 1)) = res) := Lib.hid (by rw [← HS.out, if_pos hre])
        obtain ⟨⟨m0, m1, m2⟩, f0, f1, f2⟩ := HMF.out.cells
        have hbw : b0 < w2.heap.size := World.block_lt_of_cell? _ _ k0
        have HMN := Lib.hid (HMF.out.set ⟨xk, xn, xs⟩)
        have HXN := Lib.hid (heap_set3 HXF.out (show w.heap.size ≠ w.heap.size + 1 by omega) (.int .i64 xk) (.int .i64 xn) (.string xs))
        have HBN := Lib.hid (below_box3 (q := w.heap.size + 1) (u1 := .int .i64 xk) (u2 := .int .i64 xn) (u3 := .string xs) HBF.out (Nat.le_succ _))
        clear hre HS hth
        go_wp2_with fail
        go_roundw
        case rel => exact ⟨k + 1, ⟨xk, xn, xs⟩, by omega, by omega, by go_num, HS', HBN, HXN, HMN⟩
        case measure => simp [intOf]; omega
      · have hre : r ≠ -1 := by omega
        have HS' : Hid (bestG (-1) ⟨bk, bn, bs⟩ ((x0 :: l).drop (k + 1)) = res) := Lib.hid (by rw [← HS.out, if_neg hre])
        clear hre HS hth k0 k1 k2
        go_wp2_with fail
        go_roundw
        case rel => exact ⟨k + 1, ⟨bk, bn, bs⟩, by omega, by omega, by go_num, HS', HBF, HXF, HMF⟩
        case measure => simp [intOf]; omega
    · have HRB : Hid (b = res) := Lib.hid (by
        have h := HR.out
        rw [List.drop_of_length_le (by rw [← HN.out]; omega)] at h
        exact h)
      obtain ⟨⟨m0, m1, m2⟩, _⟩ := HM.out.cells
      obtain ⟨⟨r0, r1, r2⟩, f0, f1, f2⟩ := HX.out.cells
      have hzz : w.heap.size < wo.heap.size := HX.out.lt
      clear HR HX HM HM0 HR0 HB0
      go_wp2_with fail
      refine bodyPost_ret (v := aggG b) (by simp [aggG, gnull, results, Tryz.results54, go_sem, r0, r1, r2]) rfl ⟨by rw [HRB.out], ?_⟩
      exact below_box3 HB.out (Nat.le_refl _)
set_option maxHeartbeats 8000000 in
set_option maxRecDepth 100000 in
theorem maxF_any (v : Value) (x0 : GVal) (l : List GVal) (w : World) (hv : Sl valE w free v (x0 :: l)) :
    Calls Tryz.prog 55 #[v, .func (.func 29) #[] #[]] w fun e w' => e = .returned (aggG (bestG (1) x0 l)) ∧ Below w.heap.size w w' := by
  obtain ⟨a, c, rfl⟩ := hv.shape
  have h63 := hv.1
  obtain ⟨n, hn⟩ : ∃ n, n = (x0 :: l).length := ⟨_, rfl⟩
  have HV := Lib.hid hv
  have HN := Lib.hid hn
  rw [← hn] at HV h63 ⊢
  have h1 : 1 ≤ n := by rw [hn]; simp
  have h1I : ¬ (n : Int) < 1 := by omega
  have h1N : 0 < n := h1
  obtain ⟨b0, o0, rfl, p0, p1, p2⟩ := gv_at3 HV.out (show (x0 :: l)[0]? = some x0 from rfl)
  rw [Nat.zero_mul, Nat.add_zero] at p0 p1 p2
  have hz0 : b0 < w.heap.size := World.block_lt_of_cell? _ _ p0
  have hB0 : Below w.heap.size w ((w.alloc (.cells #[.int .i64 0, .int .i64 0, .string ⟨#[]⟩] 40)).alloc (.cells #[.int .i64 x0.kind, .int .i64 x0.n, .string x0.s] 40)) := below_alloc_two _ _ _
  have hr0 : BoxV ((w.alloc (.cells #[.int .i64 0, .int .i64 0, .string ⟨#[]⟩] 40)).alloc (.cells #[.int .i64 x0.kind, .int .i64 x0.n, .string x0.s] 40)) w.heap.size gnull := heap_alloc_old' _ _ _
  have hm0 : BoxV ((w.alloc (.cells #[.int .i64 0, .int .i64 0, .string ⟨#[]⟩] 40)).alloc (.cells #[.int .i64 x0.kind, .int .i64 x0.n, .string x0.s] 40)) (w.heap.size + 1) x0 := heap_alloc_new' _ _ _
  obtain ⟨w1, hw1⟩ : ∃ w1, w1 = (w.alloc (.cells #[.int .i64 0, .int .i64 0, .string ⟨#[]⟩] 40)).alloc (.cells #[.int .i64 x0.kind, .int .i64 x0.n, .string x0.s] 40) := ⟨_, rfl⟩
  obtain ⟨res, hres⟩ : ∃ res, res = bestG (1) x0 l := ⟨_, rfl⟩
  rw [← hres]
  have HRES := Lib.hid hres
  clear hv hn hres
  go_enter Tryz.func55, Tryz.ntmps55
  go_wp2_with fail
  rw [← hw1] at hB0 hr0 hm0 ⊢
  have HB0 := Lib.hid hB0
  have HR0 := Lib.hid hr0
  have HM0 := Lib.hid hm0
  clear p0 p1 p2 hz0 hB0 hr0 hm0 hw1
  go_loopw [6] (fun i wr => ∃ (k : Nat) (b : GVal), 1 ≤ k ∧ k ≤ n ∧ i = .int .i64 (k : Int) ∧ Hid (bestG (1) b ((x0 :: l).drop k) = res) ∧ Hid (Below w.heap.size w wr) ∧ Hid (BoxV wr w.heap.size gnull) ∧ Hid (BoxV wr (w.heap.size + 1) b)) (fun i _ => n - (intOf i).toNat)
  case atStart => exact ⟨1, x0, Nat.le_refl _, h1, rfl, Lib.hid HRES.out.symm, HB0, HR0, HM0⟩
  case round =>
    obtain ⟨k, b, hk1, hk, rfl, HR, HB, HX, HM⟩ := hrel
    obtain ⟨wo, rfl⟩ : ∃ wo : World, wo = wr := ⟨_, rfl⟩
    by_cases hlt : k < n
    · obtain ⟨x, hx⟩ := lget_some (x0 :: l) k (by rw [← HN.out]; exact hlt)
      obtain ⟨_, _, e0, p0, p1, p2⟩ := gv_at3 (HV.out.below HB.out) hx
      cases e0
      obtain ⟨⟨q0, q1, q2⟩, _⟩ := HM.out.cells
      have HS : Hid (bestG (1) (if cmpG x b = 1 then x else b) ((x0 :: l).drop (k + 1)) = res) := Lib.hid (by
        have h := HR.out
        rw [drop_get hx] at h
        exact h)
      have hth := cmpG_three x b
      have HC := fun W => Lib.hid (valCmp_any x b W)
      generalize cmpG x b = r at HS HC hth
      have hkI : (k : Int) < (n : Int) := by omega
      clear hx HR HM0 HR0 HB0
      obtain ⟨xk, xn, xs⟩ := x
      obtain ⟨bk, bn, bs⟩ := b
      unfold aggG at HC
      dsimp only at HC p0 p1 p2 q0 q1 q2
      have hB := HB.out
      go_upto_region 7 with fail
      go_region_held3 (fun W => Below w.heap.size w W ∧ W.cell? ⟨b0, o0 + k * 3, none⟩ = some (.int .i64 xk) ∧ W.cell? ⟨b0, o0 + k * 3 + 1, none⟩ = some (.int .i64 xn) ∧ W.cell? ⟨b0, o0 + k * 3 + 2, none⟩ = some (.string xs) ∧ W.cell? ⟨w.heap.size + 1, 0, none⟩ = some (.int .i64 bk) ∧ W.cell? ⟨w.heap.size + 1, 1, none⟩ = some (.int .i64 bn) ∧ W.cell? ⟨w.heap.size + 1, 2, none⟩ = some (.string bs) ∧ BoxV W w.heap.size gnull ∧ BoxV W (w.heap.size + 1) ⟨bk, bn, bs⟩)
        ((go_split_ands; refine ⟨?_, ?_, ?_, ?_, ?_, ?_, ?_, ?_, ?_⟩ <;> (first | with_reducible assumption | with_reducible exact Below.drew (by assumption) | with_reducible exact cell_drew (by assumption) | with_reducible exact below_keep (by assumption) (by assumption) | with_reducible exact cell_keep (by assumption) (by assumption) | exact HX.out | exact HM.out | exact BoxV.below (by with_reducible assumption) (by with_reducible assumption))))
        (first | ((with_reducible refine (HC _).out.mono ?_); rintro _ w2 ⟨rfl, hb⟩))
      go_split_ands
      have HBF : Hid (Below w.heap.size w w2) := Lib.hid (by with_reducible assumption)
      have HXF : Hid (BoxV w2 w.heap.size gnull) := Lib.hid (by with_reducible assumption)
      have HMF : Hid (BoxV w2 (w.heap.size + 1) ⟨bk, bn, bs⟩) := Lib.hid (by with_reducible assumption)
      have k0 : w2.cell? ⟨b0, o0 + k * 3, none⟩ = some (.int .i64 xk) := by with_reducible assumption
      have k1 : w2.cell? ⟨b0, o0 + k * 3 + 1, none⟩ = some (.int .i64 xn) := by with_reducible assumption
      have k2 : w2.cell? ⟨b0, o0 + k * 3 + 2, none⟩ = some (.string xs) := by with_reducible assumption
      clear hb hB p0 p1 p2 q0 q1 q2 HB HX HM HC
      by_cases hr : r > 0
      · have hre : r = 1 := by omega
        have HS' : Hid (bestG (1) ⟨xk, xn, xs⟩ ((x0 :: l).drop (k + 1)) = res) := Lib.hid (by rw [← HS.out, if_pos hre])
        obtain ⟨⟨m0, m1, m2⟩, f0, f1, f2⟩ := HMF.out.cells
        have hbw : b0 < w2.heap.size := World.block_lt_of_cell? _ _ k0
        have HMN := Lib.hid (HMF.out.set ⟨xk, xn, xs⟩)
        have HXN := Lib.hid (heap_set3 HXF.out (show w.heap.size ≠ w.heap.size + 1 by omega) (.int .i64 xk) (.int .i64 xn) (.string xs))
        have HBN := Lib.hid (below_box3 (q := w.heap.size + 1) (u1 := .int .i64 xk) (u2 := .int .i64 xn) (u3 := .string xs) HBF.out (Nat.le_succ _))
        clear hre HS hth
        go_wp2_with fail
        go_roundw
        case rel => exact ⟨k + 1, ⟨xk, xn, xs⟩, by omega, by omega, by go_num, HS', HBN, HXN, HMN⟩
        case measure => simp [intOf]; omega
      · have hre : r ≠ 1 := by omega
        have HS' : Hid (bestG (1) ⟨bk, bn, bs⟩ ((x0 :: l).drop (k + 1)) = res) := Lib.hid (by rw [← HS.out, if_neg hre])
        clear hre HS hth k0 k1 k2
        go_wp2_with fail
        go_roundw
        case rel => exact ⟨k + 1, ⟨bk, bn, bs⟩, by omega, by omega, by go_num, HS', HBF, HXF, HMF⟩
        case measure => simp [intOf]; omega
    · have HRB : Hid (b = res) := Lib.hid (by
        have h := HR.out
        rw [List.drop_of_length_le (by rw [← HN.out]; omega)] at h
        exact h)
      obtain ⟨⟨m0, m1, m2⟩, _⟩ := HM.out.cells
      obtain ⟨⟨r0, r1, r2⟩, f0, f1, f2⟩ := HX.out.cells
      have hzz : w.heap.size < wo.heap.size := HX.out.lt
      clear HR HX HM HM0 HR0 HB0
      go_wp2_with fail
      refine bodyPost_ret (v := aggG b) (by simp [aggG, gnull, results, Tryz.results55, go_sem, r0, r1, r2]) rfl ⟨by rw [HRB.out], ?_⟩
      exact below_box3 HB.out (Nat.le_refl _)
end Go.Proofs.YtfmbbfidjcgeiaaGreatDoor

namespace Go.Proofs.YtfmbbfidjcgeiaaGreatDoor
open Go

section
variable {P : Program} {md : Region.Mode} {ops : Array Oper} {Q : Exit → Act → World → Prop} {S : World → Prop}
theorem take_n {i : Nat} {d : Option Tmp} {fuel : Nat} {listed : Array Bool} {a : Act} {w : World} (hi : (ops[i]?).map (·.dst) = some d)
    (hw : (ops[i]?).map (fun o => Region.wanted o (yielded ops a.tmps)) = some false)
    (hs : Region.noSelect ops = true) (hf : Region.free md ops listed i = true) (hr : (Region.ready md ops listed).contains i = true)
    (hQ : ∀ c a w, Q (.panic c) (a.put d undef) w → Q (.panic c) a w) (hS : S w)
    (h : wpAnyH P md ops Q S fuel (listed.setIfInBounds i true) (a.put d undef) w) : wpAnyH P md ops Q S (fuel + 1) listed a w := by
  cases ho : ops[i]? with
  | none => rw [ho] at hi; cases hi
  | some o =>
    rw [ho] at hi hw
    simp only [Option.map_some, Option.some.injEq] at hi hw
    subst hi
    exact wpAnyH_take ho hs hf hr hQ (Or.inr ⟨hw, rfl⟩) hS h
theorem take_y {i : Nat} {d : Option Tmp} {v : Value} {fuel : Nat} {listed : Array Bool} {a : Act} {w : World} (hi : (ops[i]?).map (·.dst) = some d)
    (hw : (ops[i]?).map (fun o => Region.wanted o (yielded ops a.tmps)) = some true)
    (hs : Region.noSelect ops = true) (hf : Region.free md ops listed i = true) (hr : (Region.ready md ops listed).contains i = true)
    (hQ : ∀ c a w, Q (.panic c) (a.put d v) w → Q (.panic c) a w) (hS : S w)
    (hy : ∀ o, ops[i]? = some o → ∀ w, S w → (execOp a.eval o).run P w = .ok (.value v) w)
    (h : wpAnyH P md ops Q S fuel (listed.setIfInBounds i true) (a.put d v) w) : wpAnyH P md ops Q S (fuel + 1) listed a w := by
  cases ho : ops[i]? with
  | none => rw [ho] at hi; cases hi
  | some o =>
    rw [ho] at hi hw
    simp only [Option.map_some, Option.some.injEq] at hi hw
    subst hi
    exact wpAnyH_take ho hs hf hr hQ (Or.inl ⟨hw, hy o ho⟩) hS h
end
end Go.Proofs.YtfmbbfidjcgeiaaGreatDoor

namespace Go.Proofs.YtfmbbfidjcgeiaaGreatDoor
open Go.RowKit Go.Lib

/-- The two halves of a sum. -/
def hiW (s : Int) : Int := s / 18446744073709551616
def loW (s : Int) : Int := s % 18446744073709551616
def wideV (s : Int) : Value := .agg #[.int .i64 (hiW s), .int .u64 (loW s)]
def nodeV (d : Nd) : Value := .agg #[.int .i64 (hiW d.s), .int .u64 (loW d.s), .int .i64 d.mn, .int .i64 d.mx]
theorem u64_wrap (n : Int) : IntKind.u64.wrap n = loW n := by unfold loW; simp [IntKind.wrap, IntKind.bits, IntKind.signed]
theorem hiW_small {n : Int} (hn : -9223372036854775808 ≤ n ∧ n ≤ 9223372036854775807) : n / 9223372036854775808 = hiW n := by unfold hiW; omega
set_option maxHeartbeats 1000000 in
theorem widen_any (n : Int) (hn : -9223372036854775808 ≤ n ∧ n ≤ 9223372036854775807) (w : World) : Calls Tryz.prog 78 #[.int .i64 n] w fun e w' => e = .returned (wideV n) ∧ Below w.heap.size w w' := by
  have H1 := Lib.hid (u64_wrap n)
  have H2 := Lib.hid (hiW_small hn)
  go_enter Tryz.func78, Tryz.ntmps78
  go_wp2_with fail
  refine bodyPost_ret (v := wideV n) ?_ rfl ⟨rfl, ?_⟩
  · unfold wideV
    rw [← H1.out, ← H2.out]
    simp [results, Tryz.results78, go_sem]
  · exact below_alloc _ _
theorem run_bits_add (x y : Nat) (w : World) : (callFunc 123 #[.int .u64 (x : Int), .int .u64 (y : Int), .int .u64 0]).run Tryz.prog w = .ok (.value (.tuple #[.int .u64 (loW (x + y)), .int .u64 (hiW (x + y))])) w := by
  have h := run_callFunc_extern (P := Tryz.prog) Tryz.func123 (by kernel_rfl) (by kernel_rfl) (by kernel_rfl) (e := add64Entry) (by kernel_rfl) #[.int .u64 (x : Int), .int .u64 (y : Int), .int .u64 0] w
  rw [run_add64 (x : Int) (y : Int) 0 (by omega) (by omega) (by omega) (by omega)] at h
  simp only [Result.andThen, Int.add_zero] at h
  exact h
theorem lo_plus (s t : Int) : loW (loW s + loW t) = loW (s + t) := by unfold loW; omega
theorem hi_plus (s t : Int) : hiW s + hiW t + hiW (loW s + loW t) = hiW (s + t) := by unfold loW hiW; omega
/-- A sum that fits by far. -/
def Wok (s : Int) : Prop := -1329227995784915872903807060280344576 ≤ s ∧ s ≤ 1329227995784915872903807060280344576
theorem hi_bound {s : Int} (h : Wok s) : -72057594037927936 ≤ hiW s ∧ hiW s ≤ 72057594037927936 := by unfold Wok at h; unfold hiW; omega
theorem hi_carry (s t : Int) : hiW (loW s + loW t) = 0 ∨ hiW (loW s + loW t) = 1 := by unfold loW hiW; omega
set_option maxHeartbeats 1000000 in
theorem plus_any (s t : Int) (hs : Wok s) (ht : Wok t) (w : World) : Calls Tryz.prog 79 #[wideV s, wideV t] w fun e w' => e = .returned (wideV (s + t)) ∧ Below w.heap.size w w' := by
  unfold wideV
  have hbs := hi_bound hs
  have hbt := hi_bound ht
  have hcc := hi_carry s t
  have hsum := hi_plus s t
  have hlo := lo_plus s t
  obtain ⟨a, ha⟩ : ∃ a, a = hiW s := ⟨_, rfl⟩
  obtain ⟨b, hb⟩ : ∃ b, b = hiW t := ⟨_, rfl⟩
  obtain ⟨x, hx⟩ : ∃ x : Nat, (x : Int) = loW s := ⟨(loW s).toNat, by unfold loW; omega⟩
  obtain ⟨y, hy⟩ : ∃ y : Nat, (y : Int) = loW t := ⟨(loW t).toNat, by unfold loW; omega⟩
  have HRN := fun w => run_bits_add x y w
  obtain ⟨c, hc⟩ : ∃ c, c = hiW ((x : Int) + y) := ⟨_, rfl⟩
  obtain ⟨l, hl⟩ : ∃ l, l = loW ((x : Int) + y) := ⟨_, rfl⟩
  rw [← hc, ← hl] at HRN
  rw [← hx, ← hy] at hcc hsum hlo ⊢
  rw [← hc] at hcc hsum
  rw [← hl] at hlo
  rw [← ha, ← hb] at hsum ⊢
  rw [← ha] at hbs
  rw [← hb] at hbt
  generalize hiW (s + t) = u at hsum ⊢
  generalize loW (s + t) = v at hlo ⊢
  have HRU := Lib.hid HRN
  clear HRN
  subst hlo
  subst hsum
  have h1 : -9223372036854775808 ≤ a + b ∧ a + b ≤ 9223372036854775807 := by omega
  have h2 : 0 ≤ c := by omega
  have h3 : c ≤ 1 := by omega
  clear hs ht ha hb hx hy hc hl hcc
  go_enter Tryz.func79, Tryz.ntmps79
  go_wp2_with (simp only [HRU.out])
  clear HRU
  refine bodyPost_ret (v := .agg #[.int .i64 (a + b + c), .int .u64 l]) (by simp [results, Tryz.results79, go_sem]) rfl ⟨rfl, ?_⟩
  exact ((below_alloc _ _).alloc (by simp) _).alloc (by simp; omega) _
def In64B (n : Int) : Bool := decide (-9223372036854775808 ≤ n) && decide (n ≤ 9223372036854775807)
theorem wide_back (s : Int) : IntKind.i64.wrap (loW s) = s - 18446744073709551616 * (if loW s < 9223372036854775808 then hiW s else hiW s + 1) := by
  rw [IntKind.wrap_i64]; unfold loW hiW; split <;> omega
set_option maxHeartbeats 1000000 in
/-- The low half as a number, and whether the sum is that number. -/
theorem int64_any (s : Int) (w : World) : Calls Tryz.prog 52 #[wideV s] w fun e w' => ∃ n : Int, e = .returned (.tuple #[.int .i64 n, .bool (In64B s)]) ∧ (In64B s = true → n = s) ∧ Below w.heap.size w w' := by
  unfold wideV
  obtain ⟨a, ha⟩ : ∃ a, a = hiW s := ⟨_, rfl⟩
  obtain ⟨x, hx⟩ : ∃ x, x = loW s := ⟨_, rfl⟩
  obtain ⟨n, hn⟩ : ∃ n, n = IntKind.i64.wrap (loW s) := ⟨_, rfl⟩
  have HQ : Hid ((a == n / 9223372036854775808) = In64B s) := Lib.hid (by
    rw [hn, IntKind.wrap_i64, ha]
    unfold loW hiW In64B
    rw [Bool.eq_iff_iff]
    simp
    omega)
  have HN : Hid (In64B s = true → n = s) := Lib.hid (fun h => by
    rw [hn, IntKind.wrap_i64]
    unfold loW
    unfold In64B at h
    simp at h
    omega)
  have HW : Hid (wrap64 x = n) := Lib.hid (by rw [hx, hn, IntKind.wrap_i64]; unfold wrap64; rfl)
  rw [← ha, ← hx]
  generalize In64B s = q at HQ HN ⊢
  clear ha hx hn
  go_enter Tryz.func52, Tryz.ntmps52
  go_wp2_with fail
  rw [HW.out]
  go_region
  all_goals (
    go_wp2_with fail
    go_ret2
    refine ⟨n, ?_, HN.out, (below_alloc _ _).drew⟩
    first | rfl | (rw [HQ.out]; rfl))
theorem In64B_iff {s : Int} : In64B s = true ↔ -9223372036854775808 ≤ s ∧ s ≤ 9223372036854775807 := by unfold In64B; simp
theorem box4 {w : World} {g : Nat} {x y z u : Value} {e : TypeId} (h : w.heap[g]? = some (.cells #[x, y, z, u] e (0, 0))) :
    (w.cell? ⟨g, 0, none⟩ = some x ∧ w.cell? ⟨g, 1, none⟩ = some y ∧ w.cell? ⟨g, 2, none⟩ = some z ∧ w.cell? ⟨g, 3, none⟩ = some u) ∧
    w.frozen? ⟨g, 0, none⟩ = false ∧ w.frozen? ⟨g, 1, none⟩ = false ∧ w.frozen? ⟨g, 2, none⟩ = false ∧ w.frozen? ⟨g, 3, none⟩ = false := by
  refine ⟨⟨?_, ?_, ?_, ?_⟩, ?_, ?_, ?_, ?_⟩ <;> simp [World.cell?, World.frozen?, h]
set_option maxHeartbeats 1000000 in
theorem leaf_any (n : Int) (hn : -9223372036854775808 ≤ n ∧ n ≤ 9223372036854775807) (w : World) : Calls Tryz.prog 49 #[.int .i64 n] w fun e w' => e = .returned (nodeV (leafN n)) ∧ Below w.heap.size w w' := by
  have HW := fun W => Lib.hid (widen_any n hn W)
  unfold nodeV leafN wideV at *
  dsimp only at *
  generalize hiW n = a at *
  generalize loW n = b at *
  have hbx := heap_alloc_new w (.cells #[.int .i64 0, .int .u64 0, .int .i64 0, .int .i64 0] 117)
  go_enter Tryz.func49, Tryz.ntmps49
  go_wp2_with fail
  refine (HW _).out.mono ?_
  rintro _ w1 ⟨rfl, hb⟩
  obtain ⟨⟨x0, x1, x2, x3⟩, y0, y1, y2, y3⟩ := box4 (box_kept hbx hb)
  have HB := Lib.hid (below_alloc2' hb)
  have hz : w.heap.size < w1.heap.size := World.block_lt_of_cell? _ _ x0
  clear hb HW hbx
  go_wp2_with fail
  refine bodyPost_ret (v := .agg #[.int .i64 a, .int .u64 b, .int .i64 n, .int .i64 n]) (by simp [results, Tryz.results49, go_sem, x0, x1, x2, x3]) rfl ⟨rfl, ?_⟩
  exact below_set4 HB.out (Nat.le_refl _) (Nat.le_refl _) (Nat.le_refl _) (Nat.le_refl _)
theorem heap3_0 (w : World) (c1 c2 c3 : Obj) : (((w.alloc c1).alloc c2).alloc c3).heap[w.heap.size]? = some c1 :=
  (Below.heap_alloc _ _ _ (by simp; omega)).trans ((Below.heap_alloc _ _ _ (by simp)).trans (heap_alloc_new w c1))
theorem heap3_1 (w : World) (c1 c2 c3 : Obj) : (((w.alloc c1).alloc c2).alloc c3).heap[w.heap.size + 1]? = some c2 :=
  (Below.heap_alloc _ _ _ (by simp)).trans (by simpa using heap_alloc_new (w.alloc c1) c2)
theorem heap3_2 (w : World) (c1 c2 c3 : Obj) : (((w.alloc c1).alloc c2).alloc c3).heap[w.heap.size + 1 + 1]? = some c3 := by
  simpa using heap_alloc_new ((w.alloc c1).alloc c2) c3
theorem bel3 (w : World) (c1 c2 c3 : Obj) : Below w.heap.size w (((w.alloc c1).alloc c2).alloc c3) := ((below_alloc _ _).alloc (by simp) _).alloc (by simp; omega) _
set_option maxHeartbeats 4000000 in
theorem merge_node (x y : Nd) (hx : Wok x.s) (hy : Wok y.s) (w : World) : Calls Tryz.prog 50 #[nodeV x, nodeV y] w fun e w' => e = .returned (nodeV (mergeN x y)) ∧ Below w.heap.size w w' := by
  obtain ⟨s, m, n⟩ := x
  obtain ⟨t, m', n'⟩ := y
  have HW := fun W => Lib.hid (plus_any s t hx hy W)
  unfold nodeV mergeN wideV at *
  dsimp only at *
  generalize hiW s = a at *
  generalize loW s = b at *
  generalize hiW t = a' at *
  generalize loW t = b' at *
  generalize hiW (s + t) = c at *
  generalize loW (s + t) = d at *
  have g0 := heap3_0 w (.cells #[.int .i64 a, .int .u64 b, .int .i64 m, .int .i64 n] 117) (.cells #[.int .i64 a', .int .u64 b', .int .i64 m', .int .i64 n'] 117) (.cells #[.int .i64 0, .int .u64 0, .int .i64 0, .int .i64 0] 117)
  have g1 := heap3_1 w (.cells #[.int .i64 a, .int .u64 b, .int .i64 m, .int .i64 n] 117) (.cells #[.int .i64 a', .int .u64 b', .int .i64 m', .int .i64 n'] 117) (.cells #[.int .i64 0, .int .u64 0, .int .i64 0, .int .i64 0] 117)
  have g2 := heap3_2 w (.cells #[.int .i64 a, .int .u64 b, .int .i64 m, .int .i64 n] 117) (.cells #[.int .i64 a', .int .u64 b', .int .i64 m', .int .i64 n'] 117) (.cells #[.int .i64 0, .int .u64 0, .int .i64 0, .int .i64 0] 117)
  have hB := bel3 w (.cells #[.int .i64 a, .int .u64 b, .int .i64 m, .int .i64 n] 117) (.cells #[.int .i64 a', .int .u64 b', .int .i64 m', .int .i64 n'] 117) (.cells #[.int .i64 0, .int .u64 0, .int .i64 0, .int .i64 0] 117)
  clear hx hy
  go_enter Tryz.func50, Tryz.ntmps50
  go_upto_region 1 with fail
  obtain ⟨w0, hw0⟩ : ∃ w0, w0 = ((w.alloc (.cells #[.int .i64 a, .int .u64 b, .int .i64 m, .int .i64 n] 117)).alloc (.cells #[.int .i64 a', .int .u64 b', .int .i64 m', .int .i64 n'] 117)).alloc (.cells #[.int .i64 0, .int .u64 0, .int .i64 0, .int .i64 0] 117) := ⟨_, rfl⟩
  rw [← hw0] at g0 g1 g2 hB ⊢
  obtain ⟨⟨x0, x1, x2, x3⟩, _⟩ := box4 g0
  obtain ⟨⟨y0, y1, y2, y3⟩, _⟩ := box4 g1
  obtain ⟨⟨z0, z1, z2, z3⟩, u0, u1, u2, u3⟩ := box4 g2
  clear hw0 g0 g1 g2
  have v0 := vAt_of z0
  have v1 := vAt_of z1
  have v2 := vAt_of z2
  have v3 := vAt_of z3
  clear z0 z1 z2 z3
  refine wp_region_held_drew (S := fun W => Below w.heap.size w W ∧ W.cell? ⟨w.heap.size, 0, none⟩ = some (.int .i64 a) ∧ W.cell? ⟨w.heap.size, 1, none⟩ = some (.int .u64 b) ∧ W.cell? ⟨w.heap.size, 2, none⟩ = some (.int .i64 m) ∧ W.cell? ⟨w.heap.size, 3, none⟩ = some (.int .i64 n) ∧ W.cell? ⟨w.heap.size + 1, 0, none⟩ = some (.int .i64 a') ∧ W.cell? ⟨w.heap.size + 1, 1, none⟩ = some (.int .u64 b') ∧ W.cell? ⟨w.heap.size + 1, 2, none⟩ = some (.int .i64 m') ∧ W.cell? ⟨w.heap.size + 1, 3, none⟩ = some (.int .i64 n') ∧ W.cell? ⟨w.heap.size + 1 + 1, 0, none⟩ = some (vAt W ⟨w.heap.size + 1 + 1, 0, none⟩) ∧ W.cell? ⟨w.heap.size + 1 + 1, 1, none⟩ = some (vAt W ⟨w.heap.size + 1 + 1, 1, none⟩) ∧ W.cell? ⟨w.heap.size + 1 + 1, 2, none⟩ = some (vAt W ⟨w.heap.size + 1 + 1, 2, none⟩) ∧ W.cell? ⟨w.heap.size + 1 + 1, 3, none⟩ = some (vAt W ⟨w.heap.size + 1 + 1, 3, none⟩) ∧ W.frozen? ⟨w.heap.size + 1 + 1, 0, none⟩ = false ∧ W.frozen? ⟨w.heap.size + 1 + 1, 1, none⟩ = false ∧ W.frozen? ⟨w.heap.size + 1 + 1, 2, none⟩ = false ∧ W.frozen? ⟨w.heap.size + 1 + 1, 3, none⟩ = false) (by kernel_rfl) ?_ (fun hHeld => ?_)
  · (try dsimp only)
    (go_split_ands; refine ⟨?_, ?_, ?_, ?_, ?_, ?_, ?_, ?_, ?_, ?_, ?_, ?_, ?_, ?_, ?_, ?_, ?_⟩ <;> (first | with_reducible assumption | with_reducible exact Below.drew (by assumption) | with_reducible exact vAt_drew (by assumption) | with_reducible exact cell_drew (by assumption) | with_reducible exact frozen_drew (by assumption) | with_reducible exact below_keep (by assumption) (by assumption) | with_reducible exact vAt_keep (by assumption) (by assumption) | with_reducible exact cell_keep (by assumption) (by assumption) | with_reducible exact frozen_keep (by assumption) (by assumption) (by assumption) | exact below_set4 (by with_reducible assumption) (by dsimp only; omega) (by dsimp only; omega) (by dsimp only; omega) (by dsimp only; omega) | exact vAt_set4 (by with_reducible assumption) | exact cell_set4 (by with_reducible assumption) (by dsimp only; omega) rfl rfl rfl | exact frozen_set4 (by with_reducible assumption)))
  refine take_y (i := 0) (d := some 5) (v := ?_) rfl rfl (by kernel_rfl) (by kernel_rfl) (by kernel_rfl) (fun _ _ _ h => h) (by assumption) ?_ ?_
  rotate_left
  · intro oi ho
    simp only [List.getElem?_toArray, List.getElem?_cons_zero, Option.some.injEq] at ho
    subst ho
    intro w hSw
    (try dsimp only at hSw)
    go_simp
    (try with_reducible rfl)
  (try simp only [Act.put, List.setIfInBounds_toArray, List.set_cons_zero, List.set_cons_succ])
  refine take_y (i := 1) (d := some 6) (v := ?_) rfl rfl (by kernel_rfl) (by kernel_rfl) (by kernel_rfl) (fun _ _ _ h => h) (by assumption) ?_ ?_
  rotate_left
  · intro oi ho
    simp only [List.getElem?_toArray, List.getElem?_cons_succ, List.getElem?_cons_zero, Option.some.injEq] at ho
    subst ho
    intro w hSw
    (try dsimp only at hSw)
    go_simp
    (try with_reducible rfl)
  (try simp only [Act.put, List.setIfInBounds_toArray, List.set_cons_zero, List.set_cons_succ])
  refine take_y (i := 2) (d := some 7) (v := ?_) rfl rfl (by kernel_rfl) (by kernel_rfl) (by kernel_rfl) (fun _ _ _ h => h) (by assumption) ?_ ?_
  rotate_left
  · intro oi ho
    simp only [List.getElem?_toArray, List.getElem?_cons_succ, List.getElem?_cons_zero, Option.some.injEq] at ho
    subst ho
    intro w hSw
    (try dsimp only at hSw)
    go_simp
    (try with_reducible rfl)
  (try simp only [Act.put, List.setIfInBounds_toArray, List.set_cons_zero, List.set_cons_succ])
  refine take_y (i := 3) (d := some 8) (v := ?_) rfl rfl (by kernel_rfl) (by kernel_rfl) (by kernel_rfl) (fun _ _ _ h => h) (by assumption) ?_ ?_
  rotate_left
  · intro oi ho
    simp only [List.getElem?_toArray, List.getElem?_cons_succ, List.getElem?_cons_zero, Option.some.injEq] at ho
    subst ho
    intro w hSw
    (try dsimp only at hSw)
    go_simp
    (try with_reducible rfl)
  (try simp only [Act.put, List.setIfInBounds_toArray, List.set_cons_zero, List.set_cons_succ])
  refine take_y (i := 5) (d := some 10) (v := ?_) rfl rfl (by kernel_rfl) (by kernel_rfl) (by kernel_rfl) (fun _ _ _ h => h) (by assumption) ?_ ?_
  rotate_left
  · intro oi ho
    simp only [List.getElem?_toArray, List.getElem?_cons_succ, List.getElem?_cons_zero, Option.some.injEq] at ho
    subst ho
    intro w hSw
    (try dsimp only at hSw)
    go_simp
    (try with_reducible rfl)
  (try simp only [Act.put, List.setIfInBounds_toArray, List.set_cons_zero, List.set_cons_succ])
  refine take_y (i := 6) (d := some 11) (v := ?_) rfl rfl (by kernel_rfl) (by kernel_rfl) (by kernel_rfl) (fun _ _ _ h => h) (by assumption) ?_ ?_
  rotate_left
  · intro oi ho
    simp only [List.getElem?_toArray, List.getElem?_cons_succ, List.getElem?_cons_zero, Option.some.injEq] at ho
    subst ho
    intro w hSw
    (try dsimp only at hSw)
    go_simp
    (try with_reducible rfl)
  (try simp only [Act.put, List.setIfInBounds_toArray, List.set_cons_zero, List.set_cons_succ])
  refine take_y (i := 7) (d := some 12) (v := ?_) rfl rfl (by kernel_rfl) (by kernel_rfl) (by kernel_rfl) (fun _ _ _ h => h) (by assumption) ?_ ?_
  rotate_left
  · intro oi ho
    simp only [List.getElem?_toArray, List.getElem?_cons_succ, List.getElem?_cons_zero, Option.some.injEq] at ho
    subst ho
    intro w hSw
    (try dsimp only at hSw)
    go_simp
    (try with_reducible rfl)
  (try simp only [Act.put, List.setIfInBounds_toArray, List.set_cons_zero, List.set_cons_succ])
  refine take_y (i := 8) (d := some 13) (v := ?_) rfl rfl (by kernel_rfl) (by kernel_rfl) (by kernel_rfl) (fun _ _ _ h => h) (by assumption) ?_ ?_
  rotate_left
  · intro oi ho
    simp only [List.getElem?_toArray, List.getElem?_cons_succ, List.getElem?_cons_zero, Option.some.injEq] at ho
    subst ho
    intro w hSw
    (try dsimp only at hSw)
    go_simp
    (try with_reducible rfl)
  (try simp only [Act.put, List.setIfInBounds_toArray, List.set_cons_zero, List.set_cons_succ])
  refine take_y (i := 9) (d := some 14) (v := ?_) rfl rfl (by kernel_rfl) (by kernel_rfl) (by kernel_rfl) (fun _ _ _ h => h) (by assumption) ?_ ?_
  rotate_left
  · intro oi ho
    simp only [List.getElem?_toArray, List.getElem?_cons_succ, List.getElem?_cons_zero, Option.some.injEq] at ho
    subst ho
    intro w hSw
    (try dsimp only at hSw)
    go_simp
    (try with_reducible rfl)
  (try simp only [Act.put, List.setIfInBounds_toArray, List.set_cons_zero, List.set_cons_succ])
  refine take_y (i := 10) (d := some 15) (v := ?_) rfl rfl (by kernel_rfl) (by kernel_rfl) (by kernel_rfl) (fun _ _ _ h => h) (by assumption) ?_ ?_
  rotate_left
  · intro oi ho
    simp only [List.getElem?_toArray, List.getElem?_cons_succ, List.getElem?_cons_zero, Option.some.injEq] at ho
    subst ho
    intro w hSw
    (try dsimp only at hSw)
    go_simp
    (try with_reducible rfl)
  (try simp only [Act.put, List.setIfInBounds_toArray, List.set_cons_zero, List.set_cons_succ])
  refine take_y (i := 11) (d := some 16) (v := ?_) rfl rfl (by kernel_rfl) (by kernel_rfl) (by kernel_rfl) (fun _ _ _ h => h) (by assumption) ?_ ?_
  rotate_left
  · intro oi ho
    simp only [List.getElem?_toArray, List.getElem?_cons_succ, List.getElem?_cons_zero, Option.some.injEq] at ho
    subst ho
    intro w hSw
    (try dsimp only at hSw)
    go_simp
    (try with_reducible rfl)
  (try simp only [Act.put, List.setIfInBounds_toArray, List.set_cons_zero, List.set_cons_succ])
  refine take_y (i := 12) (d := some 17) (v := ?_) rfl rfl (by kernel_rfl) (by kernel_rfl) (by kernel_rfl) (fun _ _ _ h => h) (by assumption) ?_ ?_
  rotate_left
  · intro oi ho
    simp only [List.getElem?_toArray, List.getElem?_cons_succ, List.getElem?_cons_zero, Option.some.injEq] at ho
    subst ho
    intro w hSw
    (try dsimp only at hSw)
    go_simp
    (try with_reducible rfl)
  (try simp only [Act.put, List.setIfInBounds_toArray, List.set_cons_zero, List.set_cons_succ])
  refine take_y (i := 13) (d := some 18) (v := ?_) rfl rfl (by kernel_rfl) (by kernel_rfl) (by kernel_rfl) (fun _ _ _ h => h) (by assumption) ?_ ?_
  rotate_left
  · intro oi ho
    simp only [List.getElem?_toArray, List.getElem?_cons_succ, List.getElem?_cons_zero, Option.some.injEq] at ho
    subst ho
    intro w hSw
    (try dsimp only at hSw)
    go_simp
    (try with_reducible rfl)
  (try simp only [Act.put, List.setIfInBounds_toArray, List.set_cons_zero, List.set_cons_succ])
  refine take_y (i := 14) (d := some 19) (v := ?_) rfl rfl (by kernel_rfl) (by kernel_rfl) (by kernel_rfl) (fun _ _ _ h => h) (by assumption) ?_ ?_
  rotate_left
  · intro oi ho
    simp only [List.getElem?_toArray, List.getElem?_cons_succ, List.getElem?_cons_zero, Option.some.injEq] at ho
    subst ho
    intro w hSw
    (try dsimp only at hSw)
    go_simp
    (try with_reducible rfl)
  (try simp only [Act.put, List.setIfInBounds_toArray, List.set_cons_zero, List.set_cons_succ])
  refine wpAnyH_ready (rs := [4]) (by kernel_rfl) (by simp) ?_
  refine AllReadyH.cons rfl (fun K hK => ?_) AllReadyH.nil
  go_simp
  refine (HW _).out.mono ?_
  rintro _ w2 ⟨rfl, hb⟩
  refine hK.out _ _ ?_ (fun hHeld => ?_)
  · (try dsimp only)
    (go_split_ands; refine ⟨?_, ?_, ?_, ?_, ?_, ?_, ?_, ?_, ?_, ?_, ?_, ?_, ?_, ?_, ?_, ?_, ?_⟩ <;> (first | with_reducible assumption | with_reducible exact Below.drew (by assumption) | with_reducible exact vAt_drew (by assumption) | with_reducible exact cell_drew (by assumption) | with_reducible exact frozen_drew (by assumption) | with_reducible exact below_keep (by assumption) (by assumption) | with_reducible exact vAt_keep (by assumption) (by assumption) | with_reducible exact cell_keep (by assumption) (by assumption) | with_reducible exact frozen_keep (by assumption) (by assumption) (by assumption) | exact below_set4 (by with_reducible assumption) (by dsimp only; omega) (by dsimp only; omega) (by dsimp only; omega) (by dsimp only; omega) | exact vAt_set4 (by with_reducible assumption) | exact cell_set4 (by with_reducible assumption) (by dsimp only; omega) rfl rfl rfl | exact frozen_set4 (by with_reducible assumption)))
  clear hK K
  (try simp only [Act.put, List.setIfInBounds_toArray, List.set_cons_zero, List.set_cons_succ])
  refine take_y (i := 15) (d := some 20) (v := ?_) rfl rfl (by kernel_rfl) (by kernel_rfl) (by kernel_rfl) (fun _ _ _ h => h) (by assumption) ?_ ?_
  rotate_left
  · intro oi ho
    simp only [List.getElem?_toArray, List.getElem?_cons_succ, List.getElem?_cons_zero, Option.some.injEq] at ho
    subst ho
    intro w hSw
    (try dsimp only at hSw)
    go_simp
    (try with_reducible rfl)
  (try simp only [Act.put, List.setIfInBounds_toArray, List.set_cons_zero, List.set_cons_succ])
  refine wpAnyH_ready (rs := [16]) (by kernel_rfl) (by simp) ?_
  refine AllReadyH.cons rfl (fun K hK => ?_) AllReadyH.nil
  go_simp
  refine hK.out _ _ ?_ (fun hHeld => ?_)
  · (try dsimp only)
    (obtain ⟨k0, k1, k2, k3, k4, k5, k6, k7, k8, k9, k10, k11, k12, k13, k14, k15, k16⟩ := hHeld; exact ⟨below_set4 k0 (by dsimp only; omega) (by dsimp only; omega) (by dsimp only; omega) (by dsimp only; omega), cell_set4 k1 (by dsimp only; omega) rfl rfl rfl, cell_set4 k2 (by dsimp only; omega) rfl rfl rfl, cell_set4 k3 (by dsimp only; omega) rfl rfl rfl, cell_set4 k4 (by dsimp only; omega) rfl rfl rfl, cell_set4 k5 (by dsimp only; omega) rfl rfl rfl, cell_set4 k6 (by dsimp only; omega) rfl rfl rfl, cell_set4 k7 (by dsimp only; omega) rfl rfl rfl, cell_set4 k8 (by dsimp only; omega) rfl rfl rfl, vAt_set4 k9, vAt_set4 k10, vAt_set4 k11, vAt_set4 k12, frozen_set4 k13, frozen_set4 k14, frozen_set4 k15, frozen_set4 k16⟩)
  clear hK K
  (try simp only [Act.put, List.setIfInBounds_toArray, List.set_cons_zero, List.set_cons_succ])
  refine wpAnyH_done (by kernel_rfl) ?_ _
  have hBF : Below w.heap.size w w2 := below_keep (by assumption : Below w.heap.size w w0.drew ∧ _).1 hb
  have q0 : w2.cell? ⟨w.heap.size + 1 + 1, 0, none⟩ = some (vAt w2 ⟨w.heap.size + 1 + 1, 0, none⟩) := vAt_keep (W := w0.drew) hb v0
  have q1 : w2.cell? ⟨w.heap.size + 1 + 1, 1, none⟩ = some (vAt w2 ⟨w.heap.size + 1 + 1, 1, none⟩) := vAt_keep (W := w0.drew) hb v1
  have q2 : w2.cell? ⟨w.heap.size + 1 + 1, 2, none⟩ = some (vAt w2 ⟨w.heap.size + 1 + 1, 2, none⟩) := vAt_keep (W := w0.drew) hb v2
  have q3 : w2.cell? ⟨w.heap.size + 1 + 1, 3, none⟩ = some (vAt w2 ⟨w.heap.size + 1 + 1, 3, none⟩) := vAt_keep (W := w0.drew) hb v3
  have HBF := Lib.hid hBF
  have e1 : (if m' < m then m' else m) = min m m' := by split <;> omega
  have e2 : (if n < n' then n' else n) = max n n' := by split <;> omega
  (try rw [e1])
  (try rw [e2])
  obtain ⟨mn, hmn⟩ : ∃ mn, mn = min m m' := ⟨_, rfl⟩
  obtain ⟨mx, hmx⟩ : ∃ mx, mx = max n n' := ⟨_, rfl⟩
  rw [← hmn, ← hmx]
  have HM : Hid (Ending.returned (.agg #[.int .i64 c, .int .u64 d, .int .i64 mn, .int .i64 mx]) = .returned (.agg #[.int .i64 c, .int .u64 d, .int .i64 (min m m'), .int .i64 (max n n')])) := by show _ = _; rw [hmn, hmx]
  clear hHeld hmn hmx e1 e2 hBF HW v0 v1 v2 v3 hb
  go_wp2_with fail
  refine bodyPost_ret (v := .agg #[.int .i64 c, .int .u64 d, .int .i64 mn, .int .i64 mx]) (by simp [results, Tryz.results50, go_sem, q0, q1, q2, q3]) rfl ⟨HM.out, ?_⟩
  exact below_set4 HBF.out (by dsimp only; omega) (by dsimp only; omega) (by dsimp only; omega) (by dsimp only; omega)
end Go.Proofs.YtfmbbfidjcgeiaaGreatDoor

namespace Go.Proofs.YtfmbbfidjcgeiaaGreatDoor
open Go.RowKit Go.Lib

/-- A wide sum in a box of its own. -/
def BoxW (W : World) (b : Nat) (s : Int) : Prop := W.heap[b]? = some (.cells #[.int .i64 (hiW s), .int .u64 (loW s)] 115)
theorem BoxW.cells {W : World} {b : Nat} {s : Int} (h : BoxW W b s) : (W.cell? ⟨b, 0, none⟩ = some (.int .i64 (hiW s)) ∧ W.cell? ⟨b, 1, none⟩ = some (.int .u64 (loW s))) ∧ W.frozen? ⟨b, 0, none⟩ = false ∧ W.frozen? ⟨b, 1, none⟩ = false := by
  refine ⟨⟨?_, ?_⟩, ?_, ?_⟩ <;> simp [World.cell?, World.frozen?, show W.heap[b]? = _ from h]
theorem BoxW.below {W W' : World} {b : Nat} {s : Int} (h : BoxW W b s) (hb : Below W.heap.size W W') : BoxW W' b s := box_kept h hb
theorem BoxW.set {W : World} {b : Nat} {s : Int} (h : BoxW W b s) (t : Int) : BoxW ((W.setCell ⟨b, 0, none⟩ (.int .i64 (hiW t))).setCell ⟨b, 1, none⟩ (.int .u64 (loW t))) b t := by
  have h1 := heap_setCell_same W b 0 _ _ (.int .i64 (hiW t)) h
  have h2 := heap_setCell_same _ b 1 _ _ (.int .u64 (loW t)) h1
  exact h2
theorem heap_set2 {W : World} {k c : Nat} {o : Obj} (h : W.heap[k]? = some o) (hc : k ≠ c) (v0 v1 : Value) : ((W.setCell ⟨c, 0, none⟩ v0).setCell ⟨c, 1, none⟩ v1).heap[k]? = some o := by
  rw [heap_setCell_other _ _ _ _ hc, heap_setCell_other _ _ _ _ hc]
  exact h
theorem wide0 : hiW 0 = 0 ∧ loW 0 = 0 := by unfold hiW loW; simp
structure SumS (w : World) (vb : Nat) (x : GVal) (W : World) : Prop where
  below : Below w.heap.size w W
  val : BoxV W vb x
  res : BoxV W w.heap.size gnull
  tot : ∃ s, BoxW W (w.heap.size + 1) s
theorem SumS.keep {w W W' : World} {vb : Nat} {x : GVal} (h : SumS w vb x W) (hb : Below W.heap.size W W') : SumS w vb x W' := by
  obtain ⟨s, hs⟩ := h.tot
  exact ⟨below_keep h.below hb, h.val.below hb, h.res.below hb, s, hs.below hb⟩
theorem SumS.set {w W : World} {vb : Nat} {x : GVal} (h : SumS w vb x W) (hv : w.heap.size + 1 < vb) (t : Int) : SumS w vb x ((W.setCell ⟨w.heap.size + 1, 0, none⟩ (.int .i64 (hiW t))).setCell ⟨w.heap.size + 1, 1, none⟩ (.int .u64 (loW t))) := by
  obtain ⟨s, hs⟩ := h.tot
  exact ⟨(h.below.setCell (Nat.le_succ _) _).setCell (Nat.le_succ _) _, heap_set2 h.val (by omega) _ _, heap_set2 h.res (by omega) _ _, t, hs.set t⟩
theorem intsL_snoc {l : List GVal} {k : Nat} {x : GVal} (h : l[k]? = some x) : intsL (l.take (k + 1)) = intsL (l.take k) ++ if x.kind = 1 then [x.n] else [] := by
  unfold intsL
  rw [take_get h, List.filter_append, List.map_append]
  by_cases e : x.kind = 1
  · rw [if_pos e]; simp [e]
  · rw [if_neg e]; simp [e]
theorem intsL_wok {l : List GVal} (h : ∀ x ∈ l, In64 x.n) (hl : l.length ≤ 100000) : Wok (sumI (intsL l)) := by
  have hb := sumI_bound (q := 9223372036854775808) (l := intsL l) fun x hx => by
    unfold intsL at hx
    obtain ⟨y, hy, rfl⟩ := List.mem_map.1 hx
    have := h y (List.mem_filter.1 hy).1
    unfold In64 at this
    omega
  have h2 : (intsL l).length ≤ l.length := by unfold intsL; rw [List.length_map]; exact List.length_filter_le _ _
  have hl' : ((intsL l).length : Int) ≤ 100000 := by omega
  have hb2 : 9223372036854775808 * ((intsL l).length : Int) ≤ 9223372036854775808 * 100000 := Int.mul_le_mul_of_nonneg_left hl' (by omega)
  unfold Wok
  omega
theorem take_wok {l : List GVal} (h : ∀ x ∈ l, In64 x.n) (hl : l.length ≤ 100000) (k : Nat) : Wok (sumI (intsL (l.take k))) := intsL_wok (fun x hx => h x (List.mem_of_mem_take hx)) (by rw [List.length_take]; omega)
theorem sumG_none {l : List GVal} (h : intsL l = []) : sumG l = gnull := by unfold sumG; rw [if_pos (.inl h)]
theorem sumG_far {l : List GVal} (h : In64B (sumI (intsL l)) = false) : sumG l = gnull := by
  unfold sumG; rw [if_pos (.inr (fun h2 => by rw [In64B_iff.2 h2] at h; cases h))]
theorem sumG_fits {l : List GVal} (h : intsL l ≠ []) (h2 : In64B (sumI (intsL l)) = true) : sumG l = gint (sumI (intsL l)) := by
  unfold sumG; rw [if_neg]
  rintro (e | e)
  · exact h e
  · exact e (In64B_iff.1 h2)
set_option maxHeartbeats 8000000 in
set_option maxRecDepth 100000 in
theorem asum_any (v : Value) (l : List GVal) (w : World) (hv : Sl valE w free v l) (h64 : ∀ x ∈ l, In64 x.n) (hl : l.length ≤ 100000) :
    Calls Tryz.prog 53 #[v] w fun e w' => e = .returned (aggG (sumG l)) ∧ Below w.heap.size w w' := by
  obtain ⟨a, c, rfl⟩ := hv.shape
  have h63 := hv.1
  obtain ⟨n, hn⟩ : ∃ n, n = l.length := ⟨_, rfl⟩
  have HV := Lib.hid hv
  have HN := Lib.hid hn
  have H64 := Lib.hid h64
  have HTW := Lib.hid (take_wok h64 hl)
  rw [← hn] at HV h63 hl ⊢
  have hB0 : Below w.heap.size w ((w.alloc (.cells #[.int .i64 0, .int .i64 0, .string ⟨#[]⟩] 40)).alloc (.cells #[.int .i64 0, .int .u64 0] 115)) := below_alloc_two _ _ _
  have hr0 : BoxV ((w.alloc (.cells #[.int .i64 0, .int .i64 0, .string ⟨#[]⟩] 40)).alloc (.cells #[.int .i64 0, .int .u64 0] 115)) w.heap.size gnull := heap_alloc_old' _ _ _
  have hm0 : BoxW ((w.alloc (.cells #[.int .i64 0, .int .i64 0, .string ⟨#[]⟩] 40)).alloc (.cells #[.int .i64 0, .int .u64 0] 115)) (w.heap.size + 1) 0 := by
    unfold BoxW
    rw [wide0.1, wide0.2]
    exact heap_alloc_new' _ _ _
  obtain ⟨w1, hw1⟩ : ∃ w1, w1 = (w.alloc (.cells #[.int .i64 0, .int .i64 0, .string ⟨#[]⟩] 40)).alloc (.cells #[.int .i64 0, .int .u64 0] 115) := ⟨_, rfl⟩
  obtain ⟨res, hres⟩ : ∃ res, res = sumG l := ⟨_, rfl⟩
  rw [← hres]
  have HRS := Lib.hid hres
  clear hv hn h64 hres
  go_enter Tryz.func53, Tryz.ntmps53
  go_wp2_with fail
  rw [← hw1] at hB0 hr0 hm0 ⊢
  have HB0 := Lib.hid hB0
  have HR0 := Lib.hid hr0
  have HM0 := Lib.hid hm0
  clear hB0 hr0 hm0 hw1
  go_loopw [11, 4] (fun i q wr => ∃ (k : Nat) (qb : Bool), k ≤ n ∧ i = .int .i64 (k : Int) ∧ q = .bool qb ∧ Hid (qb = true ↔ intsL (l.take k) ≠ []) ∧ Hid (Below w.heap.size w wr) ∧ Hid (BoxV wr w.heap.size gnull) ∧ Hid (BoxW wr (w.heap.size + 1) (sumI (intsL (l.take k))))) (fun i _ _ => n - (intOf i).toNat)
  case atStart => exact ⟨0, false, Nat.zero_le _, rfl, rfl, Lib.hid (by simp [intsL]), HB0, HR0, HM0⟩
  case round =>
    obtain ⟨k, qb, hk, rfl, rfl, HQB, HB, HX, HM⟩ := hrel
    obtain ⟨wo, rfl⟩ : ∃ wo : World, wo = wr := ⟨_, rfl⟩
    by_cases hlt : k < n
    · obtain ⟨x, hx⟩ := lget_some l k (by rw [← HN.out]; exact hlt)
      obtain ⟨b0, o0, rfl, p0, p1, p2⟩ := gv_at3 (HV.out.below HB.out) hx
      have HS := Lib.hid (intsL_snoc hx)
      have hx64 := H64.out x (List.mem_of_getElem? hx)
      have hwk := HTW.out k
      have hnz : w.heap.size + 1 < wo.heap.size := (Array.getElem?_eq_some_iff.1 HM.out).1
      have hg := World.alloc_heap_new wo (.cells #[.int .i64 x.kind, .int .i64 x.n, .string x.s] 40)
      have HBA := Lib.hid (below_alloc_keep (o := .cells #[.int .i64 x.kind, .int .i64 x.n, .string x.s] 40) HB.out)
      have HXA := Lib.hid (HX.out.below (below_alloc wo (.cells #[.int .i64 x.kind, .int .i64 x.n, .string x.s] 40)))
      have HMA := Lib.hid (HM.out.below (below_alloc wo (.cells #[.int .i64 x.kind, .int .i64 x.n, .string x.s] 40)))
      have HGA : Hid (BoxV (wo.alloc (.cells #[.int .i64 x.kind, .int .i64 x.n, .string x.s] 40)) wo.heap.size x) := Lib.hid hg
      have HSZ := Lib.hid (sumI_append (intsL (l.take k)) [x.n])
      obtain ⟨s, hs⟩ : ∃ s, s = sumI (intsL (l.take k)) := ⟨_, rfl⟩
      rw [← hs] at hwk HMA HSZ
      have HSK := Lib.hid hs
      by_cases hkd : x.kind = 1
      · have HWI := fun W => Lib.hid (widen_any x.n hx64 W)
        have HPL := fun W => Lib.hid (plus_any s x.n hwk (by unfold In64 at hx64; unfold Wok; omega) W)
        have HT1 : Hid (intsL (l.take (k + 1)) = intsL (l.take k) ++ [x.n]) := Lib.hid (by rw [HS.out, if_pos hkd])
        have HTS : Hid (sumI (intsL (l.take (k + 1))) = s + x.n) := Lib.hid (by rw [HT1.out, HSZ.out]; simp [sumI])
        unfold wideV at HWI HPL
        obtain ⟨xk, xn, xs⟩ := x
        dsimp only at *
        subst hkd
        clear HS hwk hx hs HSZ HM HX HB hx64 HB0 HR0 HM0 hg
        go_upto_region 7 with fail
        have HS0 : Hid (SumS w wo.heap.size ⟨1, xn, xs⟩ (wo.alloc (.cells #[.int .i64 1, .int .i64 xn, .string xs] 40))) := Lib.hid ⟨HBA.out, HGA.out, HXA.out, s, HMA.out⟩
        obtain ⟨wv, hwv⟩ : ∃ wv, wv = wo.alloc (.cells #[.int .i64 1, .int .i64 xn, .string xs] 40) := ⟨_, rfl⟩
        rw [← hwv] at HS0 HMA ⊢
        clear HBA HGA HXA hwv p0 p1 p2
        refine wp_region_held_drew (S := SumS w wo.heap.size ⟨1, xn, xs⟩) (by kernel_rfl) (HS0.out.keep (Below.refl _ _).drew) (fun hHeld => ?_)
        refine take_y (i := 1) (d := some 19) (v := ?_) rfl rfl (by kernel_rfl) (by kernel_rfl) (by kernel_rfl) (fun _ _ _ h => h) (by assumption) ?_ ?_
        rotate_left
        · intro oi ho
          simp only [List.getElem?_toArray, List.getElem?_cons_succ, List.getElem?_cons_zero, Option.some.injEq] at ho
          subst ho
          intro w hSw
          obtain ⟨⟨e0, e1, e2⟩, _⟩ := hSw.val.cells
          go_simp
          (try with_reducible rfl)
        (try simp only [Act.put, List.setIfInBounds_toArray, List.set_cons_zero, List.set_cons_succ])
        refine take_y (i := 2) (d := some 20) (v := ?_) rfl rfl (by kernel_rfl) (by kernel_rfl) (by kernel_rfl) (fun _ _ _ h => h) (by assumption) ?_ ?_
        rotate_left
        · intro oi ho
          simp only [List.getElem?_toArray, List.getElem?_cons_succ, List.getElem?_cons_zero, Option.some.injEq] at ho
          subst ho
          intro w hSw
          obtain ⟨⟨e0, e1, e2⟩, _⟩ := hSw.val.cells
          go_simp
          (try with_reducible rfl)
        (try simp only [Act.put, List.setIfInBounds_toArray, List.set_cons_zero, List.set_cons_succ])
        refine wpAnyH_ready (rs := [0, 3]) (by kernel_rfl) (by simp) ?_
        refine AllReadyH.cons rfl (fun K hK => ?_) (AllReadyH.cons rfl (fun K hK => ?_) AllReadyH.nil)
        · obtain ⟨⟨m0, m1⟩, _⟩ := (HMA.out.below (Below.refl _ _).drew).cells
          go_simp
          refine hK.out _ _ ?_ (fun hHeld => ?_)
          · exact HS0.out.keep (Below.refl _ _).drew
          clear hK K
          (try simp only [Act.put, List.setIfInBounds_toArray, List.set_cons_zero, List.set_cons_succ])
          clear m0 m1
          refine wpAnyH_ready (rs := [3]) (by kernel_rfl) (by simp) ?_
          refine AllReadyH.cons rfl (fun K hK => ?_) AllReadyH.nil
          go_simp
          refine (HWI _).out.mono ?_
          rintro _ wy ⟨rfl, hby⟩
          refine hK.out _ _ ?_ (fun hHeld => ?_)
          · exact hHeld.keep hby
          clear hK K
          (try simp only [Act.put, List.setIfInBounds_toArray, List.set_cons_zero, List.set_cons_succ])
          have hmy : BoxW wy (w.heap.size + 1) s := (HMA.out.below (Below.refl _ _).drew).below hby
          refine wpAnyH_ready (rs := [4]) (by kernel_rfl) (by simp) ?_
          refine AllReadyH.cons rfl (fun K hK => ?_) AllReadyH.nil
          go_simp
          refine (HPL _).out.mono ?_
          rintro _ wz ⟨rfl, hbz⟩
          refine hK.out _ _ ?_ (fun hHeld => ?_)
          · exact hHeld.keep hbz
          clear hK K
          (try simp only [Act.put, List.setIfInBounds_toArray, List.set_cons_zero, List.set_cons_succ])
          have hmz := hmy.below hbz
          clear hmy
          refine wpAnyH_ready (rs := [5]) (by kernel_rfl) (by simp) ?_
          refine AllReadyH.cons rfl (fun K hK => ?_) AllReadyH.nil
          obtain ⟨⟨k0, k1⟩, k2, k3⟩ := hmz.cells
          go_simp
          refine hK.out _ _ ?_ (fun hHeld => ?_)
          · exact hHeld.set hnz (s + xn)
          clear hK K
          (try simp only [Act.put, List.setIfInBounds_toArray, List.set_cons_zero, List.set_cons_succ])
          refine wpAnyH_done (by kernel_rfl) ?_ _
          have hfin := (by assumption : SumS w wo.heap.size ⟨1, xn, xs⟩ ((wz.setCell ⟨w.heap.size + 1, 0, none⟩ (.int .i64 (hiW (s + xn)))).setCell ⟨w.heap.size + 1, 1, none⟩ (.int .u64 (loW (s + xn)))))
          have htot := hmz.set (s + xn)
          rw [← HTS.out] at htot
          have HE1 := Lib.hid hfin.below
          have HE2 := Lib.hid hfin.res
          have HE3 := Lib.hid htot
          have HQ' : Hid (true = true ↔ intsL (l.take (k + 1)) ≠ []) := Lib.hid (by rw [HT1.out]; simp)
          clear hfin htot hmz hHeld k0 k1 k2 k3
          rw [HTS.out] at HE3
          go_wp2_with fail
          go_roundw
          case rel => exact ⟨k + 1, true, by omega, by go_num, rfl, HQ', HE1, HE2, by rw [HTS.out]; exact HE3⟩
          case measure => simp [intOf]; omega
        · go_simp
          refine (HWI _).out.mono ?_
          rintro _ wy ⟨rfl, hby⟩
          refine hK.out _ _ ?_ (fun hHeld => ?_)
          · exact hHeld.keep hby
          clear hK K
          (try simp only [Act.put, List.setIfInBounds_toArray, List.set_cons_zero, List.set_cons_succ])
          have hmy : BoxW wy (w.heap.size + 1) s := (HMA.out.below (Below.refl _ _).drew).below hby
          refine wpAnyH_ready (rs := [0]) (by kernel_rfl) (by simp) ?_
          refine AllReadyH.cons rfl (fun K hK => ?_) AllReadyH.nil
          obtain ⟨⟨m0, m1⟩, _⟩ := hmy.cells
          go_simp
          refine hK.out _ _ ?_ (fun hHeld => ?_)
          · exact hHeld
          clear hK K
          (try simp only [Act.put, List.setIfInBounds_toArray, List.set_cons_zero, List.set_cons_succ])
          clear m0 m1
          refine wpAnyH_ready (rs := [4]) (by kernel_rfl) (by simp) ?_
          refine AllReadyH.cons rfl (fun K hK => ?_) AllReadyH.nil
          go_simp
          refine (HPL _).out.mono ?_
          rintro _ wz ⟨rfl, hbz⟩
          refine hK.out _ _ ?_ (fun hHeld => ?_)
          · exact hHeld.keep hbz
          clear hK K
          (try simp only [Act.put, List.setIfInBounds_toArray, List.set_cons_zero, List.set_cons_succ])
          have hmz := hmy.below hbz
          clear hmy
          refine wpAnyH_ready (rs := [5]) (by kernel_rfl) (by simp) ?_
          refine AllReadyH.cons rfl (fun K hK => ?_) AllReadyH.nil
          obtain ⟨⟨k0, k1⟩, k2, k3⟩ := hmz.cells
          go_simp
          refine hK.out _ _ ?_ (fun hHeld => ?_)
          · exact hHeld.set hnz (s + xn)
          clear hK K
          (try simp only [Act.put, List.setIfInBounds_toArray, List.set_cons_zero, List.set_cons_succ])
          refine wpAnyH_done (by kernel_rfl) ?_ _
          have hfin := (by assumption : SumS w wo.heap.size ⟨1, xn, xs⟩ ((wz.setCell ⟨w.heap.size + 1, 0, none⟩ (.int .i64 (hiW (s + xn)))).setCell ⟨w.heap.size + 1, 1, none⟩ (.int .u64 (loW (s + xn)))))
          have htot := hmz.set (s + xn)
          rw [← HTS.out] at htot
          have HE1 := Lib.hid hfin.below
          have HE2 := Lib.hid hfin.res
          have HE3 := Lib.hid htot
          have HQ' : Hid (true = true ↔ intsL (l.take (k + 1)) ≠ []) := Lib.hid (by rw [HT1.out]; simp)
          clear hfin htot hmz hHeld k0 k1 k2 k3
          rw [HTS.out] at HE3
          go_wp2_with fail
          go_roundw
          case rel => exact ⟨k + 1, true, by omega, by go_num, rfl, HQ', HE1, HE2, by rw [HTS.out]; exact HE3⟩
          case measure => simp [intOf]; omega
      · have HT1 : Hid (intsL (l.take (k + 1)) = intsL (l.take k)) := Lib.hid (by rw [HS.out, if_neg hkd, List.append_nil])
        have hkd2 : (x.kind == 1) = false := by simpa using hkd
        have HMA' : Hid (BoxW (wo.alloc (.cells #[.int .i64 x.kind, .int .i64 x.n, .string x.s] 40)) (w.heap.size + 1) (sumI (intsL (l.take (k + 1))))) := Lib.hid (by rw [HT1.out, ← HSK.out]; exact HMA.out)
        have HQ' : Hid (qb = true ↔ intsL (l.take (k + 1)) ≠ []) := Lib.hid (by rw [HT1.out]; exact HQB.out)
        clear HS hwk hx hs HSZ HM HX HB hx64 HB0 HR0 HM0 hg HT1 HMA HGA
        go_wp2_with fail
        go_roundw
        case rel => exact ⟨k + 1, qb, by omega, by go_num, rfl, HQ', HBA, HXA, HMA'⟩
        case measure => simp [intOf]; omega
    · have hkn : l.take k = l := List.take_of_length_le (by rw [← HN.out]; omega)
      have hqb := HQB.out
      have hm := HM.out
      rw [hkn] at hqb hm
      have HI := fun W => Lib.hid (int64_any (sumI (intsL l)) W)
      unfold wideV at HI
      obtain ⟨⟨c0, c1⟩, _⟩ := hm.cells
      have hn1 := @sumG_none l
      have hn2 := @sumG_far l
      have hn3 := @sumG_fits l
      rw [← HRS.out] at hn1 hn2 hn3
      generalize sumI (intsL l) = S at HI c0 c1 hn2 hn3
      generalize hiW S = A at HI c0
      generalize loW S = C at HI c1
      have HN1 := Lib.hid hn1
      have HN2 := Lib.hid hn2
      have HN3 := Lib.hid hn3
      have HQ := Lib.hid hqb
      clear hm hqb hkn HQB HM hn1 hn2 hn3 HB0 HR0 HM0
      cases hq : In64B S
      all_goals rw [hq] at HI HN2 HN3
      all_goals clear hq
      all_goals (
        go_wp2_with fail
        refine (HI _).out.mono ?_
        rintro _ w2 ⟨z, rfl, hz, hb2⟩
        have HZ := Lib.hid hz
        have HB2 := Lib.hid (below_keep HB.out hb2)
        have hx2 := HX.out.below hb2
        obtain ⟨⟨r0, r1, r2⟩, f0, f1, f2⟩ := hx2.cells
        have hzz : w.heap.size < w2.heap.size := hx2.lt
        clear hz hb2 hx2
        cases qb)
      · go_wp2_with fail
        have HR : Hid (res = gnull) := Lib.hid (HN2.out trivial)
        refine bodyPost_ret (v := aggG gnull) (by simp [aggG, gnull, results, Tryz.results53, go_sem, r0, r1, r2]) rfl ⟨by rw [HR.out], ?_⟩
        exact below_box3 HB2.out (Nat.le_refl _)
      · go_wp2_with fail
        have HR : Hid (res = gnull) := Lib.hid (HN2.out trivial)
        refine bodyPost_ret (v := aggG gnull) (by simp [aggG, gnull, results, Tryz.results53, go_sem, r0, r1, r2]) rfl ⟨by rw [HR.out], ?_⟩
        exact below_box3 HB2.out (Nat.le_refl _)
      · have HR : Hid (res = gnull) := Lib.hid (HN1.out (Classical.byContradiction fun h => by have := HQ.out.2 h; cases this))
        go_wp2_with fail
        refine bodyPost_ret (v := aggG gnull) (by simp [aggG, gnull, results, Tryz.results53, go_sem, r0, r1, r2]) rfl ⟨by rw [HR.out], ?_⟩
        exact below_box3 HB2.out (Nat.le_refl _)
      · have HR : Hid (res = gint z) := Lib.hid (by rw [HN3.out (HQ.out.1 rfl) trivial, HZ.out trivial])
        go_wp2_with fail
        refine bodyPost_ret (v := aggG (gint z)) (by simp [aggG, gint, results, Tryz.results53, go_sem, r0, r1, r2]) rfl ⟨by rw [HR.out], ?_⟩
        exact below_box3 HB2.out (Nat.le_refl _)
end Go.Proofs.YtfmbbfidjcgeiaaGreatDoor

namespace Go.Proofs.YtfmbbfidjcgeiaaGreatDoor
open Go.RowKit Go.Lib Go.Shelf

theorem flat_set {l : List GVal} {k : Nat} (hk : k < l.length) (y : GVal) :
    (((l.flatMap valOf).set (k * 3) (.int .i64 y.kind)).set (k * 3 + 1) (.int .i64 y.n)).set (k * 3 + 2) (.string y.s) = (l.set k y).flatMap valOf := by
  induction l generalizing k with
  | nil => simp at hk
  | cons x l ih =>
    cases k with
    | zero => simp [valOf]
    | succ k =>
      have e0 : (k + 1) * 3 = k * 3 + 1 + 1 + 1 := by omega
      have h := ih (k := k) (by simpa using hk)
      rw [e0]
      simp only [List.flatMap_cons, List.set_cons_succ, ← h]
      simp [valOf]
theorem made_vals (n : Nat) : (madeCells #[.int .i64 0, .int .i64 0, .string ⟨#[]⟩] (n * 3)).toList = (List.replicate n gnull).flatMap valOf := by
  refine List.ext_getElem? fun j => ?_
  rcases Nat.lt_or_ge j (n * 3) with hj | hj
  · have hi : j / 3 < n := by omega
    have hx : (List.replicate n gnull)[j / 3]? = some gnull := by simp [hi]
    obtain ⟨r, hr, e⟩ : ∃ r, r < 3 ∧ j = j / 3 * 3 + r := ⟨j % 3, by omega, by omega⟩
    have hm : j % 3 = r := by omega
    have hl : (madeCells #[.int .i64 0, .int .i64 0, .string ⟨#[]⟩] (n * 3)).toList[j]? = some (#[.int .i64 0, .int .i64 0, Value.string ⟨#[]⟩][r]!) := by
      simp [madeCells, hj, hm]
    rw [hl, e]
    rcases (by omega : r = 0 ∨ r = 1 ∨ r = 2) with rfl | rfl | rfl
    · exact (flatMap_at valOf 3 (fun _ => rfl) _ _ _ 0 _ hx rfl).symm
    · exact (flatMap_at valOf 3 (fun _ => rfl) _ _ _ 1 _ hx rfl).symm
    · exact (flatMap_at valOf 3 (fun _ => rfl) _ _ _ 2 _ hx rfl).symm
  · have h2 := flatMap_length valOf 3 (fun _ => rfl) (List.replicate n gnull)
    rw [List.getElem?_eq_none (by simpa [size_madeCells] using hj), List.getElem?_eq_none (by rw [h2]; simpa using hj)]
theorem own_made {w : World} {B g n : Nat} (h : w.ownsRow B 40 3 (.slice (some ⟨g, 0, none⟩) n n) n (madeCells #[.int .i64 0, .int .i64 0, .string ⟨#[]⟩] (n * 3)).toList) : Own valE w B (.slice (some ⟨g, 0, none⟩) n n) (List.replicate n gnull) := by
  rw [made_vals] at h
  exact Own.of_flat (by simpa using h)
theorem own_set3 {w : World} {B g n c k : Nat} {l : List GVal} (h : Own valE w B (.slice (some ⟨g, 0, none⟩) n c) l) (hn : l.length = n) (hk : k < n) (y : GVal) :
    Own valE (((w.setCell ⟨g, k * 3, none⟩ (.int .i64 y.kind)).setCell ⟨g, k * 3 + 1, none⟩ (.int .i64 y.n)).setCell ⟨g, k * 3 + 2, none⟩ (.string y.s)) B (.slice (some ⟨g, 0, none⟩) n c) (l.set k y) := by
  have h1 := Own.flat_cells h
  rw [hn] at h1
  have h2 := (((h1.stored (k * 3) (.int .i64 y.kind)).1.stored (k * 3 + 1) (.int .i64 y.n)).1.stored (k * 3 + 2) (.string y.s)).1
  rw [flat_set (by omega) y] at h2
  exact Own.of_flat (by simpa [hn] using h2)
theorem own_frozen {w : World} {B g n c : Nat} {l : List GVal} (h : Own valE w B (.slice (some ⟨g, 0, none⟩) n c) l) (hn : l.length = n) (j : Nat) : w.frozen? ⟨g, j, none⟩ = false := by
  have h1 := Own.flat_cells h
  rw [hn] at h1
  exact h1.frozenAt j
theorem own_at3 {w : World} {B g n c k : Nat} {l : List GVal} {x : GVal} (h : Own valE w B (.slice (some ⟨g, 0, none⟩) n c) l) (hk : l[k]? = some x) :
    w.cell? ⟨g, k * 3, none⟩ = some (.int .i64 x.kind) ∧ w.cell? ⟨g, k * 3 + 1, none⟩ = some (.int .i64 x.n) ∧ w.cell? ⟨g, k * 3 + 2, none⟩ = some (.string x.s) := by
  obtain ⟨a, c', e⟩ := h.shape
  cases e
  obtain ⟨b, o, e, p0, p1, p2⟩ := val_at h.sl hk
  cases e
  simp only [Nat.zero_add] at p0 p1 p2
  exact ⟨p0, p1, p2⟩
end Go.Proofs.YtfmbbfidjcgeiaaGreatDoor

namespace Go.Proofs.YtfmbbfidjcgeiaaGreatDoor
open Go.RowKit Go.Lib Go.Shelf

theorem val_parts : ∃ i, Tryz.prog.info? 40 = some i ∧ i.zero = some (.agg #[.int .i64 0, .int .i64 0, .string ⟨#[]⟩]) ∧ i.size = 3 ∧ i.bytes = 32 := by
  obtain ⟨i, hi, h⟩ := Option.map_eq_some_iff.1 val_info
  simp only [Prod.mk.injEq] at h
  exact ⟨i, hi, h.1, h.2.1, h.2.2⟩
end Go.Proofs.YtfmbbfidjcgeiaaGreatDoor

namespace Go.Proofs.YtfmbbfidjcgeiaaGreatDoor
open Go.RowKit Go.Lib Go.Shelf

def aggX (x : GExp) : Value := .agg #[.int .i64 x.op, .int .i64 x.a, .int .i64 x.b, .int .i64 x.col, .int .i64 x.c.kind, .int .i64 x.c.n, .string x.c.s]
set_option maxHeartbeats 4000000 in
set_option maxRecDepth 100000 in
theorem apply_1 (va vr : Value) (xa xb col : Int) (c : GVal) (w : World) :
    Calls Tryz.prog 69 #[aggX ⟨1, xa, xb, col, c⟩, va, vr] w fun e w' => e = .returned (aggG c) ∧ Below w.heap.size w w' := by
  obtain ⟨ck, cn, cs⟩ := c
  unfold aggX
  dsimp only
  go_enter Tryz.func69, Tryz.ntmps69
  go_wp2_with fail
  exact bodyPost_ret (v := aggG ⟨ck, cn, cs⟩) (by simp [aggG, results, Tryz.results69, go_sem]) rfl ⟨rfl, by first | exact below_alloc_two w _ _ | exact (below_alloc_two w _ _).setCell (by simp) _⟩
set_option maxHeartbeats 4000000 in
set_option maxRecDepth 100000 in
theorem apply_2n (va : Value) (a2 : Option Addr) (n2 c2 : Nat) (xa xb col : Int) (c : GVal) (w : World) (hcol : ¬ (0 ≤ col ∧ col < n2)) :
    Calls Tryz.prog 69 #[aggX ⟨2, xa, xb, col, c⟩, va, .slice a2 n2 c2] w fun e w' => e = .returned (aggG gnull) ∧ Below w.heap.size w w' := by
  obtain ⟨ck, cn, cs⟩ := c
  unfold aggX
  dsimp only
  go_enter Tryz.func69, Tryz.ntmps69
  by_cases h0 : col < 0
  · go_wp2_with fail
    exact bodyPost_ret (v := aggG gnull) (by simp [aggG, gnull, results, Tryz.results69, go_sem]) rfl ⟨rfl, by first | exact below_alloc_two w _ _ | exact (below_alloc_two w _ _).setCell (by simp) _⟩
  · have h1 : (n2 : Int) ≤ col := by omega
    go_wp2_with fail
    exact bodyPost_ret (v := aggG gnull) (by simp [aggG, gnull, results, Tryz.results69, go_sem]) rfl ⟨rfl, by first | exact below_alloc_two w _ _ | exact (below_alloc_two w _ _).setCell (by simp) _⟩
set_option maxHeartbeats 4000000 in
set_option maxRecDepth 100000 in
theorem apply_2 (va : Value) (b o n2 c2 C : Nat) (xa xb : Int) (c : GVal) (k1 m1 : Int) (s1 : ByteArray) (w : World) (hcol : C < n2) (_h63 : n2 ≤ 9223372036854775807)
    (p0 : w.cell? ⟨b, o + C * 3, none⟩ = some (.int .i64 k1)) (p1 : w.cell? ⟨b, o + C * 3 + 1, none⟩ = some (.int .i64 m1)) (p2 : w.cell? ⟨b, o + C * 3 + 2, none⟩ = some (.string s1)) :
    Calls Tryz.prog 69 #[aggX ⟨2, xa, xb, (C : Int), c⟩, va, .slice (some ⟨b, o, none⟩) n2 c2] w fun e w' => e = .returned (aggG ⟨k1, m1, s1⟩) ∧ Below w.heap.size w w' := by
  have lb : b < w.heap.size := World.block_lt_of_cell? w _ p0
  have lb1 : b < w.heap.size + 1 := by omega
  have lb2 : b < w.heap.size + 1 + 1 := by omega
  obtain ⟨ck, cn, cs⟩ := c
  unfold aggX
  dsimp only
  go_enter Tryz.func69, Tryz.ntmps69
  go_wp2_with fail
  exact bodyPost_ret (v := aggG ⟨k1, m1, s1⟩) (by simp [aggG, results, Tryz.results69, go_sem]) rfl ⟨rfl, by first | exact below_alloc_two w _ _ | exact (below_alloc_two w _ _).setCell (by simp) _⟩
theorem isTrue_ag (k n : Int) (s : ByteArray) (w : World) : Calls Tryz.prog 98 #[.agg #[.int .i64 k, .int .i64 n, .string s]] w fun e w' => e = .returned (.bool (isTrueG ⟨k, n, s⟩)) ∧ Below w.heap.size w w' := isTrue_any ⟨k, n, s⟩ w

theorem aggG_bool (b : Bool) : aggG (gbool b) = .agg #[.int .i64 3, .int .i64 (b2i b), .string ⟨#[]⟩] := rfl
theorem boolean_ag (b : Bool) (w : World) : Calls Tryz.prog 97 #[.bool b] w fun e w' => e = .returned (.agg #[.int .i64 3, .int .i64 (b2i b), .string ⟨#[]⟩]) ∧ Below w.heap.size w w' := boolean_any b w
theorem heap2_1 (w : World) (c1 c2 : Obj) : ((w.alloc c1).alloc c2).heap[w.heap.size + 1]? = some c2 := by simpa using World.alloc_heap_new (w.alloc c1) c2
set_option maxHeartbeats 4000000 in
set_option maxRecDepth 100000 in
theorem apply_10 (b o n1 c1 : Nat) (vr : Value) (xa xb col : Int) (c : GVal) (k1 m1 : Int) (s1 : ByteArray) (w : World) (hn : 0 < n1) (_h63 : n1 ≤ 9223372036854775807)
    (p0 : w.cell? ⟨b, o, none⟩ = some (.int .i64 k1)) (p1 : w.cell? ⟨b, o + 1, none⟩ = some (.int .i64 m1)) (p2 : w.cell? ⟨b, o + 2, none⟩ = some (.string s1)) :
    Calls Tryz.prog 69 #[aggX ⟨10, xa, xb, col, c⟩, .slice (some ⟨b, o, none⟩) n1 c1, vr] w fun e w' => e = .returned (aggG (gbool (!isTrueG ⟨k1, m1, s1⟩))) ∧ Below w.heap.size w w' := by
  have lb : b < w.heap.size := World.block_lt_of_cell? w _ p0
  have lb1 : b < w.heap.size + 1 := by omega
  have lb2 : b < w.heap.size + 1 + 1 := by omega
  obtain ⟨ck, cn, cs⟩ := c
  obtain ⟨r, hr⟩ : ∃ r, r = isTrueG ⟨k1, m1, s1⟩ := ⟨_, rfl⟩
  rw [← hr]
  have HR := Lib.hid hr
  clear hr
  unfold aggX
  dsimp only
  go_enter Tryz.func69, Tryz.ntmps69
  go_wp2_with fail
  refine (isTrue_ag k1 m1 s1 _).mono ?_
  rintro e w1 ⟨rfl, hb1⟩
  rw [← HR.out]
  have hB1 : Below w.heap.size w w1 := below_keep (below_alloc_two w _ _) hb1
  have bx := box_kept (heap2_1 w _ _) hb1
  have hz : w.heap.size + 1 < w1.heap.size := by have := hb1.size; simp at this; omega
  clear hb1
  go_wp2_with fail
  refine (boolean_ag (!r) _).mono ?_
  rintro e w2 ⟨rfl, hb2⟩
  obtain ⟨⟨d0, d1, d2⟩, f0, f1, f2⟩ := box_three (box_kept bx hb2)
  have hB2 : Below w.heap.size w w2 := below_keep hB1 hb2
  have hz2 : w.heap.size + 1 < w2.heap.size := by have := hb2.size; omega
  clear hb2 hB1 bx
  go_wp2_with fail
  rw [aggG_bool]
  exact bodyPost_ret (v := .agg #[.int .i64 3, .int .i64 (b2i (!r)), .string ⟨#[]⟩]) (by simp [results, Tryz.results69, go_sem, d0, d1, d2]) rfl ⟨rfl, ((hB2.setCell (Nat.le_succ _) _).setCell (Nat.le_succ _) _).setCell (Nat.le_succ _) _⟩
end Go.Proofs.YtfmbbfidjcgeiaaGreatDoor

namespace Go.Proofs.YtfmbbfidjcgeiaaGreatDoor
open Go.RowKit Go.Lib Go.Shelf

set_option maxHeartbeats 4000000 in
set_option maxRecDepth 100000 in
theorem apply_8 (b o n1 c1 : Nat) (vr : Value) (xa xb col : Int) (c : GVal) (k1 m1 k2 m2 : Int) (s1 s2 : ByteArray) (w : World) (hn : 1 < n1) (h63 : n1 ≤ 9223372036854775807)
    (p0 : w.cell? ⟨b, o, none⟩ = some (.int .i64 k1)) (p1 : w.cell? ⟨b, o + 1, none⟩ = some (.int .i64 m1)) (p2 : w.cell? ⟨b, o + 2, none⟩ = some (.string s1))
    (q0 : w.cell? ⟨b, o + 3, none⟩ = some (.int .i64 k2)) (q1 : w.cell? ⟨b, o + 3 + 1, none⟩ = some (.int .i64 m2)) (q2 : w.cell? ⟨b, o + 3 + 2, none⟩ = some (.string s2)) :
    Calls Tryz.prog 69 #[aggX ⟨8, xa, xb, col, c⟩, .slice (some ⟨b, o, none⟩) n1 c1, vr] w fun e w' => e = .returned (aggG (gbool (isTrueG ⟨k1, m1, s1⟩ && isTrueG ⟨k2, m2, s2⟩))) ∧ Below w.heap.size w w' := by
  have lb : b < w.heap.size := World.block_lt_of_cell? w _ p0
  have lb1 : b < w.heap.size + 1 := by omega
  have lb2 : b < w.heap.size + 1 + 1 := by omega
  have hn0 : 0 < n1 := by omega
  obtain ⟨ck, cn, cs⟩ := c
  obtain ⟨r, hr⟩ : ∃ r, r = isTrueG ⟨k1, m1, s1⟩ := ⟨_, rfl⟩
  obtain ⟨t, ht⟩ : ∃ t, t = isTrueG ⟨k2, m2, s2⟩ := ⟨_, rfl⟩
  rw [← hr, ← ht]
  have HR := Lib.hid hr
  have HT := Lib.hid ht
  clear hr ht
  unfold aggX
  dsimp only
  go_enter Tryz.func69, Tryz.ntmps69
  go_wp2_with fail
  refine (isTrue_ag k1 m1 s1 _).mono ?_
  rintro e w1 ⟨rfl, hb1⟩
  rw [← HR.out]
  have hB1 : Below w.heap.size w w1 := below_keep (below_alloc_two w _ _) hb1
  have bx := box_kept (heap2_1 w _ _) hb1
  have hz : w.heap.size + 1 < w1.heap.size := by have := hb1.size; simp at this; omega
  replace q0 := cell_keep hB1 q0
  replace q1 := cell_keep hB1 q1
  replace q2 := cell_keep hB1 q2
  clear hb1
  cases r
  · go_wp2_with fail
    refine (boolean_ag false _).mono ?_
    rintro e w3 ⟨rfl, hb3⟩
    obtain ⟨⟨d0, d1, d2⟩, f0, f1, f2⟩ := box_three (box_kept bx hb3)
    have hB3 := below_keep hB1 hb3
    have hz3 : w.heap.size + 1 < w3.heap.size := by have := hb3.size; omega
    clear hb3 hB1 bx
    go_wp2_with fail
    exact bodyPost_ret (v := .agg #[.int .i64 3, .int .i64 (b2i false), .string ⟨#[]⟩]) (by simp [results, Tryz.results69, go_sem, d0, d1, d2]) rfl ⟨by simp only [Bool.false_and]; rfl, ((hB3.setCell (Nat.le_succ _) _).setCell (Nat.le_succ _) _).setCell (Nat.le_succ _) _⟩
  · go_wp2_with fail
    refine (isTrue_ag k2 m2 s2 _).mono ?_
    rintro e w2 ⟨rfl, hb2⟩
    rw [← HT.out]
    replace bx := box_kept bx hb2
    replace hB1 := below_keep hB1 hb2
    replace hz : w.heap.size + 1 < w2.heap.size := by have := hb2.size; omega
    clear hb2
    go_wp2_with fail
    refine (boolean_ag t _).mono ?_
    rintro e w3 ⟨rfl, hb3⟩
    obtain ⟨⟨d0, d1, d2⟩, f0, f1, f2⟩ := box_three (box_kept bx hb3)
    have hB3 := below_keep hB1 hb3
    have hz3 : w.heap.size + 1 < w3.heap.size := by have := hb3.size; omega
    clear hb3 hB1 bx
    go_wp2_with fail
    exact bodyPost_ret (v := .agg #[.int .i64 3, .int .i64 (b2i t), .string ⟨#[]⟩]) (by simp [results, Tryz.results69, go_sem, d0, d1, d2]) rfl ⟨by simp only [Bool.true_and]; rfl, ((hB3.setCell (Nat.le_succ _) _).setCell (Nat.le_succ _) _).setCell (Nat.le_succ _) _⟩
set_option maxHeartbeats 4000000 in
set_option maxRecDepth 100000 in
theorem apply_9 (b o n1 c1 : Nat) (vr : Value) (xa xb col : Int) (c : GVal) (k1 m1 k2 m2 : Int) (s1 s2 : ByteArray) (w : World) (hn : 1 < n1) (h63 : n1 ≤ 9223372036854775807)
    (p0 : w.cell? ⟨b, o, none⟩ = some (.int .i64 k1)) (p1 : w.cell? ⟨b, o + 1, none⟩ = some (.int .i64 m1)) (p2 : w.cell? ⟨b, o + 2, none⟩ = some (.string s1))
    (q0 : w.cell? ⟨b, o + 3, none⟩ = some (.int .i64 k2)) (q1 : w.cell? ⟨b, o + 3 + 1, none⟩ = some (.int .i64 m2)) (q2 : w.cell? ⟨b, o + 3 + 2, none⟩ = some (.string s2)) :
    Calls Tryz.prog 69 #[aggX ⟨9, xa, xb, col, c⟩, .slice (some ⟨b, o, none⟩) n1 c1, vr] w fun e w' => e = .returned (aggG (gbool (isTrueG ⟨k1, m1, s1⟩ || isTrueG ⟨k2, m2, s2⟩))) ∧ Below w.heap.size w w' := by
  have lb : b < w.heap.size := World.block_lt_of_cell? w _ p0
  have lb1 : b < w.heap.size + 1 := by omega
  have lb2 : b < w.heap.size + 1 + 1 := by omega
  have hn0 : 0 < n1 := by omega
  obtain ⟨ck, cn, cs⟩ := c
  obtain ⟨r, hr⟩ : ∃ r, r = isTrueG ⟨k1, m1, s1⟩ := ⟨_, rfl⟩
  obtain ⟨t, ht⟩ : ∃ t, t = isTrueG ⟨k2, m2, s2⟩ := ⟨_, rfl⟩
  rw [← hr, ← ht]
  have HR := Lib.hid hr
  have HT := Lib.hid ht
  clear hr ht
  unfold aggX
  dsimp only
  go_enter Tryz.func69, Tryz.ntmps69
  go_wp2_with fail
  refine (isTrue_ag k1 m1 s1 _).mono ?_
  rintro e w1 ⟨rfl, hb1⟩
  rw [← HR.out]
  have hB1 : Below w.heap.size w w1 := below_keep (below_alloc_two w _ _) hb1
  have bx := box_kept (heap2_1 w _ _) hb1
  have hz : w.heap.size + 1 < w1.heap.size := by have := hb1.size; simp at this; omega
  replace q0 := cell_keep hB1 q0
  replace q1 := cell_keep hB1 q1
  replace q2 := cell_keep hB1 q2
  clear hb1
  cases r
  · go_wp2_with fail
    refine (isTrue_ag k2 m2 s2 _).mono ?_
    rintro e w2 ⟨rfl, hb2⟩
    rw [← HT.out]
    replace bx := box_kept bx hb2
    replace hB1 := below_keep hB1 hb2
    replace hz : w.heap.size + 1 < w2.heap.size := by have := hb2.size; omega
    clear hb2
    go_wp2_with fail
    refine (boolean_ag t _).mono ?_
    rintro e w3 ⟨rfl, hb3⟩
    obtain ⟨⟨d0, d1, d2⟩, f0, f1, f2⟩ := box_three (box_kept bx hb3)
    have hB3 := below_keep hB1 hb3
    have hz3 : w.heap.size + 1 < w3.heap.size := by have := hb3.size; omega
    clear hb3 hB1 bx
    go_wp2_with fail
    exact bodyPost_ret (v := .agg #[.int .i64 3, .int .i64 (b2i t), .string ⟨#[]⟩]) (by simp [results, Tryz.results69, go_sem, d0, d1, d2]) rfl ⟨by simp only [Bool.false_or]; rfl, ((hB3.setCell (Nat.le_succ _) _).setCell (Nat.le_succ _) _).setCell (Nat.le_succ _) _⟩
  · go_wp2_with fail
    refine (boolean_ag true _).mono ?_
    rintro e w3 ⟨rfl, hb3⟩
    obtain ⟨⟨d0, d1, d2⟩, f0, f1, f2⟩ := box_three (box_kept bx hb3)
    have hB3 := below_keep hB1 hb3
    have hz3 : w.heap.size + 1 < w3.heap.size := by have := hb3.size; omega
    clear hb3 hB1 bx
    go_wp2_with fail
    exact bodyPost_ret (v := .agg #[.int .i64 3, .int .i64 (b2i true), .string ⟨#[]⟩]) (by simp [results, Tryz.results69, go_sem, d0, d1, d2]) rfl ⟨by simp only [Bool.true_or]; rfl, ((hB3.setCell (Nat.le_succ _) _).setCell (Nat.le_succ _) _).setCell (Nat.le_succ _) _⟩
set_option maxHeartbeats 4000000 in
set_option maxRecDepth 100000 in
theorem apply_11 (b o n1 c1 : Nat) (vr : Value) (xa xb col : Int) (c : GVal) (k1 : Int) (w : World) (hn : 0 < n1) (_h63 : n1 ≤ 9223372036854775807)
    (p0 : w.cell? ⟨b, o, none⟩ = some (.int .i64 k1)) :
    Calls Tryz.prog 69 #[aggX ⟨11, xa, xb, col, c⟩, .slice (some ⟨b, o, none⟩) n1 c1, vr] w fun e w' => e = .returned (aggG (gbool (k1 == 0))) ∧ Below w.heap.size w w' := by
  have lb : b < w.heap.size := World.block_lt_of_cell? w _ p0
  have lb1 : b < w.heap.size + 1 := by omega
  have lb2 : b < w.heap.size + 1 + 1 := by omega
  obtain ⟨ck, cn, cs⟩ := c
  unfold aggX
  dsimp only
  go_enter Tryz.func69, Tryz.ntmps69
  go_wp2_with fail
  refine (boolean_ag (k1 == 0) _).mono ?_
  rintro e w3 ⟨rfl, hb3⟩
  have hB3 := below_keep (below_alloc_two w _ _) hb3
  obtain ⟨⟨d0, d1, d2⟩, f0, f1, f2⟩ := box_three (box_kept (heap2_1 w _ _) hb3)
  have hz3 : w.heap.size + 1 < w3.heap.size := by have := hb3.size; simp at this; omega
  clear hb3
  go_wp2_with fail
  exact bodyPost_ret (v := .agg #[.int .i64 3, .int .i64 (b2i (k1 == 0)), .string ⟨#[]⟩]) (by simp [results, Tryz.results69, go_sem, d0, d1, d2]) rfl ⟨rfl, ((hB3.setCell (Nat.le_succ _) _).setCell (Nat.le_succ _) _).setCell (Nat.le_succ _) _⟩
end Go.Proofs.YtfmbbfidjcgeiaaGreatDoor

namespace Go.Proofs.YtfmbbfidjcgeiaaGreatDoor
open Go.RowKit Go.Lib Go.Shelf

theorem vAt_set3 {W : World} {p q1 q2 q3 : Addr} {u1 u2 u3 v : Value} (h : W.cell? p = some v) : (((W.setCell q1 u1).setCell q2 u2).setCell q3 u3).cell? p = some (vAt (((W.setCell q1 u1).setCell q2 u2).setCell q3 u3) p) := vAt_set (vAt_set (vAt_set h))
theorem cell_set3 {W : World} {p q1 q2 q3 : Addr} {u1 u2 u3 v : Value} (h : W.cell? p = some v) (h1 : q1.block ≠ p.block) (h2 : q2.block = q1.block) (h3 : q3.block = q1.block) : (((W.setCell q1 u1).setCell q2 u2).setCell q3 u3).cell? p = some v := by
  rw [World.cell?_setCell_far _ _ _ _ (by rw [h3]; exact h1), World.cell?_setCell_far _ _ _ _ (by rw [h2]; exact h1), World.cell?_setCell_far _ _ _ _ h1]
  exact h
theorem below_set3 {w W : World} {q1 q2 q3 : Addr} {u1 u2 u3 : Value} (h : Below w.heap.size w W) (h1 : w.heap.size ≤ q1.block) (h2 : w.heap.size ≤ q2.block) (h3 : w.heap.size ≤ q3.block) : Below w.heap.size w (((W.setCell q1 u1).setCell q2 u2).setCell q3 u3) :=
  ((h.setCell h1 _).setCell h2 _).setCell h3 _
theorem frozen_set3 {W : World} {p q1 q2 q3 : Addr} {u1 u2 u3 : Value} (h : W.frozen? p = false) : (((W.setCell q1 u1).setCell q2 u2).setCell q3 u3).frozen? p = false := by simp [h]
theorem heap2_1d (w : World) (c1 c2 : Obj) : ((w.alloc c1).alloc c2).drew.heap[w.heap.size + 1]? = some c2 := heap2_1 w c1 c2
theorem size_set3 {n : Nat} {W : World} {q1 q2 q3 : Addr} {u1 u2 u3 : Value} (h : n < W.heap.size) : n < (((W.setCell q1 u1).setCell q2 u2).setCell q3 u3).heap.size := by simpa [World.setCell] using h
set_option maxHeartbeats 4000000 in
set_option maxRecDepth 100000 in
theorem apply_arith (op : Int) (ho : op = 3 ∨ op = 4 ∨ op = 5) (b o n1 c1 : Nat) (vr : Value) (xa xb col : Int) (c : GVal) (k1 m1 k2 m2 : Int) (s1 s2 : ByteArray) (w : World) (hn : 1 < n1) (h63 : n1 ≤ 9223372036854775807) (hm1 : In64 m1) (hm2 : In64 m2)
    (p0 : w.cell? ⟨b, o, none⟩ = some (.int .i64 k1)) (p1 : w.cell? ⟨b, o + 1, none⟩ = some (.int .i64 m1)) (p2 : w.cell? ⟨b, o + 2, none⟩ = some (.string s1))
    (q0 : w.cell? ⟨b, o + 3, none⟩ = some (.int .i64 k2)) (q1 : w.cell? ⟨b, o + 3 + 1, none⟩ = some (.int .i64 m2)) (q2 : w.cell? ⟨b, o + 3 + 2, none⟩ = some (.string s2)) :
    Calls Tryz.prog 69 #[aggX ⟨op, xa, xb, col, c⟩, .slice (some ⟨b, o, none⟩) n1 c1, vr] w fun e w' => e = .returned (aggG (arithG op ⟨k1, m1, s1⟩ ⟨k2, m2, s2⟩)) ∧ Below w.heap.size w w' := by
  have lb : b < w.heap.size := World.block_lt_of_cell? w _ p0
  have hn0 : 0 < n1 := by omega
  have hn1 : (1 : Int) ≤ (n1 : Int) - 1 := by omega
  have hn2 : (1 : Int) < (n1 : Int) := by omega
  have hn3 : ¬ (n1 : Int) ≤ 1 := by omega
  have hn4 : ¬ n1 ≤ 1 := by omega
  have HA : ∀ W, Hid (Calls Tryz.prog 96 #[.int .i64 op, .agg #[.int .i64 k1, .int .i64 m1, .string s1], .agg #[.int .i64 k2, .int .i64 m2, .string s2]] W fun e w' => e = .returned (aggG (arithG op ⟨k1, m1, s1⟩ ⟨k2, m2, s2⟩)) ∧ Below W.heap.size W w') := fun W => arith_any op ⟨k1, m1, s1⟩ ⟨k2, m2, s2⟩ ho hm1 hm2 W
  obtain ⟨ck, cn, cs⟩ := c
  obtain ⟨y, hy⟩ : ∃ y, y = arithG op ⟨k1, m1, s1⟩ ⟨k2, m2, s2⟩ := ⟨_, rfl⟩
  rw [← hy]
  rw [← hy] at HA
  clear hy hm1 hm2
  obtain ⟨ky, ny, sy⟩ := y
  unfold aggX
  unfold aggG at HA ⊢
  dsimp only at HA ⊢
  have hB0 := below_alloc_two w (.cells #[.int .i64 op, .int .i64 xa, .int .i64 xb, .int .i64 col, .int .i64 ck, .int .i64 cn, .string cs] 67) (.cells #[.int .i64 0, .int .i64 0, .string ⟨#[]⟩] 40)
  have hz0 : w.heap.size + 1 < ((w.alloc (.cells #[.int .i64 op, .int .i64 xa, .int .i64 xb, .int .i64 col, .int .i64 ck, .int .i64 cn, .string cs] 67)).alloc (.cells #[.int .i64 0, .int .i64 0, .string ⟨#[]⟩] 40)).heap.size := by simp
  have d0 : ((w.alloc (.cells #[.int .i64 op, .int .i64 xa, .int .i64 xb, .int .i64 col, .int .i64 ck, .int .i64 cn, .string cs] 67)).alloc (.cells #[.int .i64 0, .int .i64 0, .string ⟨#[]⟩] 40)).cell? ⟨w.heap.size, 0, none⟩ = some (.int .i64 op) := by simp [World.cell?, heap_alloc_old' w (.cells #[.int .i64 op, .int .i64 xa, .int .i64 xb, .int .i64 col, .int .i64 ck, .int .i64 cn, .string cs] 67) (.cells #[.int .i64 0, .int .i64 0, .string ⟨#[]⟩] 40)]
  obtain ⟨⟨r0, r1, r2⟩, f0, f1, f2⟩ := box_three (heap2_1 w (.cells #[.int .i64 op, .int .i64 xa, .int .i64 xb, .int .i64 col, .int .i64 ck, .int .i64 cn, .string cs] 67) (.cells #[.int .i64 0, .int .i64 0, .string ⟨#[]⟩] 40))
  replace r0 := vAt_of r0
  replace r1 := vAt_of r1
  replace r2 := vAt_of r2
  replace p0 := cell_keep hB0 p0
  replace p1 := cell_keep hB0 p1
  replace p2 := cell_keep hB0 p2
  replace q0 := cell_keep hB0 q0
  replace q1 := cell_keep hB0 q1
  replace q2 := cell_keep hB0 q2
  have lb1 : w.heap.size ≠ b := by omega
  have lb2 : w.heap.size + 1 ≠ b := by omega
  have lb3 : w.heap.size + 1 ≠ w.heap.size := by omega
  rcases ho with rfl | rfl | rfl
  · go_enter Tryz.func69, Tryz.ntmps69
    go_wp2_with fail
    go_region_held3 (fun W => Below w.heap.size w W ∧ w.heap.size + 1 < W.heap.size ∧ W.cell? ⟨w.heap.size, 0, none⟩ = some (.int .i64 3)
        ∧ W.cell? ⟨b, o, none⟩ = some (.int .i64 k1) ∧ W.cell? ⟨b, o + 1, none⟩ = some (.int .i64 m1) ∧ W.cell? ⟨b, o + 2, none⟩ = some (.string s1)
        ∧ W.cell? ⟨b, o + 3, none⟩ = some (.int .i64 k2) ∧ W.cell? ⟨b, o + 3 + 1, none⟩ = some (.int .i64 m2) ∧ W.cell? ⟨b, o + 3 + 2, none⟩ = some (.string s2)
        ∧ W.cell? ⟨w.heap.size + 1, 0, none⟩ = some (vAt W ⟨w.heap.size + 1, 0, none⟩) ∧ W.cell? ⟨w.heap.size + 1, 1, none⟩ = some (vAt W ⟨w.heap.size + 1, 1, none⟩) ∧ W.cell? ⟨w.heap.size + 1, 2, none⟩ = some (vAt W ⟨w.heap.size + 1, 2, none⟩)
        ∧ W.frozen? ⟨w.heap.size + 1, 0, none⟩ = false ∧ W.frozen? ⟨w.heap.size + 1, 1, none⟩ = false ∧ W.frozen? ⟨w.heap.size + 1, 2, none⟩ = false)
      ((go_split_ands; refine ⟨?_, ?_, ?_, ?_, ?_, ?_, ?_, ?_, ?_, ?_, ?_, ?_, ?_, ?_, ?_⟩ <;> first | (with_reducible assumption) | with_reducible exact Below.drew (by assumption) | with_reducible exact size_drew (by assumption) | with_reducible exact cell_drew (by assumption) | with_reducible exact vAt_drew (by assumption) | with_reducible exact frozen_drew (by assumption) | with_reducible exact below_keep (by assumption) (by assumption) | with_reducible exact size_keep (by assumption) (by assumption) | with_reducible exact cell_keep (by assumption) (by assumption) | with_reducible exact vAt_keep (by assumption) (by assumption) | with_reducible exact frozen_keep (by assumption) (by assumption) (by assumption) | with_reducible exact below_set3 (by assumption) (by simp) (by simp) (by simp) | with_reducible exact size_set3 (by assumption) | with_reducible exact cell_set3 (by assumption) (by simp [*]) rfl rfl | with_reducible exact vAt_set3 (by assumption) | with_reducible exact frozen_set3 (by assumption)))
      (first
        | (go_at_call 96; refine (HA _).out.mono ?_; rintro e wA ⟨rfl, hbA⟩))
    obtain ⟨⟨e0, e1, e2⟩, _⟩ := box_three (box_kept (heap2_1d w _ _) hbA)
    have hzA : w.heap.size + 1 < wA.heap.size := size_keep hbA (size_drew hz0)
    have hBA := below_keep hB0.drew hbA
    clear HA hB0 hz0 d0 r0 r1 r2 f0 f1 f2 p0 p1 p2 q0 q1 q2
    go_wp2_with fail
    exact bodyPost_ret (v := .agg #[.int .i64 ky, .int .i64 ny, .string sy]) (by simp [results, Tryz.results69, go_sem, e0, e1, e2]) rfl ⟨rfl, below_set3 hBA (Nat.le_succ _) (Nat.le_succ _) (Nat.le_succ _)⟩
  · go_enter Tryz.func69, Tryz.ntmps69
    go_wp2_with fail
    go_region_held3 (fun W => Below w.heap.size w W ∧ w.heap.size + 1 < W.heap.size ∧ W.cell? ⟨w.heap.size, 0, none⟩ = some (.int .i64 4)
        ∧ W.cell? ⟨b, o, none⟩ = some (.int .i64 k1) ∧ W.cell? ⟨b, o + 1, none⟩ = some (.int .i64 m1) ∧ W.cell? ⟨b, o + 2, none⟩ = some (.string s1)
        ∧ W.cell? ⟨b, o + 3, none⟩ = some (.int .i64 k2) ∧ W.cell? ⟨b, o + 3 + 1, none⟩ = some (.int .i64 m2) ∧ W.cell? ⟨b, o + 3 + 2, none⟩ = some (.string s2)
        ∧ W.cell? ⟨w.heap.size + 1, 0, none⟩ = some (vAt W ⟨w.heap.size + 1, 0, none⟩) ∧ W.cell? ⟨w.heap.size + 1, 1, none⟩ = some (vAt W ⟨w.heap.size + 1, 1, none⟩) ∧ W.cell? ⟨w.heap.size + 1, 2, none⟩ = some (vAt W ⟨w.heap.size + 1, 2, none⟩)
        ∧ W.frozen? ⟨w.heap.size + 1, 0, none⟩ = false ∧ W.frozen? ⟨w.heap.size + 1, 1, none⟩ = false ∧ W.frozen? ⟨w.heap.size + 1, 2, none⟩ = false)
      ((go_split_ands; refine ⟨?_, ?_, ?_, ?_, ?_, ?_, ?_, ?_, ?_, ?_, ?_, ?_, ?_, ?_, ?_⟩ <;> first | (with_reducible assumption) | with_reducible exact Below.drew (by assumption) | with_reducible exact size_drew (by assumption) | with_reducible exact cell_drew (by assumption) | with_reducible exact vAt_drew (by assumption) | with_reducible exact frozen_drew (by assumption) | with_reducible exact below_keep (by assumption) (by assumption) | with_reducible exact size_keep (by assumption) (by assumption) | with_reducible exact cell_keep (by assumption) (by assumption) | with_reducible exact vAt_keep (by assumption) (by assumption) | with_reducible exact frozen_keep (by assumption) (by assumption) (by assumption) | with_reducible exact below_set3 (by assumption) (by simp) (by simp) (by simp) | with_reducible exact size_set3 (by assumption) | with_reducible exact cell_set3 (by assumption) (by simp [*]) rfl rfl | with_reducible exact vAt_set3 (by assumption) | with_reducible exact frozen_set3 (by assumption)))
      (first
        | (go_at_call 96; refine (HA _).out.mono ?_; rintro e wA ⟨rfl, hbA⟩))
    obtain ⟨⟨e0, e1, e2⟩, _⟩ := box_three (box_kept (heap2_1d w _ _) hbA)
    have hzA : w.heap.size + 1 < wA.heap.size := size_keep hbA (size_drew hz0)
    have hBA := below_keep hB0.drew hbA
    clear HA hB0 hz0 d0 r0 r1 r2 f0 f1 f2 p0 p1 p2 q0 q1 q2
    go_wp2_with fail
    exact bodyPost_ret (v := .agg #[.int .i64 ky, .int .i64 ny, .string sy]) (by simp [results, Tryz.results69, go_sem, e0, e1, e2]) rfl ⟨rfl, below_set3 hBA (Nat.le_succ _) (Nat.le_succ _) (Nat.le_succ _)⟩
  · go_enter Tryz.func69, Tryz.ntmps69
    go_wp2_with fail
    go_region_held3 (fun W => Below w.heap.size w W ∧ w.heap.size + 1 < W.heap.size ∧ W.cell? ⟨w.heap.size, 0, none⟩ = some (.int .i64 5)
        ∧ W.cell? ⟨b, o, none⟩ = some (.int .i64 k1) ∧ W.cell? ⟨b, o + 1, none⟩ = some (.int .i64 m1) ∧ W.cell? ⟨b, o + 2, none⟩ = some (.string s1)
        ∧ W.cell? ⟨b, o + 3, none⟩ = some (.int .i64 k2) ∧ W.cell? ⟨b, o + 3 + 1, none⟩ = some (.int .i64 m2) ∧ W.cell? ⟨b, o + 3 + 2, none⟩ = some (.string s2)
        ∧ W.cell? ⟨w.heap.size + 1, 0, none⟩ = some (vAt W ⟨w.heap.size + 1, 0, none⟩) ∧ W.cell? ⟨w.heap.size + 1, 1, none⟩ = some (vAt W ⟨w.heap.size + 1, 1, none⟩) ∧ W.cell? ⟨w.heap.size + 1, 2, none⟩ = some (vAt W ⟨w.heap.size + 1, 2, none⟩)
        ∧ W.frozen? ⟨w.heap.size + 1, 0, none⟩ = false ∧ W.frozen? ⟨w.heap.size + 1, 1, none⟩ = false ∧ W.frozen? ⟨w.heap.size + 1, 2, none⟩ = false)
      ((go_split_ands; refine ⟨?_, ?_, ?_, ?_, ?_, ?_, ?_, ?_, ?_, ?_, ?_, ?_, ?_, ?_, ?_⟩ <;> first | (with_reducible assumption) | with_reducible exact Below.drew (by assumption) | with_reducible exact size_drew (by assumption) | with_reducible exact cell_drew (by assumption) | with_reducible exact vAt_drew (by assumption) | with_reducible exact frozen_drew (by assumption) | with_reducible exact below_keep (by assumption) (by assumption) | with_reducible exact size_keep (by assumption) (by assumption) | with_reducible exact cell_keep (by assumption) (by assumption) | with_reducible exact vAt_keep (by assumption) (by assumption) | with_reducible exact frozen_keep (by assumption) (by assumption) (by assumption) | with_reducible exact below_set3 (by assumption) (by simp) (by simp) (by simp) | with_reducible exact size_set3 (by assumption) | with_reducible exact cell_set3 (by assumption) (by simp [*]) rfl rfl | with_reducible exact vAt_set3 (by assumption) | with_reducible exact frozen_set3 (by assumption)))
      (first
        | (go_at_call 96; refine (HA _).out.mono ?_; rintro e wA ⟨rfl, hbA⟩))
    obtain ⟨⟨e0, e1, e2⟩, _⟩ := box_three (box_kept (heap2_1d w _ _) hbA)
    have hzA : w.heap.size + 1 < wA.heap.size := size_keep hbA (size_drew hz0)
    have hBA := below_keep hB0.drew hbA
    clear HA hB0 hz0 d0 r0 r1 r2 f0 f1 f2 p0 p1 p2 q0 q1 q2
    go_wp2_with fail
    exact bodyPost_ret (v := .agg #[.int .i64 ky, .int .i64 ny, .string sy]) (by simp [results, Tryz.results69, go_sem, e0, e1, e2]) rfl ⟨rfl, below_set3 hBA (Nat.le_succ _) (Nat.le_succ _) (Nat.le_succ _)⟩
end Go.Proofs.YtfmbbfidjcgeiaaGreatDoor

namespace Go.Proofs.YtfmbbfidjcgeiaaGreatDoor
open Go.RowKit Go.Lib Go.Shelf

set_option maxHeartbeats 4000000 in
set_option maxRecDepth 100000 in
theorem apply_unknown (op : Int) (ho : arity op < 0) (va vr : Value) (xa xb col : Int) (c : GVal) (w : World) :
    Calls Tryz.prog 69 #[aggX ⟨op, xa, xb, col, c⟩, va, vr] w fun e w' => e = .returned (aggG gnull) ∧ Below w.heap.size w w' := by
  have hop : op < 1 ∨ 11 < op := by have := arity_cases op; omega
  have b1 : (op == 1) = false := by rw [beq_eq_false_iff_ne]; omega
  have b2 : (op == 2) = false := by rw [beq_eq_false_iff_ne]; omega
  have b3 : (op == 3) = false := by rw [beq_eq_false_iff_ne]; omega
  have b4 : (op == 4) = false := by rw [beq_eq_false_iff_ne]; omega
  have b5 : (op == 5) = false := by rw [beq_eq_false_iff_ne]; omega
  have b6 : (op == 6) = false := by rw [beq_eq_false_iff_ne]; omega
  have b7 : (op == 7) = false := by rw [beq_eq_false_iff_ne]; omega
  have b8 : (op == 8) = false := by rw [beq_eq_false_iff_ne]; omega
  have b9 : (op == 9) = false := by rw [beq_eq_false_iff_ne]; omega
  have b10 : (op == 10) = false := by rw [beq_eq_false_iff_ne]; omega
  have b11 : (op == 11) = false := by rw [beq_eq_false_iff_ne]; omega
  clear ho hop
  obtain ⟨ck, cn, cs⟩ := c
  unfold aggX
  dsimp only
  go_enter Tryz.func69, Tryz.ntmps69
  go_wp2_with fail
  exact bodyPost_ret (v := aggG gnull) (by simp [aggG, gnull, results, Tryz.results69, go_sem]) rfl ⟨rfl, by first | exact below_alloc_two w _ _ | exact (below_alloc_two w _ _).setCell (by simp) _⟩
end Go.Proofs.YtfmbbfidjcgeiaaGreatDoor
