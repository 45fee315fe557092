/- A part of the proofs of the laws of chapter 19: CmpR, Grw, Cmg, Row, Ord. No condition beside sizes. -/
import Derived.Test.YtminnkihcohflaaMgB
import Derived.Test.YtminnkihcohflaaMgA
import Derived.Sort.Grow
namespace Go.Proofs.Ytminnkihcohflaa
open Go.RowKit

theorem gv_at3 {w : World} {G : Nat → Prop} {a : Option Addr} {n c k : Nat} {l : List GVal} {x : GVal} (h : Sl valE w G (.slice a n c) l) (hk : l[k]? = some x) :
    ∃ b o, a = some ⟨b, o, none⟩ ∧ w.cell? ⟨b, o + k * 3, none⟩ = some (.int .i64 x.kind) ∧ w.cell? ⟨b, o + k * 3 + 1, none⟩ = some (.int .i64 x.n) ∧ w.cell? ⟨b, o + k * 3 + 2, none⟩ = some (.string x.s) := by
  obtain ⟨b, o, cs, ha, rfl, hc⟩ := Sl.at h hk
  exact ⟨b, o, ha, hc 0 _ rfl, hc 1 _ rfl, hc 2 _ rfl⟩
set_option maxHeartbeats 4000000 in
set_option maxRecDepth 100000 in
theorem cmpFunc_any (v u : Value) (l m : List GVal) (w : World) (hv : Sl valE w free v l) (hu : Sl valE w free u m) :
    Calls Try.prog 166 #[v, u, .func (.func 122) #[] #[]] w fun e w' => e = .returned (.int .i64 (cmpRows l m)) ∧ Below w.heap.size w w' := by
  obtain ⟨a1, c1, rfl⟩ := hv.shape
  obtain ⟨a2, c2, rfl⟩ := hu.shape
  have h63 := hv.1
  have g63 := hu.1
  have HV := Lib.hid hv
  have HU := Lib.hid hu
  obtain ⟨n, hn⟩ : ∃ n, n = l.length := ⟨_, rfl⟩
  obtain ⟨n2, hn2⟩ : ∃ n, n = m.length := ⟨_, rfl⟩
  have HN := Lib.hid hn
  have HN2 := Lib.hid hn2
  rw [← hn] at HV h63 ⊢
  rw [← hn2] at HU g63 ⊢
  clear hv hu hn hn2
  go_enter Try.func166, Try.ntmps166
  go_wp2_with fail
  go_loopw [13] (fun i wr => ∃ k : Nat, k ≤ n ∧ k ≤ n2 ∧ i = .int .i64 (k : Int) ∧ Hid (cmpRows (l.drop k) (m.drop k) = cmpRows l m) ∧ Hid (Below w.heap.size w wr)) (fun i _ => n - (intOf i).toNat)
  case atStart => exact ⟨0, Nat.zero_le _, Nat.zero_le _, rfl, Lib.hid rfl, Lib.hid (Below.refl _ _)⟩
  case round =>
    obtain ⟨k, hk, hk2, rfl, HR, HB⟩ := hrel
    obtain ⟨wo, rfl⟩ : ∃ wo : World, wo = wr := ⟨_, rfl⟩
    by_cases hlt : k < n
    · obtain ⟨x, hx⟩ := lget_some l k (by rw [← HN.out]; exact hlt)
      obtain ⟨b, o, rfl, p0, p1, p2⟩ := gv_at3 (HV.out.below HB.out) hx
      by_cases hlt2 : k < n2
      · obtain ⟨y, hy⟩ := lget_some m k (by rw [← HN2.out]; exact hlt2)
        obtain ⟨b2, o2, rfl, q0, q1, q2⟩ := gv_at3 (HU.out.below HB.out) hy
        have lb2 : b2 < wo.heap.size := World.block_lt_of_cell? wo _ q0
        have lb : b < wo.heap.size := World.block_lt_of_cell? wo _ p0
        have HS : Hid (cmpRows (l.drop k) (m.drop k) = if cmpG x y = 0 then cmpRows (l.drop (k + 1)) (m.drop (k + 1)) else cmpG x y) := by rw [drop_get hx, drop_get hy]; exact Lib.hid rfl
        obtain ⟨r, hr⟩ : ∃ r, r = cmpG x y := ⟨_, rfl⟩
        have HC := Lib.hid (fun W => valCmp_any x y W)
        rw [← hr] at HS HC
        clear hx hy hr
        obtain ⟨xk, xn, xs⟩ := x
        obtain ⟨yk, yn, ys⟩ := y
        unfold aggG at HC
        dsimp only at HC p0 p1 p2 q0 q1 q2
        go_wp2_with fail
        refine (HC.out _).mono ?_
        rintro e w3 ⟨rfl, hb3⟩
        have HB3 := Lib.hid (below_keep (below_alloc_keep (below_alloc_keep HB.out)) hb3)
        clear hb3
        by_cases hr0 : r = 0
        · subst hr0
          have HR' : Hid (cmpRows (l.drop (k + 1)) (m.drop (k + 1)) = cmpRows l m) := by show _ = _; rw [← HR.out, HS.out, if_pos rfl]
          go_wp2_with fail
          go_roundw
          case rel => exact ⟨k + 1, by omega, by omega, by go_num, HR', HB3⟩
          case measure => simp [intOf]; omega
        · have HR' : Hid (cmpRows l m = r) := by show _ = _; rw [← HR.out, HS.out, if_neg hr0]
          have hne : (r != 0) = true := by simpa using hr0
          clear hr0
          go_wp2_with fail
          go_ret
          exact ⟨ret_int HR'.out.symm, HB3.out⟩
      · have hkn : k = n2 := by omega
        subst hkn
        have HS : Hid (cmpRows l m = 1) := by
          show _ = _
          rw [← HR.out, drop_get hx, List.drop_of_length_le (l := m) (by rw [← HN2.out]; exact Nat.le_refl _)]; rfl
        clear hx
        obtain ⟨xk, xn, xs⟩ := x
        dsimp only at p0 p1 p2
        go_wp2_with fail
        go_ret
        exact ⟨ret_int HS.out.symm, below_alloc_keep HB.out⟩
    · have hkn : k = n := by omega
      subst hkn
      by_cases h2 : k < n2
      · have HS : Hid (cmpRows l m = -1) := by
          show _ = _
          obtain ⟨y, hy⟩ := lget_some m k (by rw [← HN2.out]; exact h2)
          rw [← HR.out, drop_get hy, List.drop_of_length_le (l := l) (by rw [← HN.out]; exact Nat.le_refl _)]; rfl
        go_wp2_with fail
        go_ret
        exact ⟨ret_int HS.out.symm, HB.out⟩
      · have hkn2 : n2 = k := by omega
        subst hkn2
        have HS : Hid (cmpRows l m = 0) := by
          show _ = _
          rw [← HR.out, List.drop_of_length_le (l := l) (by rw [← HN.out]; exact Nat.le_refl _), List.drop_of_length_le (l := m) (by rw [← HN2.out]; exact Nat.le_refl _)]; rfl
        go_wp2_with fail
        go_ret
        exact ⟨ret_int HS.out.symm, HB.out⟩
set_option maxHeartbeats 1000000 in
theorem valRows_any (v u : Value) (l m : List GVal) (w : World) (hv : Sl valE w free v l) (hu : Sl valE w free u m) :
    Calls Try.prog 134 #[v, u] w fun e w' => e = .returned (.int .i64 (cmpRows l m)) ∧ Below w.heap.size w w' := by
  have HC := Lib.hid (cmpFunc_any v u l m w hv hu)
  clear hv hu
  go_enter Try.func134, Try.ntmps134
  go_wp2_with fail
  refine HC.out.mono ?_
  rintro e w1 ⟨rfl, hb1⟩
  have HB1 := Lib.hid hb1
  clear hb1
  go_wp2_with fail
  go_ret
  exact ⟨rfl, HB1.out⟩
end Go.Proofs.Ytminnkihcohflaa

namespace Go.Proofs.Ytminnkihcohflaa
open Go.RowKit Go.Lib Go.Sort

def Grew (w w' : World) : Prop := ∃ q os, w' = grow (w.drewN q) os
theorem Grew.refl (w : World) : Grew w w := ⟨0, #[], by simp [grow, World.drewN]⟩
theorem Grew.alloc {a w : World} (h : Grew a w) (o : Obj) : Grew a (w.alloc o) := by
  obtain ⟨q, os, rfl⟩ := h
  exact ⟨q, os ++ #[o], by rw [alloc_eq_grow, grow_grow]⟩
theorem Grew.drew {a w : World} (h : Grew a w) : Grew a w.drew := by
  obtain ⟨q, os, rfl⟩ := h
  exact ⟨q + 1, os, rfl⟩
theorem Grew.trans {a b c : World} (h : Grew a b) (k : Grew b c) : Grew a c := by
  obtain ⟨q, os, rfl⟩ := h
  obtain ⟨q2, os2, rfl⟩ := k
  exact ⟨q + q2, os ++ os2, by simp [grow, World.drewN, Nat.add_assoc]⟩
theorem Grew.below {w w' : World} (h : Grew w w') : Below w.heap.size w w' := by
  obtain ⟨q, os, rfl⟩ := h
  refine ⟨rfl, rfl, rfl, by simp [grow, World.drewN], fun k hk => ?_⟩
  show (w.heap ++ os)[k]? = _
  rw [Array.getElem?_append_left hk]
theorem grew_alloc2 (w : World) (o o2 : Obj) : Grew w ((w.alloc o).alloc o2) := ((Grew.refl w).alloc o).alloc o2
theorem grew_alloc_keep {w W : World} {o : Obj} (h : Grew w W) : Grew w (W.alloc o) := h.alloc o
theorem grew_alloc_drew {w W : World} {o : Obj} (h : Grew w W.drew) : Grew w (W.alloc o).drew := by
  obtain ⟨q, os, e⟩ := h
  refine ⟨q, os ++ #[o], ?_⟩
  have e2 : (W.alloc o).drew = W.drew.alloc o := rfl
  rw [e2, e, alloc_eq_grow, grow_grow]
theorem grew_keep {w W W' : World} (h : Grew w W) (hb : Grew W W') : Grew w W' := h.trans hb

set_option maxHeartbeats 4000000 in
set_option maxRecDepth 100000 in
theorem valCmp_g (a b : GVal) (w : World) : Calls Try.prog 122 #[aggG a, aggG b] w fun e w' => e = .returned (.int .i64 (cmpG a b)) ∧ Grew w w' := by
  have HC := Lib.hid (cmpG_or a b)
  obtain ⟨k1, n1, s1⟩ := a
  obtain ⟨k2, n2, s2⟩ := b
  obtain ⟨r1, hr1⟩ : ∃ r, r = cmpI k1 k2 := ⟨_, rfl⟩
  obtain ⟨r2, hr2⟩ : ∃ r, r = cmpI n1 n2 := ⟨_, rfl⟩
  obtain ⟨r3, hr3⟩ : ∃ r, r = Lib.compareBytes s1.data.toList s2.data.toList := ⟨_, rfl⟩
  have H1 := fun W => Lib.hid (cmpInt_any k1 k2 W)
  have H2 := fun W => Lib.hid (cmpI64_any n1 n2 W)
  have H3 := fun W => Lib.hid (cmpStr_any s1 s2 W)
  dsimp only at HC
  rw [← hr1, ← hr2, ← hr3] at HC
  rw [← hr1] at H1
  rw [← hr2] at H2
  rw [← hr3] at H3
  clear hr1 hr2 hr3
  unfold aggG
  dsimp only
  go_enter Try.func122, Try.ntmps122
  go_wp2_with fail
  have hB0 := grew_alloc2 w (.cells #[.int .i64 k1, .int .i64 n1, .string s1] 79) (.cells #[.int .i64 k2, .int .i64 n2, .string s2] 79)
  obtain ⟨c0, c1, c2⟩ := block_cells3 (heap_alloc_old' w (.cells #[.int .i64 k1, .int .i64 n1, .string s1] 79) (.cells #[.int .i64 k2, .int .i64 n2, .string s2] 79))
  obtain ⟨d0, d1, d2⟩ := block_cells3 (heap_alloc_new' w (.cells #[.int .i64 k1, .int .i64 n1, .string s1] 79) (.cells #[.int .i64 k2, .int .i64 n2, .string s2] 79))
  have hN : (((w.alloc (.cells #[.int .i64 k1, .int .i64 n1, .string s1] 79)).alloc (.cells #[.int .i64 k2, .int .i64 n2, .string s2] 79)).alloc (.cells #[.int .i64 r1, .int .i64 r2, .int .i64 r3] 3)).drew.heap[w.heap.size + 1 + 1]? = some (.cells #[.int .i64 r1, .int .i64 r2, .int .i64 r3] 3) := by
    have := heap_alloc_new ((w.alloc (.cells #[.int .i64 k1, .int .i64 n1, .string s1] 79)).alloc (.cells #[.int .i64 k2, .int .i64 n2, .string s2] 79)) (.cells #[.int .i64 r1, .int .i64 r2, .int .i64 r3] 3)
    simp only [World.size_alloc] at this
    exact this
  have HOR := Lib.hid (cmpOr_any _ [r1, r2, r3] _ (Sl.of_block (n := 3) (m := 3) hN (Els.cons (cs := [.int .i64 r1]) rfl (Els.cons (cs := [.int .i64 r2]) rfl (Els.one (cs := [.int .i64 r3]) rfl))) id rfl (by simp) (by simp)))
  rw [HC.out] at HOR
  clear hN
  go_region_held3 (fun W => Grew w W ∧ W.cell? ⟨w.heap.size, 0, none⟩ = some (.int .i64 k1) ∧ W.cell? ⟨w.heap.size, 1, none⟩ = some (.int .i64 n1) ∧ W.cell? ⟨w.heap.size, 2, none⟩ = some (.string s1)
      ∧ W.cell? ⟨w.heap.size + 1, 0, none⟩ = some (.int .i64 k2) ∧ W.cell? ⟨w.heap.size + 1, 1, none⟩ = some (.int .i64 n2) ∧ W.cell? ⟨w.heap.size + 1, 2, none⟩ = some (.string s2))
    ((go_split_ands; refine ⟨?_, ?_, ?_, ?_, ?_, ?_, ?_⟩ <;> first | (with_reducible assumption) | with_reducible exact Grew.drew (by assumption) | with_reducible exact cell_drew (by assumption) | with_reducible exact grew_alloc_keep (by assumption) | with_reducible exact cell_alloc (by assumption) | with_reducible exact grew_alloc_drew (by assumption) | with_reducible exact cell_alloc_drew (by assumption)))
    (first
      | (go_at_call 116; refine (H1 _).out.mono ?_; rintro e w' ⟨rfl, rfl⟩)
      | (go_at_call 149; refine (H2 _).out.mono ?_; rintro e w' ⟨rfl, rfl⟩)
      | (go_at_call 150; refine (H3 _).out.mono ?_; rintro e w' ⟨rfl, rfl⟩)
      | (go_at_call 133; refine HOR.out.mono ?_; rintro e w' ⟨rfl, rfl⟩))
  all_goals go_split_ands
  all_goals go_wp2_with fail
  all_goals go_ret
  all_goals exact ⟨rfl, by assumption⟩
end Go.Proofs.Ytminnkihcohflaa

namespace Go.Proofs.Ytminnkihcohflaa
open Go.RowKit Go.Sort

set_option maxHeartbeats 4000000 in
set_option maxRecDepth 100000 in
theorem cmpFunc_g (v u : Value) (l m : List GVal) (w : World) (hv : Sl valE w free v l) (hu : Sl valE w free u m) :
    Calls Try.prog 166 #[v, u, .func (.func 122) #[] #[]] w fun e w' => e = .returned (.int .i64 (cmpRows l m)) ∧ Grew w w' := by
  obtain ⟨a1, c1, rfl⟩ := hv.shape
  obtain ⟨a2, c2, rfl⟩ := hu.shape
  have h63 := hv.1
  have g63 := hu.1
  have HV := Lib.hid hv
  have HU := Lib.hid hu
  obtain ⟨n, hn⟩ : ∃ n, n = l.length := ⟨_, rfl⟩
  obtain ⟨n2, hn2⟩ : ∃ n, n = m.length := ⟨_, rfl⟩
  have HN := Lib.hid hn
  have HN2 := Lib.hid hn2
  rw [← hn] at HV h63 ⊢
  rw [← hn2] at HU g63 ⊢
  clear hv hu hn hn2
  go_enter Try.func166, Try.ntmps166
  go_wp2_with fail
  go_loopw [13] (fun i wr => ∃ k : Nat, k ≤ n ∧ k ≤ n2 ∧ i = .int .i64 (k : Int) ∧ Hid (cmpRows (l.drop k) (m.drop k) = cmpRows l m) ∧ Hid (Grew w wr)) (fun i _ => n - (intOf i).toNat)
  case atStart => exact ⟨0, Nat.zero_le _, Nat.zero_le _, rfl, Lib.hid rfl, Lib.hid (Grew.refl _)⟩
  case round =>
    obtain ⟨k, hk, hk2, rfl, HR, HB⟩ := hrel
    obtain ⟨wo, rfl⟩ : ∃ wo : World, wo = wr := ⟨_, rfl⟩
    by_cases hlt : k < n
    · obtain ⟨x, hx⟩ := lget_some l k (by rw [← HN.out]; exact hlt)
      obtain ⟨b, o, rfl, p0, p1, p2⟩ := gv_at3 (HV.out.below HB.out.below) hx
      by_cases hlt2 : k < n2
      · obtain ⟨y, hy⟩ := lget_some m k (by rw [← HN2.out]; exact hlt2)
        obtain ⟨b2, o2, rfl, q0, q1, q2⟩ := gv_at3 (HU.out.below HB.out.below) hy
        have lb2 : b2 < wo.heap.size := World.block_lt_of_cell? wo _ q0
        have lb : b < wo.heap.size := World.block_lt_of_cell? wo _ p0
        have HS : Hid (cmpRows (l.drop k) (m.drop k) = if cmpG x y = 0 then cmpRows (l.drop (k + 1)) (m.drop (k + 1)) else cmpG x y) := by rw [drop_get hx, drop_get hy]; exact Lib.hid rfl
        obtain ⟨r, hr⟩ : ∃ r, r = cmpG x y := ⟨_, rfl⟩
        have HC := Lib.hid (fun W => valCmp_g x y W)
        rw [← hr] at HS HC
        clear hx hy hr
        obtain ⟨xk, xn, xs⟩ := x
        obtain ⟨yk, yn, ys⟩ := y
        unfold aggG at HC
        dsimp only at HC p0 p1 p2 q0 q1 q2
        go_wp2_with fail
        refine (HC.out _).mono ?_
        rintro e w3 ⟨rfl, hb3⟩
        have HB3 := Lib.hid (grew_keep (grew_alloc_keep (grew_alloc_keep HB.out)) hb3)
        clear hb3
        by_cases hr0 : r = 0
        · subst hr0
          have HR' : Hid (cmpRows (l.drop (k + 1)) (m.drop (k + 1)) = cmpRows l m) := by show _ = _; rw [← HR.out, HS.out, if_pos rfl]
          go_wp2_with fail
          go_roundw
          case rel => exact ⟨k + 1, by omega, by omega, by go_num, HR', HB3⟩
          case measure => simp [intOf]; omega
        · have HR' : Hid (cmpRows l m = r) := by show _ = _; rw [← HR.out, HS.out, if_neg hr0]
          have hne : (r != 0) = true := by simpa using hr0
          clear hr0
          go_wp2_with fail
          go_ret
          exact ⟨ret_int HR'.out.symm, HB3.out⟩
      · have hkn : k = n2 := by omega
        subst hkn
        have HS : Hid (cmpRows l m = 1) := by
          show _ = _
          rw [← HR.out, drop_get hx, List.drop_of_length_le (l := m) (by rw [← HN2.out]; exact Nat.le_refl _)]; rfl
        clear hx
        obtain ⟨xk, xn, xs⟩ := x
        dsimp only at p0 p1 p2
        go_wp2_with fail
        go_ret
        exact ⟨ret_int HS.out.symm, grew_alloc_keep HB.out⟩
    · have hkn : k = n := by omega
      subst hkn
      by_cases h2 : k < n2
      · have HS : Hid (cmpRows l m = -1) := by
          show _ = _
          obtain ⟨y, hy⟩ := lget_some m k (by rw [← HN2.out]; exact h2)
          rw [← HR.out, drop_get hy, List.drop_of_length_le (l := l) (by rw [← HN.out]; exact Nat.le_refl _)]; rfl
        go_wp2_with fail
        go_ret
        exact ⟨ret_int HS.out.symm, HB.out⟩
      · have hkn2 : n2 = k := by omega
        subst hkn2
        have HS : Hid (cmpRows l m = 0) := by
          show _ = _
          rw [← HR.out, List.drop_of_length_le (l := l) (by rw [← HN.out]; exact Nat.le_refl _), List.drop_of_length_le (l := m) (by rw [← HN2.out]; exact Nat.le_refl _)]; rfl
        go_wp2_with fail
        go_ret
        exact ⟨ret_int HS.out.symm, HB.out⟩
set_option maxHeartbeats 1000000 in
theorem valRows_g (v u : Value) (l m : List GVal) (w : World) (hv : Sl valE w free v l) (hu : Sl valE w free u m) :
    Calls Try.prog 134 #[v, u] w fun e w' => e = .returned (.int .i64 (cmpRows l m)) ∧ Grew w w' := by
  have HC := Lib.hid (cmpFunc_g v u l m w hv hu)
  clear hv hu
  go_enter Try.func134, Try.ntmps134
  go_wp2_with fail
  refine HC.out.mono ?_
  rintro e w1 ⟨rfl, hb1⟩
  have HB1 := Lib.hid hb1
  clear hb1
  go_wp2_with fail
  go_ret
  exact ⟨rfl, HB1.out⟩
end Go.Proofs.Ytminnkihcohflaa

namespace Go.Proofs.Ytminnkihcohflaa
open Go.RowKit Go.Lib Go.Sort

/-- A row. -/
structure GRow where
  vals : List GVal
  lin : List Int
theorem row_info : (Try.prog.info? 97).map (fun i => (i.zero, i.size, i.bytes)) = some (some (.agg #[.slice none 0 0, .slice none 0 0]), 2, 48) := by kernel_rfl
/-- Rows. -/
def rowE : El Try.prog GRow where
  ty := 97
  size := 2
  bytes := 48
  pos := by decide
  info := info_mk row_info rfl
  is := fun w G t cs => ∃ v u, cs = [v, u] ∧ Sl valE w G v t.vals ∧ Sl intE w G u t.lin
  len := by rintro w G t cs ⟨v, u, rfl, _⟩; rfl
  one := by
    rintro w G t cs ⟨v, u, rfl, h1, h2⟩ x hx
    simp at hx
    rcases hx with rfl | rfl
    · exact h1.one
    · exact h2.one
  mono := by rintro w G G' t cs ⟨v, u, rfl, h1, h2⟩ hm; exact ⟨v, u, rfl, h1.mono hm, h2.mono hm⟩
  kept := by rintro w w' G t cs ⟨v, u, rfl, h1, h2⟩ hk; exact ⟨v, u, rfl, h1.kept hk, h2.kept hk⟩
theorem rows_at {w : World} {G : Nat → Prop} {a : Option Addr} {n c k : Nat} {l : List GRow} {x : GRow} (h : Sl rowE w G (.slice a n c) l) (hk : l[k]? = some x) :
    ∃ b o a1 n1 e1 m1, a = some ⟨b, o, none⟩ ∧ Sl valE w G (.slice a1 x.vals.length n1) x.vals ∧ Sl intE w G (.slice e1 x.lin.length m1) x.lin ∧
      w.cell? ⟨b, o + k * 2, none⟩ = some (.slice a1 x.vals.length n1) ∧ w.cell? ⟨b, o + k * 2 + 1, none⟩ = some (.slice e1 x.lin.length m1) := by
  obtain ⟨b, o, cs, ha, ⟨v, u, rfl, hv, hu⟩, hc⟩ := Sl.at h hk
  obtain ⟨a1, n1, rfl⟩ := hv.shape
  obtain ⟨e1, m1, rfl⟩ := hu.shape
  exact ⟨b, o, a1, n1, e1, m1, ha, hv, hu, hc 0 _ rfl, hc 1 _ rfl⟩
/-- The order of rows. -/
def cmpRow (a b : GRow) : Int := if cmpRows a.vals b.vals = 0 then cmpInts a.lin b.lin else cmpRows a.vals b.vals
theorem cmpInts_cons (x y : Int) (l m : List Int) : cmpInts (x :: l) (y :: m) = if cmpI x y = 0 then cmpInts l m else cmpI x y := by
  rw [cmpInts]
  unfold cmpI
  by_cases h1 : x < y
  · rw [if_pos h1, if_neg (by omega), if_pos h1]
  · by_cases h2 : y < x
    · rw [if_neg h1, if_neg h1, if_pos h2, if_pos h2, if_neg (by omega)]
    · rw [if_neg h1, if_neg h1, if_neg h2, if_neg h2, if_pos rfl]
set_option maxHeartbeats 4000000 in
set_option maxRecDepth 100000 in
theorem slCmp_any (v u : Value) (l m : List Int) (w : World) (hv : Sl intE w free v l) (hu : Sl intE w free u m) :
    Calls Try.prog 135 #[v, u] w fun e w' => e = .returned (.int .i64 (cmpInts l m)) ∧ w = w' := by
  obtain ⟨a1, c1, rfl⟩ := hv.shape
  obtain ⟨a2, c2, rfl⟩ := hu.shape
  have h63 := hv.1
  have g63 := hu.1
  have HV := Lib.hid hv
  have HU := Lib.hid hu
  obtain ⟨n, hn⟩ : ∃ n, n = l.length := ⟨_, rfl⟩
  obtain ⟨n2, hn2⟩ : ∃ n, n = m.length := ⟨_, rfl⟩
  have HN := Lib.hid hn
  have HN2 := Lib.hid hn2
  rw [← hn] at HV h63 ⊢
  rw [← hn2] at HU g63 ⊢
  clear hv hu hn hn2
  go_enter Try.func135, Try.ntmps135
  go_wp2_with fail
  go_loop [11] (fun i => ∃ k : Nat, k ≤ n ∧ k ≤ n2 ∧ i = .int .i64 (k : Int) ∧ Hid (cmpInts (l.drop k) (m.drop k) = cmpInts l m)) (fun i => n - (RowKit.intOf i).toNat)
  case atStart => exact ⟨0, Nat.zero_le _, Nat.zero_le _, rfl, Lib.hid rfl⟩
  case round =>
    obtain ⟨k, hk, hk2, rfl, HR⟩ := hrel
    by_cases hlt : k < n
    · obtain ⟨x, hx⟩ := lget_some l k (by rw [← HN.out]; exact hlt)
      obtain ⟨b, o, rfl, p0⟩ := ints_at' HV.out hx
      by_cases hlt2 : k < n2
      · obtain ⟨y, hy⟩ := lget_some m k (by rw [← HN2.out]; exact hlt2)
        obtain ⟨b2, o2, rfl, q0⟩ := ints_at' HU.out hy
        have HS : Hid (cmpInts (l.drop k) (m.drop k) = if cmpI x y = 0 then cmpInts (l.drop (k + 1)) (m.drop (k + 1)) else cmpI x y) := by rw [drop_get hx, drop_get hy]; exact Lib.hid (cmpInts_cons _ _ _ _)
        obtain ⟨r, hr⟩ : ∃ r, r = cmpI x y := ⟨_, rfl⟩
        have HC := Lib.hid (fun W => cmpInt_any x y W)
        rw [← hr] at HS HC
        clear hx hy hr
        go_wp2_with fail
        refine (HC.out _).mono ?_
        rintro e w3 ⟨rfl, rfl⟩
        by_cases hr0 : r = 0
        · subst hr0
          have HR' : Hid (cmpInts (l.drop (k + 1)) (m.drop (k + 1)) = cmpInts l m) := by show _ = _; rw [← HR.out, HS.out, if_pos rfl]
          go_wp2_with fail
          go_round
          case rel => exact ⟨k + 1, by omega, by omega, by go_num, HR'⟩
          case measure => simp [RowKit.intOf]; omega
        · have HR' : Hid (cmpInts l m = r) := by show _ = _; rw [← HR.out, HS.out, if_neg hr0]
          have hne : (r != 0) = true := by simpa using hr0
          clear hr0
          go_wp2_with fail
          go_ret
          exact ⟨ret_int HR'.out.symm, rfl⟩
      · have hkn : k = n2 := by omega
        subst hkn
        have HS : Hid (cmpInts l m = 1) := by
          show _ = _
          rw [← HR.out, drop_get hx, List.drop_of_length_le (l := m) (by rw [← HN2.out]; exact Nat.le_refl _)]; rfl
        clear hx
        go_wp2_with fail
        go_ret
        exact ⟨ret_int HS.out.symm, rfl⟩
    · have hkn : k = n := by omega
      subst hkn
      by_cases h2 : k < n2
      · have HS : Hid (cmpInts l m = -1) := by
          show _ = _
          obtain ⟨y, hy⟩ := lget_some m k (by rw [← HN2.out]; exact h2)
          rw [← HR.out, drop_get hy, List.drop_of_length_le (l := l) (by rw [← HN.out]; exact Nat.le_refl _)]; rfl
        go_wp2_with fail
        go_ret
        exact ⟨ret_int HS.out.symm, rfl⟩
      · have hkn2 : n2 = k := by omega
        subst hkn2
        have HS : Hid (cmpInts l m = 0) := by
          show _ = _
          rw [← HR.out, List.drop_of_length_le (l := l) (by rw [← HN.out]; exact Nat.le_refl _), List.drop_of_length_le (l := m) (by rw [← HN2.out]; exact Nat.le_refl _)]; rfl
        go_wp2_with fail
        go_ret
        exact ⟨ret_int HS.out.symm, rfl⟩
theorem cell_grew {W W' : World} {p : Addr} {v : Value} (h : Grew W W') (hc : W.cell? p = some v) : W'.cell? p = some v := cell_keep h.below hc
set_option maxHeartbeats 4000000 in
set_option maxRecDepth 100000 in
theorem bagCmp_g (a b : GRow) (v u v2 u2 : Value) (w : World) (hv : Sl valE w free v a.vals) (hu : Sl intE w free u a.lin) (hv2 : Sl valE w free v2 b.vals) (hu2 : Sl intE w free u2 b.lin) :
    Calls Try.prog 107 #[.agg #[v, u], .agg #[v2, u2]] w fun e w' => e = .returned (.int .i64 (cmpRow a b)) ∧ Grew w w' := by
  obtain ⟨r1, hr1⟩ : ∃ r, r = cmpRows a.vals b.vals := ⟨_, rfl⟩
  obtain ⟨r2, hr2⟩ : ∃ r, r = cmpInts a.lin b.lin := ⟨_, rfl⟩
  have CR : ∀ W, Grew w W → Hid (Calls Try.prog 134 #[v, v2] W fun e w' => e = .returned (.int .i64 r1) ∧ Grew W w') := fun W h => hr1 ▸ valRows_g v v2 a.vals b.vals W (hv.below h.below) (hv2.below h.below)
  have CI : ∀ W, Grew w W → Hid (Calls Try.prog 135 #[u, u2] W fun e w' => e = .returned (.int .i64 r2) ∧ W = w') := fun W h => hr2 ▸ slCmp_any u u2 a.lin b.lin W (hu.below h.below) (hu2.below h.below)
  have HR : Hid (orL [r1, r2] = cmpRow a b) := by
    show _ = _
    unfold cmpRow orL orL orL
    rw [← hr1, ← hr2]
    by_cases h1 : r1 = 0
    · rw [if_pos h1, if_pos h1]; split <;> simp_all
    · rw [if_neg h1, if_neg h1]
  have COR : ∀ W : World, Hid (Calls Try.prog 133 #[.slice (some ⟨W.heap.size, 0, none⟩) 2 2] (W.alloc (.cells #[.int .i64 r1, .int .i64 r2] 3)).drew fun e w' => e = .returned (.int .i64 (cmpRow a b)) ∧ (W.alloc (.cells #[.int .i64 r1, .int .i64 r2] 3)).drew = w') := fun W => by
    have := cmpOr_any (.slice (some ⟨W.heap.size, 0, none⟩) 2 2) [r1, r2] (W.alloc (.cells #[.int .i64 r1, .int .i64 r2] 3)).drew (Sl.of_block (n := 2) (m := 2) (show (W.alloc (.cells #[.int .i64 r1, .int .i64 r2] 3)).drew.heap[W.heap.size]? = some (.cells #[.int .i64 r1, .int .i64 r2] 3) from World.alloc_heap_new W _) (Els.cons (cs := [.int .i64 r1]) rfl (Els.one (cs := [.int .i64 r2]) rfl)) id rfl (by simp) (by simp))
    rw [HR.out] at this
    exact Lib.hid this
  have CORn : ∀ W : World, Hid (Calls Try.prog 133 #[.slice (some ⟨W.heap.size, 0, none⟩) 2 2] (W.alloc (.cells #[.int .i64 r1, .int .i64 r2] 3)) fun e w' => e = .returned (.int .i64 (cmpRow a b)) ∧ (W.alloc (.cells #[.int .i64 r1, .int .i64 r2] 3)) = w') := fun W => by
    have := cmpOr_any (.slice (some ⟨W.heap.size, 0, none⟩) 2 2) [r1, r2] (W.alloc (.cells #[.int .i64 r1, .int .i64 r2] 3)) (Sl.of_block (n := 2) (m := 2) (World.alloc_heap_new W _) (Els.cons (cs := [.int .i64 r1]) rfl (Els.one (cs := [.int .i64 r2]) rfl)) id rfl (by simp) (by simp))
    rw [HR.out] at this
    exact Lib.hid this
  obtain ⟨a1, c1, rfl⟩ := hv.shape
  obtain ⟨a2, c2, rfl⟩ := hu.shape
  obtain ⟨a3, c3, rfl⟩ := hv2.shape
  obtain ⟨a4, c4, rfl⟩ := hu2.shape
  generalize a.vals.length = n1 at CR ⊢
  generalize a.lin.length = n2 at CI ⊢
  generalize b.vals.length = n3 at CR ⊢
  generalize b.lin.length = n4 at CI ⊢
  obtain ⟨z, hz⟩ : ∃ z, z = cmpRow a b := ⟨_, rfl⟩
  rw [← hz] at COR CORn ⊢
  clear hv hu hv2 hu2 hr1 hr2 HR hz
  go_enter Try.func107, Try.ntmps107
  go_wp2_with fail
  have hB0 := grew_alloc2 w (.cells #[.slice a1 n1 c1, .slice a2 n2 c2] 97) (.cells #[.slice a3 n3 c3, .slice a4 n4 c4] 97)
  obtain ⟨d0, d1, _, _⟩ := box_two (heap_alloc_old' w (.cells #[.slice a1 n1 c1, .slice a2 n2 c2] 97) (.cells #[.slice a3 n3 c3, .slice a4 n4 c4] 97))
  obtain ⟨e0, e1, _, _⟩ := box_two (heap_alloc_new' w (.cells #[.slice a1 n1 c1, .slice a2 n2 c2] 97) (.cells #[.slice a3 n3 c3, .slice a4 n4 c4] 97))
  go_region_held3 (fun W => Grew w W ∧ W.cell? ⟨w.heap.size, 0, none⟩ = some (.slice a1 n1 c1) ∧ W.cell? ⟨w.heap.size, 1, none⟩ = some (.slice a2 n2 c2) ∧ W.cell? ⟨w.heap.size + 1, 0, none⟩ = some (.slice a3 n3 c3) ∧ W.cell? ⟨w.heap.size + 1, 1, none⟩ = some (.slice a4 n4 c4))
    ((go_split_ands; refine ⟨?_, ?_, ?_, ?_, ?_⟩ <;> first | (with_reducible assumption) | with_reducible exact Grew.drew (by assumption) | with_reducible exact cell_drew (by assumption) | with_reducible exact grew_keep (by assumption) (by assumption) | with_reducible exact cell_grew (by assumption) (by assumption) | with_reducible exact grew_alloc_keep (by assumption) | with_reducible exact cell_alloc (by assumption) | with_reducible exact grew_alloc_drew (by assumption) | with_reducible exact cell_alloc_drew (by assumption)))
    (first
      | (go_at_call 134; go_split_ands; refine (CR _ (by first | assumption | exact Grew.drew (by assumption))).out.mono ?_; rintro e' wR ⟨rfl, hgR⟩)
      | (go_at_call 135; go_split_ands; refine (CI _ (by first | assumption | exact Grew.drew (by assumption))).out.mono ?_; rintro e' wI ⟨rfl, rfl⟩)
      | (go_at_call 133; first | (with_reducible refine (COR _).out.mono ?_) | (with_reducible refine (CORn _).out.mono ?_); rintro e' wO ⟨rfl, rfl⟩))
  all_goals go_split_ands
  all_goals go_wp2_with fail
  all_goals go_ret
  all_goals exact ⟨rfl, by assumption⟩
end Go.Proofs.Ytminnkihcohflaa

namespace Go.Proofs.Ytminnkihcohflaa
open Go.RowKit

/-- Three signs as those of three comparisons in a row. -/
def Sgn3 (x y z : Int) : Prop := (x = -1 ∨ x = 0 ∨ x = 1) ∧ (y = -1 ∨ y = 0 ∨ y = 1) ∧ (z = -1 ∨ z = 0 ∨ z = 1) ∧ (x = 0 → z = y) ∧ (y = 0 → z = x) ∧ (x = -1 → y = -1 → z = -1)
def or2 (x y : Int) : Int := if x = 0 then y else x
theorem Sgn3.or {x y z x' y' z' : Int} (h : Sgn3 x y z) (h' : Sgn3 x' y' z') : Sgn3 (or2 x x') (or2 y y') (or2 z z') := by
  unfold Sgn3 at *
  unfold or2
  obtain ⟨h1, h2, h3, h4, h5, h6⟩ := h
  obtain ⟨k1, k2, k3, k4, k5, k6⟩ := h'
  refine ⟨?_, ?_, ?_, ?_, ?_, ?_⟩ <;> (repeat' split) <;> omega
theorem sgn_int (a b c : Int) : Sgn3 (cmpI a b) (cmpI b c) (cmpI a c) := by
  unfold Sgn3 cmpI
  refine ⟨?_, ?_, ?_, ?_, ?_, ?_⟩ <;> (split <;> (try split) <;> (try split) <;> (try split) <;> (try split) <;> (try split) <;> omega)
theorem cb_swap (a b : List UInt8) : Lib.compareBytes b a = - Lib.compareBytes a b := by
  induction a generalizing b with
  | nil => cases b <;> simp [Lib.compareBytes]
  | cons x a ih =>
    cases b with
    | nil => simp [Lib.compareBytes]
    | cons y b =>
      rw [Lib.compareBytes, Lib.compareBytes, ih b]
      by_cases h1 : x < y
      · have h2 : ¬ y < x := fun h => absurd (UInt8.lt_trans h1 h) (UInt8.lt_irrefl _)
        simp [h1, h2]
      · by_cases h2 : y < x
        · simp [h1, h2]
        · simp [h1, h2]
theorem sgn_bytes (a b c : List UInt8) : Sgn3 (Lib.compareBytes a b) (Lib.compareBytes b c) (Lib.compareBytes a c) := by
  induction a generalizing b c with
  | nil =>
    cases b with
    | nil => cases c <;> simp [Lib.compareBytes, Sgn3]
    | cons y b =>
      cases c with
      | nil => simp [Lib.compareBytes, Sgn3]
      | cons z c =>
        have := (bytesLess_cmp (y :: b) (z :: c)).2.2
        have h1 : Lib.compareBytes [] (y :: b) = -1 := by simp [Lib.compareBytes]
        have h2 : Lib.compareBytes [] (z :: c) = -1 := by simp [Lib.compareBytes]
        rw [h1, h2]
        unfold Sgn3
        omega
  | cons x a ih =>
    cases b with
    | nil =>
      cases c with
      | nil => simp [Lib.compareBytes, Sgn3]
      | cons z c =>
        have := (bytesLess_cmp (x :: a) (z :: c)).2.2
        have h1 : Lib.compareBytes (x :: a) [] = 1 := by simp [Lib.compareBytes]
        have h2 : Lib.compareBytes [] (z :: c) = -1 := by simp [Lib.compareBytes]
        rw [h1, h2]
        unfold Sgn3
        omega
    | cons y b =>
      cases c with
      | nil =>
        have := (bytesLess_cmp (x :: a) (y :: b)).2.2
        have h1 : Lib.compareBytes (x :: a) [] = 1 := by simp [Lib.compareBytes]
        have h2 : Lib.compareBytes (y :: b) [] = 1 := by simp [Lib.compareBytes]
        rw [h1, h2]
        unfold Sgn3
        omega
      | cons z c =>
        have hi := ih b c
        have e : ∀ (p q : UInt8) (l m : List UInt8), Lib.compareBytes (p :: l) (q :: m) = or2 (cmpI p.toNat q.toNat) (Lib.compareBytes l m) := by
          intro p q l m
          rw [Lib.compareBytes, or2, cmpI]
          by_cases h1 : p < q
          · have h1' : (p.toNat : Int) < (q.toNat : Int) := by have := UInt8.lt_iff_toNat_lt.1 h1; omega
            simp [h1, h1']
          · by_cases h2 : q < p
            · have h2' : (q.toNat : Int) < (p.toNat : Int) := by have := UInt8.lt_iff_toNat_lt.1 h2; omega
              have h1' : ¬ (p.toNat : Int) < (q.toNat : Int) := by omega
              simp [h1, h2, h1', h2']
            · have h1' : ¬ (p.toNat : Int) < (q.toNat : Int) := by have := mt UInt8.lt_iff_toNat_lt.2 h1; omega
              have h2' : ¬ (q.toNat : Int) < (p.toNat : Int) := by have := mt UInt8.lt_iff_toNat_lt.2 h2; omega
              simp [h1, h2, h1', h2']
        rw [e, e, e]
        exact (sgn_int _ _ _).or hi
theorem cmpG_or2 (a b : GVal) : cmpG a b = or2 (cmpI a.kind b.kind) (or2 (cmpI a.n b.n) (Lib.compareBytes a.s.data.toList b.s.data.toList)) := by
  rw [← cmpG_or]
  simp only [orL, or2]
  split
  · split
    · split
      · rename_i h; rw [h]
      · rfl
    · rfl
  · rfl
theorem sgn_val (a b c : GVal) : Sgn3 (cmpG a b) (cmpG b c) (cmpG a c) := by
  rw [cmpG_or2, cmpG_or2, cmpG_or2]
  exact (sgn_int _ _ _).or ((sgn_int _ _ _).or (sgn_bytes _ _ _))
theorem cmpI_swap (a b : Int) : cmpI b a = - cmpI a b := by unfold cmpI; split <;> split <;> (try split) <;> omega
theorem cmpG_swap (a b : GVal) : cmpG b a = - cmpG a b := by
  rw [cmpG_or2, cmpG_or2, cmpI_swap a.kind b.kind, cmpI_swap a.n b.n, cb_swap a.s.data.toList b.s.data.toList]
  unfold or2
  split <;> split <;> (try split) <;> (try split) <;> omega
theorem cmpG_same (a b : GVal) : (cmpG a b == 0) = sameG a b := by
  have h := (sgn_val a b b).1
  unfold cmpG at *
  split at h
  · rename_i hl
    rw [if_pos hl]
    have : sameG a b = false := by
      cases hs : sameG a b with
      | false => rfl
      | true =>
        simp only [sameG, Bool.and_eq_true, beq_iff_eq] at hs
        simp only [lessG, hs.1.1, hs.1.2, hs.2] at hl
        simp [bytesLess_irrefl] at hl
    rw [this]; rfl
  · rename_i hl
    rw [if_neg hl]
    cases hs : sameG a b <;> simp
theorem bytes_mk_o (s : ByteArray) : (ByteArray.mk s.data.toList.toArray) = s := by
  obtain ⟨⟨l⟩⟩ := s; rfl
theorem gv_ext {a b : GVal} (h : sameG a b = true) : a = b := by
  obtain ⟨k1, n1, s1⟩ := a
  obtain ⟨k2, n2, s2⟩ := b
  simp only [sameG, Bool.and_eq_true, beq_iff_eq] at h
  obtain ⟨⟨rfl, rfl⟩, h3⟩ := h
  have : s1 = s2 := by
    rw [Lib.toList_data, Lib.toList_data] at h3
    rw [← bytes_mk_o s1, h3, bytes_mk_o]
  rw [this]
theorem cmpG_zero {a b : GVal} : cmpG a b = 0 ↔ a = b := by
  constructor
  · intro h
    refine gv_ext ?_
    rw [← cmpG_same, h]; rfl
  · rintro rfl
    have := cmpG_same a a
    rw [sameG_refl] at this
    simpa using this
theorem cmpRows_zero (l m : List GVal) : cmpRows l m = 0 ↔ l = m := by
  induction l generalizing m with
  | nil => cases m <;> simp [cmpRows]
  | cons a l ih =>
    cases m with
    | nil => simp [cmpRows]
    | cons b m =>
      rw [cmpRows]
      by_cases h : cmpG a b = 0
      · rw [if_pos h, ih]
        have := cmpG_zero.1 h
        simp [this]
      · rw [if_neg h]
        have h2 : ¬ a = b := fun e => h (cmpG_zero.2 e)
        simp [h, h2]
theorem cmpRows_swap (l m : List GVal) : cmpRows m l = - cmpRows l m := by
  induction l generalizing m with
  | nil => cases m <;> simp [cmpRows]
  | cons a l ih =>
    cases m with
    | nil => simp [cmpRows]
    | cons b m =>
      rw [cmpRows, cmpRows, cmpG_swap a b]
      by_cases h : cmpG a b = 0
      · rw [if_pos h, if_pos (by omega), ih]
      · rw [if_neg h, if_neg (by omega)]
theorem cmpRows_cons (x y : GVal) (l m : List GVal) : cmpRows (x :: l) (y :: m) = or2 (cmpG x y) (cmpRows l m) := by rw [cmpRows]; rfl
theorem cmpInts_or (x y : Int) (l m : List Int) : cmpInts (x :: l) (y :: m) = or2 (cmpI x y) (cmpInts l m) := by rw [cmpInts_cons]; rfl
theorem rows_three (l m : List GVal) : cmpRows l m = -1 ∨ cmpRows l m = 0 ∨ cmpRows l m = 1 := by
  induction l generalizing m with
  | nil => cases m <;> simp [cmpRows]
  | cons a l ih =>
    cases m with
    | nil => simp [cmpRows]
    | cons b m =>
      rw [cmpRows_cons]
      have h := (sgn_val a b b).1
      have h2 := ih m
      unfold or2
      split <;> omega
theorem ints_three (l m : List Int) : cmpInts l m = -1 ∨ cmpInts l m = 0 ∨ cmpInts l m = 1 := by
  induction l generalizing m with
  | nil => cases m <;> simp [cmpInts]
  | cons a l ih =>
    cases m with
    | nil => simp [cmpInts]
    | cons b m =>
      rw [cmpInts_or]
      have h := (sgn_int a b b).1
      have h2 := ih m
      unfold or2
      split <;> omega
theorem sgn_rows (l m n : List GVal) : Sgn3 (cmpRows l m) (cmpRows m n) (cmpRows l n) := by
  induction l generalizing m n with
  | nil =>
    cases m with
    | nil => cases n <;> simp [cmpRows, Sgn3]
    | cons b m =>
      cases n with
      | nil => simp [cmpRows, Sgn3]
      | cons c n =>
        show Sgn3 (-1) (cmpRows (b :: m) (c :: n)) (-1)
        have h := rows_three (b :: m) (c :: n)
        unfold Sgn3
        omega
  | cons a l ih =>
    cases m with
    | nil =>
      cases n with
      | nil => simp [cmpRows, Sgn3]
      | cons c n =>
        show Sgn3 1 (-1) (cmpRows (a :: l) (c :: n))
        have h := rows_three (a :: l) (c :: n)
        unfold Sgn3
        omega
    | cons b m =>
      cases n with
      | nil =>
        show Sgn3 (cmpRows (a :: l) (b :: m)) 1 1
        have h := rows_three (a :: l) (b :: m)
        unfold Sgn3
        omega
      | cons c n => rw [cmpRows_cons, cmpRows_cons, cmpRows_cons]; exact (sgn_val a b c).or (ih m n)
theorem sgn_ints (l m n : List Int) : Sgn3 (cmpInts l m) (cmpInts m n) (cmpInts l n) := by
  induction l generalizing m n with
  | nil =>
    cases m with
    | nil => cases n <;> simp [cmpInts, Sgn3]
    | cons b m =>
      cases n with
      | nil => simp [cmpInts, Sgn3]
      | cons c n =>
        show Sgn3 (-1) (cmpInts (b :: m) (c :: n)) (-1)
        have h := ints_three (b :: m) (c :: n)
        unfold Sgn3
        omega
  | cons a l ih =>
    cases m with
    | nil =>
      cases n with
      | nil => simp [cmpInts, Sgn3]
      | cons c n =>
        show Sgn3 1 (-1) (cmpInts (a :: l) (c :: n))
        have h := ints_three (a :: l) (c :: n)
        unfold Sgn3
        omega
    | cons b m =>
      cases n with
      | nil =>
        show Sgn3 (cmpInts (a :: l) (b :: m)) 1 1
        have h := ints_three (a :: l) (b :: m)
        unfold Sgn3
        omega
      | cons c n => rw [cmpInts_or, cmpInts_or, cmpInts_or]; exact (sgn_int a b c).or (ih m n)
theorem cmpI_zero {a b : Int} : cmpI a b = 0 ↔ a = b := by unfold cmpI; split <;> (try split) <;> omega
theorem cmpInts_zero (l m : List Int) : cmpInts l m = 0 ↔ l = m := by
  induction l generalizing m with
  | nil => cases m <;> simp [cmpInts]
  | cons a l ih =>
    cases m with
    | nil => simp [cmpInts]
    | cons b m =>
      rw [cmpInts_cons]
      by_cases h : cmpI a b = 0
      · rw [if_pos h, ih]
        have := cmpI_zero.1 h
        simp [this]
      · rw [if_neg h]
        have h2 : ¬ a = b := fun e => h (cmpI_zero.2 e)
        simp [h, h2]
theorem cmpInts_swap (l m : List Int) : cmpInts m l = - cmpInts l m := by
  induction l generalizing m with
  | nil => cases m <;> simp [cmpInts]
  | cons a l ih =>
    cases m with
    | nil => simp [cmpInts]
    | cons b m =>
      rw [cmpInts_cons, cmpInts_cons, cmpI_swap a b]
      by_cases h : cmpI a b = 0
      · rw [if_pos h, if_pos (by omega), ih]
      · rw [if_neg h, if_neg (by omega)]
theorem cmpRow_or (a b : GRow) : cmpRow a b = or2 (cmpRows a.vals b.vals) (cmpInts a.lin b.lin) := rfl
theorem sgn_row (a b c : GRow) : Sgn3 (cmpRow a b) (cmpRow b c) (cmpRow a c) := by
  rw [cmpRow_or, cmpRow_or, cmpRow_or]
  exact (sgn_rows _ _ _).or (sgn_ints _ _ _)
theorem cmpRow_zero {a b : GRow} : cmpRow a b = 0 ↔ a = b := by
  obtain ⟨v1, l1⟩ := a
  obtain ⟨v2, l2⟩ := b
  unfold cmpRow
  dsimp only
  by_cases h : cmpRows v1 v2 = 0
  · rw [if_pos h, cmpInts_zero, (cmpRows_zero _ _).1 h]
    simp
  · rw [if_neg h]
    have h2 : ¬ v1 = v2 := fun e => h ((cmpRows_zero _ _).2 e)
    simp [h, h2]
theorem cmpRow_swap (a b : GRow) : cmpRow b a = - cmpRow a b := by
  unfold cmpRow
  rw [cmpRows_swap a.vals b.vals, cmpInts_swap a.lin b.lin]
  by_cases h : cmpRows a.vals b.vals = 0
  · rw [if_pos h, if_pos (by omega)]
  · rw [if_neg h, if_neg (by omega)]
/-- Rows in order. -/
def sortR (l : List GRow) : List GRow := l.mergeSort fun a b => decide (cmpRow a b ≤ 0)
theorem sortR_perm (l : List GRow) : (sortR l).Perm l := List.mergeSort_perm _ _
theorem sortR_length (l : List GRow) : (sortR l).length = l.length := (sortR_perm l).length_eq
theorem sortR_pairwise (l : List GRow) : (sortR l).Pairwise fun a b => cmpRow a b ≤ 0 := by
  have h := List.pairwise_mergeSort (le := fun a b : GRow => decide (cmpRow a b ≤ 0)) (fun a b c h1 h2 => by
    have h := sgn_row a b c
    unfold Sgn3 at h
    simp only [decide_eq_true_eq] at *
    omega) (fun a b => by
    have h := cmpRow_swap a b
    simp only [Bool.or_eq_true, decide_eq_true_eq]
    omega) l
  exact h.imp (by intro a b h; simpa using h)
/-- What is in order is the rows in order. -/
theorem sortR_unique {l m : List GRow} (h : m.Perm l) (hp : m.Pairwise fun a b => ¬ cmpRow b a < 0) : m = sortR l := by
  refine List.Perm.eq_of_pairwise (le := fun a b => cmpRow a b ≤ 0) (fun a b _ _ h1 h2 => ?_) (hp.imp (by intro a b h; have := cmpRow_swap a b; omega)) (sortR_pairwise l) (h.trans (sortR_perm l).symm)
  have := cmpRow_swap a b
  exact cmpRow_zero.1 (by omega)
theorem sortR_congr {l m : List GRow} (h : l.Perm m) : sortR l = sortR m :=
  sortR_unique ((sortR_perm l).trans h) ((sortR_pairwise l).imp (by intro a b h; have := cmpRow_swap a b; omega))
end Go.Proofs.Ytminnkihcohflaa
