/- The program's comparison of rows of values. No condition. -/
import Derived.Test.YthjgnpicnpfmjaaDoorCmp
import Derived.Test.YthjgnpicnpfmjaaDoorSplE
namespace Go.Proofs.YthjgnpicnpfmjaaDoor
open Go.RowKit

theorem gv_at3 {w : World} {G : Nat → Prop} {a : Option Addr} {n c k : Nat} {l : List GVal} {x : GVal} (h : Sl valE w G (.slice a n c) l) (hk : l[k]? = some x) :
    ∃ b o, a = some ⟨b, o, none⟩ ∧ w.cell? ⟨b, o + k * 3, none⟩ = some (.int .i64 x.kind) ∧ w.cell? ⟨b, o + k * 3 + 1, none⟩ = some (.int .i64 x.n) ∧ w.cell? ⟨b, o + k * 3 + 2, none⟩ = some (.string x.s) := by
  obtain ⟨b, o, cs, ha, rfl, hc⟩ := Sl.at h hk
  exact ⟨b, o, ha, hc 0 _ rfl, hc 1 _ rfl, hc 2 _ rfl⟩
set_option maxHeartbeats 4000000 in
set_option maxRecDepth 100000 in
theorem cmpFunc_any (v u : Value) (l m : List GVal) (w : World) (hv : Sl valE w free v l) (hu : Sl valE w free u m) :
    Calls Tryd.prog 37 #[v, u, .func (.func 14) #[] #[]] w fun e w' => e = .returned (.int .i64 (cmpRows l m)) ∧ Below w.heap.size w w' := by
  obtain ⟨a1, c1, rfl⟩ := hv.shape
  obtain ⟨a2, c2, rfl⟩ := hu.shape
  have h63 := hv.1
  have g63 := hu.1
  have HV := Lib.hid hv
  have HU := Lib.hid hu
  obtain ⟨n, hn⟩ : ∃ n, n = l.length := ⟨_, rfl⟩
  obtain ⟨n2, hn2⟩ : ∃ n, n = m.length := ⟨_, rfl⟩
  have HN := Lib.hid hn
  have HN2 := Lib.hid hn2
  rw [← hn] at HV h63 ⊢
  rw [← hn2] at HU g63 ⊢
  clear hv hu hn hn2
  go_enter Tryd.func37, Tryd.ntmps37
  go_wp2_with fail
  go_loopw [13] (fun i wr => ∃ k : Nat, k ≤ n ∧ k ≤ n2 ∧ i = .int .i64 (k : Int) ∧ Hid (cmpRows (l.drop k) (m.drop k) = cmpRows l m) ∧ Hid (Below w.heap.size w wr)) (fun i _ => n - (intOf i).toNat)
  case atStart => exact ⟨0, Nat.zero_le _, Nat.zero_le _, rfl, Lib.hid rfl, Lib.hid (Below.refl _ _)⟩
  case round =>
    obtain ⟨k, hk, hk2, rfl, HR, HB⟩ := hrel
    obtain ⟨wo, rfl⟩ : ∃ wo : World, wo = wr := ⟨_, rfl⟩
    by_cases hlt : k < n
    · obtain ⟨x, hx⟩ := lget_some l k (by rw [← HN.out]; exact hlt)
      obtain ⟨b, o, rfl, p0, p1, p2⟩ := gv_at3 (HV.out.below HB.out) hx
      by_cases hlt2 : k < n2
      · obtain ⟨y, hy⟩ := lget_some m k (by rw [← HN2.out]; exact hlt2)
        obtain ⟨b2, o2, rfl, q0, q1, q2⟩ := gv_at3 (HU.out.below HB.out) hy
        have lb2 : b2 < wo.heap.size := World.block_lt_of_cell? wo _ q0
        have lb : b < wo.heap.size := World.block_lt_of_cell? wo _ p0
        have HS : Hid (cmpRows (l.drop k) (m.drop k) = if cmpG x y = 0 then cmpRows (l.drop (k + 1)) (m.drop (k + 1)) else cmpG x y) := by rw [drop_get hx, drop_get hy]; exact Lib.hid rfl
        obtain ⟨r, hr⟩ : ∃ r, r = cmpG x y := ⟨_, rfl⟩
        have HC := Lib.hid (fun W => valCmp_any x y W)
        rw [← hr] at HS HC
        clear hx hy hr
        obtain ⟨xk, xn, xs⟩ := x
        obtain ⟨yk, yn, ys⟩ := y
        unfold aggG at HC
        dsimp only at HC p0 p1 p2 q0 q1 q2
        go_wp2_with fail
        refine (HC.out _).mono ?_
        rintro e w3 ⟨rfl, hb3⟩
        have HB3 := Lib.hid (below_keep (below_alloc_keep (below_alloc_keep HB.out)) hb3)
        clear hb3
        by_cases hr0 : r = 0
        · subst hr0
          have HR' : Hid (cmpRows (l.drop (k + 1)) (m.drop (k + 1)) = cmpRows l m) := by show _ = _; rw [← HR.out, HS.out, if_pos rfl]
          go_wp2_with fail
          go_roundw
          case rel => exact ⟨k + 1, by omega, by omega, by go_num, HR', HB3⟩
          case measure => simp [intOf]; omega
        · have HR' : Hid (cmpRows l m = r) := by show _ = _; rw [← HR.out, HS.out, if_neg hr0]
          have hne : (r != 0) = true := by simpa using hr0
          clear hr0
          go_wp2_with fail
          go_ret
          exact ⟨ret_int HR'.out.symm, HB3.out⟩
      · have hkn : k = n2 := by omega
        subst hkn
        have HS : Hid (cmpRows l m = 1) := by
          show _ = _
          rw [← HR.out, drop_get hx, List.drop_of_length_le (l := m) (by rw [← HN2.out]; exact Nat.le_refl _)]; rfl
        clear hx
        obtain ⟨xk, xn, xs⟩ := x
        dsimp only at p0 p1 p2
        go_wp2_with fail
        go_ret
        exact ⟨ret_int HS.out.symm, below_alloc_keep HB.out⟩
    · have hkn : k = n := by omega
      subst hkn
      by_cases h2 : k < n2
      · have HS : Hid (cmpRows l m = -1) := by
          show _ = _
          obtain ⟨y, hy⟩ := lget_some m k (by rw [← HN2.out]; exact h2)
          rw [← HR.out, drop_get hy, List.drop_of_length_le (l := l) (by rw [← HN.out]; exact Nat.le_refl _)]; rfl
        go_wp2_with fail
        go_ret
        exact ⟨ret_int HS.out.symm, HB.out⟩
      · have hkn2 : n2 = k := by omega
        subst hkn2
        have HS : Hid (cmpRows l m = 0) := by
          show _ = _
          rw [← HR.out, List.drop_of_length_le (l := l) (by rw [← HN.out]; exact Nat.le_refl _), List.drop_of_length_le (l := m) (by rw [← HN2.out]; exact Nat.le_refl _)]; rfl
        go_wp2_with fail
        go_ret
        exact ⟨ret_int HS.out.symm, HB.out⟩
set_option maxHeartbeats 1000000 in
theorem valRows_any (v u : Value) (l m : List GVal) (w : World) (hv : Sl valE w free v l) (hu : Sl valE w free u m) :
    Calls Tryd.prog 22 #[v, u] w fun e w' => e = .returned (.int .i64 (cmpRows l m)) ∧ Below w.heap.size w w' := by
  have HC := Lib.hid (cmpFunc_any v u l m w hv hu)
  clear hv hu
  go_enter Tryd.func22, Tryd.ntmps22
  go_wp2_with fail
  refine HC.out.mono ?_
  rintro e w1 ⟨rfl, hb1⟩
  have HB1 := Lib.hid hb1
  clear hb1
  go_wp2_with fail
  go_ret
  exact ⟨rfl, HB1.out⟩
end Go.Proofs.YthjgnpicnpfmjaaDoor
