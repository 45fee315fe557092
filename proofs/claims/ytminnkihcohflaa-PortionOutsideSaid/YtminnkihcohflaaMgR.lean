/- A part of the proofs of the laws of chapter 19: Vbl, Vbm, Ppp, All, Pst, Dlt. No condition beside sizes. -/
import Derived.Test.YtminnkihcohflaaMgA
import Derived.Test.YtminnkihcohflaaMgD
import Derived.Test.YtminnkihcohflaaMgH
import Derived.Test.YtminnkihcohflaaMgB
import Derived.Test.YtminnkihcohflaaMgI
import Derived.Test.YtminnkihcohflaaMgL
namespace Go.Proofs.Ytminnkihcohflaa
open Go.RowKit Go.Lib Go.Shelf

def grec (x y : Nat) : Int × Int := ((gper x y).1, if (gper x y).2 = 1000000 then 1099511627776 else (gper x y).2)
set_option maxHeartbeats 2000000 in
set_option maxRecDepth 100000 in
theorem rec_any (x y : Nat) (hx : x < 65536) (hy : y < 65536) (w : World) : Calls Try.prog 65 #[.int .u16 (x : Int), .int .u16 (y : Int)] w fun e w' => e = .returned (.agg #[.int .i64 (grec x y).1, .int .i64 (grec x y).2]) ∧ Below w.heap.size w w' := by
  have HP := fun W => Lib.hid (period_any x y hx hy W)
  obtain ⟨rlo, hrlo⟩ : ∃ r, r = (grec x y).1 := ⟨_, rfl⟩
  obtain ⟨rhi, hrhi⟩ : ∃ r, r = (grec x y).2 := ⟨_, rfl⟩
  have HR : Hid (rlo = (gper x y).1 ∧ rhi = if (gper x y).2 = 1000000 then 1099511627776 else (gper x y).2) := ⟨hrlo, hrhi⟩
  rw [← hrlo, ← hrhi]
  clear hrlo hrhi
  generalize (gper x y).1 = lo at HP HR
  generalize (gper x y).2 = hi at HP HR
  go_enter Try.func65, Try.ntmps65
  go_wp2_with fail
  refine (HP _).out.mono ?_
  rintro _ w1 ⟨rfl, hb⟩
  have hr := box_kept (World.alloc_heap_new w (.cells #[.int .i64 0, .int .i64 0] 31)) hb
  have hr2 := (Below.heap_alloc w1 (.cells #[.int .i64 lo, .int .i64 hi] 31) _ (Array.getElem?_eq_some_iff.1 hr).1).trans hr
  obtain ⟨r0, r1, f0, f1⟩ := box_two hr2
  obtain ⟨u0, u1, v0, v1⟩ := box_two hr
  have HB := Lib.hid (below_alloc2' hb)
  have hz : w.heap.size < w1.heap.size := (Array.getElem?_eq_some_iff.1 hr).1
  have HRB := Lib.hid hr
  clear hb hr hr2 HP
  by_cases hh : (hi == 1000000) = true
  · have e : hi = 1000000 := by simpa using hh
    have HRR : Hid (rlo = lo ∧ rhi = 1099511627776) := ⟨HR.out.1, by rw [HR.out.2, if_pos e]⟩
    subst e
    have g0 : (w1.alloc (.cells #[.int .i64 lo, .int .i64 1099511627776] 31)).cell? ⟨w.heap.size, 0, none⟩ = some (.int .i64 0) := by
      rw [World.cell?_alloc_lt _ _ _ (by exact hz)]; rw [World.cell?_alloc_lt _ _ _ (by exact hz)] at r0; exact r0
    have g1 : (w1.alloc (.cells #[.int .i64 lo, .int .i64 1099511627776] 31)).cell? ⟨w.heap.size, 1, none⟩ = some (.int .i64 0) := by
      rw [World.cell?_alloc_lt _ _ _ (by exact hz)]; rw [World.cell?_alloc_lt _ _ _ (by exact hz)] at r1; exact r1
    go_wp2_with fail
    have hs1 : (w1.setCell ⟨w.heap.size, 0, none⟩ (.int .i64 lo)).heap[w.heap.size]? = some (.cells #[.int .i64 lo, .int .i64 0] 31 (0, 0)) := by rw [heap_setCell_same _ _ _ _ _ _ HRB.out]; rfl
    have hs2 : ((w1.setCell ⟨w.heap.size, 0, none⟩ (.int .i64 lo)).setCell ⟨w.heap.size, 1, none⟩ (.int .i64 1099511627776)).heap[w.heap.size]? = some (.cells #[.int .i64 lo, .int .i64 1099511627776] 31 (0, 0)) := by rw [heap_setCell_same _ _ _ _ _ _ hs1]; rfl
    have e0 : (((w1.setCell ⟨w.heap.size, 0, none⟩ (.int .i64 lo)).setCell ⟨w.heap.size, 1, none⟩ (.int .i64 1099511627776)).alloc (.cells #[.int .i64 lo, .int .i64 1099511627776] 31)).cell? ⟨w.heap.size, 0, none⟩ = some (.int .i64 lo) := cell_alloc (cell_of hs2 rfl)
    have e1 : (((w1.setCell ⟨w.heap.size, 0, none⟩ (.int .i64 lo)).setCell ⟨w.heap.size, 1, none⟩ (.int .i64 1099511627776)).alloc (.cells #[.int .i64 lo, .int .i64 1099511627776] 31)).cell? ⟨w.heap.size, 1, none⟩ = some (.int .i64 1099511627776) := cell_alloc (cell_of hs2 rfl)
    refine bodyPost_ret (v := .agg #[.int .i64 lo, .int .i64 1099511627776]) (by simp only [results, Try.results65]; simp [go_sem, e0, e1]) rfl ⟨by rw [HRR.out.1, HRR.out.2], below_alloc_keep ((HB.out.setCell (p := ⟨w.heap.size, 0, none⟩) (Nat.le_refl _) _).setCell (p := ⟨w.heap.size, 1, none⟩) (Nat.le_refl _) _)⟩
  · replace hh : (hi == 1000000) = false := by simpa using hh
    have e : ¬ hi = 1000000 := by simpa using hh
    have HRR : Hid (rlo = lo ∧ rhi = hi) := ⟨HR.out.1, by rw [HR.out.2, if_neg e]⟩
    clear e
    go_wp2_with fail
    have hs1 : (w1.setCell ⟨w.heap.size, 0, none⟩ (.int .i64 lo)).heap[w.heap.size]? = some (.cells #[.int .i64 lo, .int .i64 0] 31 (0, 0)) := by rw [heap_setCell_same _ _ _ _ _ _ HRB.out]; rfl
    have hs2 : ((w1.setCell ⟨w.heap.size, 0, none⟩ (.int .i64 lo)).setCell ⟨w.heap.size, 1, none⟩ (.int .i64 hi)).heap[w.heap.size]? = some (.cells #[.int .i64 lo, .int .i64 hi] 31 (0, 0)) := by rw [heap_setCell_same _ _ _ _ _ _ hs1]; rfl
    have e0 : (((w1.setCell ⟨w.heap.size, 0, none⟩ (.int .i64 lo)).setCell ⟨w.heap.size, 1, none⟩ (.int .i64 hi)).alloc (.cells #[.int .i64 lo, .int .i64 hi] 31)).cell? ⟨w.heap.size, 0, none⟩ = some (.int .i64 lo) := cell_alloc (cell_of hs2 rfl)
    have e1 : (((w1.setCell ⟨w.heap.size, 0, none⟩ (.int .i64 lo)).setCell ⟨w.heap.size, 1, none⟩ (.int .i64 hi)).alloc (.cells #[.int .i64 lo, .int .i64 hi] 31)).cell? ⟨w.heap.size, 1, none⟩ = some (.int .i64 hi) := cell_alloc (cell_of hs2 rfl)
    refine bodyPost_ret (v := .agg #[.int .i64 lo, .int .i64 hi]) (by simp only [results, Try.results65]; simp [go_sem, e0, e1]) rfl ⟨by rw [HRR.out.1, HRR.out.2], below_alloc_keep ((HB.out.setCell (p := ⟨w.heap.size, 0, none⟩) (Nat.le_refl _) _).setCell (p := ⟨w.heap.size, 1, none⟩) (Nat.le_refl _) _)⟩
/-- What was recorded at an instant, as tuples without lineage. -/
def atT (l : List Ver) (t : Int) : List Tup := (l.filter fun v => decide (v.rlo ≤ t) && decide (t < v.rhi)).map fun v => ⟨v.vals, v.lo, v.hi, []⟩
set_option maxHeartbeats 4000000 in
set_option maxRecDepth 100000 in
theorem atT_any (v : Value) (l : List Ver) (t : Int) (w : World) (hv : Sl verE w free v l) (hl : l.length ≤ 1000) :
    Calls Try.prog 31 #[v, .int .i64 t] w (RetOwn tupE w (atT l t)) := by
  obtain ⟨a, c, rfl⟩ := hv.shape
  have HV := Lib.hid hv
  obtain ⟨n, hn⟩ : ∃ n, n = l.length := ⟨_, rfl⟩
  have HN := Lib.hid hn
  rw [← hn] at hl HV ⊢
  clear hv hn
  go_enter Try.func31, Try.ntmps31
  go_wp2_with fail
  go_loopw [10, 5] (fun i o wr => ∃ k : Nat, k ≤ n ∧ i = .int .i64 k ∧ Own tupE wr w.heap.size o (atT (l.take k) t) ∧ Below w.heap.size w wr) (fun i _ _ => n - (intOf i).toNat)
  case atStart => exact ⟨0, Nat.zero_le _, rfl, Own.nil _ _ _, Below.refl _ _⟩
  case round =>
    obtain ⟨k, hk, rfl, hO, hB⟩ := hrel
    obtain ⟨wo, rfl⟩ : ∃ wo : World, wo = wr := ⟨_, rfl⟩
    obtain ⟨lk, hlke⟩ : ∃ lk, lk = atT (l.take k) t := ⟨_, rfl⟩
    rw [← hlke] at hO
    obtain ⟨ao, co, rfl⟩ := hO.shape
    by_cases hlt : k < n
    · obtain ⟨x, hx⟩ := lget_some l k (by rw [← HN.out]; exact hlt)
      obtain ⟨bv, ov, av, cv, ea, hvv, p0, p1, p2, p3, p4, p5⟩ := ver_at HV.out hx
      cases ea
      replace p0 := cell_keep hB p0
      replace p1 := cell_keep hB p1
      replace p2 := cell_keep hB p2
      replace p3 := cell_keep hB p3
      replace p4 := cell_keep hB p4
      replace p5 := cell_keep hB p5
      have hlk : lk.length ≤ 1000 := by rw [hlke]; unfold atT; rw [List.length_map]; exact Nat.le_trans (List.length_filter_le _ _) (by rw [List.length_take]; omega)
      have HT : Hid (atT (l.take (k + 1)) t = lk ++ if (decide (x.rlo ≤ t) && decide (t < x.rhi)) = true then [⟨x.vals, x.lo, x.hi, []⟩] else []) := by
        show _ = _
        rw [take_get hx, hlke]
        unfold atT
        rw [List.filter_append, List.map_append]
        congr 1
        rw [List.filter_cons, List.filter_nil]
        split <;> rfl
      obtain ⟨xid, xvals, xlo, xhi, xrlo, xrhi⟩ := x
      dsimp only at p0 p1 p2 p3 p4 p5 hvv HT
      obtain ⟨nv, hnv⟩ : ∃ nv, nv = xvals.length := ⟨_, rfl⟩
      rw [← hnv] at p1 hvv
      have HVV := Lib.hid hvv
      have HO := Lib.hid hO
      have HB := Lib.hid hB
      clear hx hvv hO hB hlke hnv
      by_cases h1 : xrlo ≤ t
      · by_cases h2 : t < xrhi
        · have HT2 : Hid (atT (l.take (k + 1)) t = lk ++ [⟨xvals, xlo, xhi, []⟩]) := by show _ = _; rw [HT.out, if_pos (by simp [h1, h2])]
          have HB1 : Hid (Below w.heap.size w (wo.alloc (.cells #[.int .i64 xid, .slice av nv cv, .int .i64 xlo, .int .i64 xhi, .int .i64 xrlo, .int .i64 xrhi] 59))) := below_alloc_keep HB.out
          have HO1 := Lib.hid (HO.out.below (below_alloc wo (.cells #[.int .i64 xid, .slice av nv cv, .int .i64 xlo, .int .i64 xhi, .int .i64 xrlo, .int .i64 xrhi] 59)))
          have HIS : Hid (Els tupE (wo.alloc (.cells #[.int .i64 xid, .slice av nv cv, .int .i64 xlo, .int .i64 xhi, .int .i64 xrlo, .int .i64 xrhi] 59)) (fun j => some j = (Value.slice ao lk.length co).ownBlock) [⟨xvals, xlo, xhi, []⟩] [.slice av nv cv, .int .i64 xlo, .int .i64 xhi, .slice none 0 0]) := Els.one ⟨_, _, rfl, ((HVV.out.old (Nat.le_refl _)).below HB1.out).mono (fun j _ hj => (HO.out.lt j hj.symm).1), Sl.nil _ _ _ _ _⟩
          clear HT
          go_wp2_with (at_builtin; refine wpList_push rfl (.tmp 26) (.tmp 32) 22 rfl tupE Try.underlying22 w.heap.size (.slice ao lk.length co) lk rfl HO1.out [⟨xvals, xlo, xhi, []⟩] #[.slice av nv cv, .int .i64 xlo, .int .i64 xhi, .slice none 0 0] HIS.out 1 1 rfl (show Value.slice (some ⟨wo.heap.size + 1, 0, none⟩) 1 1 = .slice (some ⟨(wo.alloc (.cells #[.int .i64 xid, .slice av nv cv, .int .i64 xlo, .int .i64 xhi, .int .i64 xrlo, .int .i64 xrhi] 59)).heap.size, 0, none⟩) 1 1 by simp) (by decide) (by unfold maxLen; omega) (by show _ * 64 ≤ _; omega) HB1.out.size ?_; intro g cap w5 hP hPa)
          go_roundw
          case rel => exact ⟨k + 1, by omega, by go_num, by rw [HT2.out]; exact hP.own' (by simp), HB1.out.trans hP.below⟩
          case measure => simp [intOf]; omega
        · have HT2 : Hid (atT (l.take (k + 1)) t = lk) := by show _ = _; rw [HT.out, if_neg (by simp [h1, h2])]; simp
          clear HT
          go_wp2_with fail
          go_roundw
          case rel => exact ⟨k + 1, by omega, by go_num, by rw [HT2.out]; exact HO.out.below (below_alloc _ _), below_alloc_keep HB.out⟩
          case measure => simp [intOf]; omega
      · have HT2 : Hid (atT (l.take (k + 1)) t = lk) := by show _ = _; rw [HT.out, if_neg (by simp [h1])]; simp
        clear HT
        go_wp2_with fail
        go_roundw
        case rel => exact ⟨k + 1, by omega, by go_num, by rw [HT2.out]; exact HO.out.below (below_alloc _ _), below_alloc_keep HB.out⟩
        case measure => simp [intOf]; omega
    · have HF : Hid (lk = atT l t) := by show _ = _; rw [hlke, List.take_of_length_le (by rw [← HN.out]; omega)]
      have HO := Lib.hid hO
      have HB := Lib.hid hB
      clear hO hB hlke
      go_wp2_with fail
      go_ret
      exact ⟨_, rfl, HF.out ▸ HO.out, HB.out⟩
end Go.Proofs.Ytminnkihcohflaa

namespace Go.Proofs.Ytminnkihcohflaa
open Go.RowKit Go.Lib Go.Shelf

/-- Six small numbers. -/
structure U6 where
  x0 : Nat
  x1 : Nat
  x2 : Nat
  x3 : Nat
  x4 : Nat
  x5 : Nat
def U6.ok (x : U6) : Prop := x.x0 < 65536 ∧ x.x1 < 65536 ∧ x.x2 < 65536 ∧ x.x3 < 65536 ∧ x.x4 < 65536 ∧ x.x5 < 65536
def u6Of (x : U6) : List Value := [.int .u16 (x.x0 : Int), .int .u16 (x.x1 : Int), .int .u16 (x.x2 : Int), .int .u16 (x.x3 : Int), .int .u16 (x.x4 : Int), .int .u16 (x.x5 : Int)]
theorem u6_info : (Try.prog.info? 113).map (fun i => (i.zero, i.size, i.bytes)) = some (some (.agg #[.int .u16 0, .int .u16 0, .int .u16 0, .int .u16 0, .int .u16 0, .int .u16 0]), 6, 12) := by kernel_rfl
def u6E : El Try.prog U6 := El.flat 113 6 12 (by decide) (info_mk u6_info rfl) u6Of (fun _ => rfl) (by intro x u hu; simp [u6Of] at hu; rcases hu with rfl | rfl | rfl | rfl | rfl | rfl <;> rfl)
theorem u6_at {w : World} {a : Option Addr} {n c k : Nat} {l : List U6} {x : U6} (h : Sl u6E w free (.slice a n c) l) (hk : l[k]? = some x) :
    ∃ b o, a = some ⟨b, o, none⟩ ∧ w.cell? ⟨b, o + k * 6, none⟩ = some (.int .u16 (x.x0 : Int)) ∧ w.cell? ⟨b, o + k * 6 + 1, none⟩ = some (.int .u16 (x.x1 : Int)) ∧ w.cell? ⟨b, o + k * 6 + 2, none⟩ = some (.int .u16 (x.x2 : Int)) ∧ w.cell? ⟨b, o + k * 6 + 3, none⟩ = some (.int .u16 (x.x3 : Int)) ∧ w.cell? ⟨b, o + k * 6 + 4, none⟩ = some (.int .u16 (x.x4 : Int)) ∧ w.cell? ⟨b, o + k * 6 + 5, none⟩ = some (.int .u16 (x.x5 : Int)) := by
  obtain ⟨b, o, cs, ha, rfl, hc⟩ := Sl.at h hk
  exact ⟨b, o, ha, hc 0 _ rfl, hc 1 _ rfl, hc 2 _ rfl, hc 3 _ rfl, hc 4 _ rfl, hc 5 _ rfl⟩
/-- The version of some numbers. -/
def verOf (id : Int) (x : U6) : Ver := ⟨id, [gval0 x.x2, gval1 x.x3], (gper x.x0 x.x1).1, (gper x.x0 x.x1).2, (grec x.x4 x.x5).1, (grec x.x4 x.x5).2⟩
/-- The versions of the numbers. -/
def versL (first : Int) (l : List U6) : List Ver := l.mapIdx fun i x => verOf (first + i) x
theorem versL_snoc (first : Int) (l : List U6) (x : U6) : versL first (l ++ [x]) = versL first l ++ [verOf (first + l.length) x] := by
  unfold versL
  rw [List.mapIdx_append]
  simp
theorem versL_length (first : Int) (l : List U6) : (versL first l).length = l.length := by unfold versL; simp
theorem boxsix {w : World} {g : Nat} {a b c d e f : Value} {t : TypeId} (h : w.heap[g]? = some (.cells #[a, b, c, d, e, f] t (0, 0))) :
    w.cell? ⟨g, 0, none⟩ = some a ∧ w.cell? ⟨g, 1, none⟩ = some b ∧ w.cell? ⟨g, 2, none⟩ = some c ∧ w.cell? ⟨g, 3, none⟩ = some d ∧ w.cell? ⟨g, 4, none⟩ = some e ∧ w.cell? ⟨g, 5, none⟩ = some f ∧ True :=
  ⟨cell_of h rfl, cell_of h rfl, cell_of h rfl, cell_of h rfl, cell_of h rfl, cell_of h rfl, trivial⟩
theorem below_allocV {B n : Nat} {a w : World} {o : Obj} (h : Below B a w) (h1 : n + 1 ≤ w.heap.size) (h2 : B ≤ n) : Below B a (w.alloc o) := h.alloc (by omega) o
theorem size_keepV {n : Nat} {W W' : World} (h : n ≤ W.heap.size) (hb : Below W.heap.size W W') : n ≤ W'.heap.size := Nat.le_trans h hb.size
theorem size_allocV {n : Nat} {W : World} {o : Obj} (h : n ≤ W.heap.size) : n ≤ (W.alloc o).heap.size := by simp; omega
set_option maxHeartbeats 8000000 in
set_option maxRecDepth 100000 in
theorem versions_any (v : Value) (l : List U6) (m first : Nat) (hm : m ≤ 1000) (hfi : first ≤ 1000) (w : World) (hv : Sl u6E w free v l) (hok : ∀ x ∈ l, x.ok) :
    Calls Try.prog 28 #[v, .int .i64 (m : Int), .int .i64 (first : Int)] w (RetOwn verE w (versL first (l.take m))) := by
  obtain ⟨a, c, rfl⟩ := hv.shape
  have HV := Lib.hid hv
  have HOK := Lib.hid hok
  have h63 := hv.1
  obtain ⟨n, hn⟩ : ∃ n, n = l.length := ⟨_, rfl⟩
  have HN := Lib.hid hn
  rw [← hn] at HV h63 ⊢
  clear hv hn hok
  go_enter Try.func28, Try.ntmps28
  go_wp2_with fail
  go_loopw [8, 7] (fun i o wr => ∃ k : Nat, k ≤ n ∧ k ≤ m ∧ i = .int .i64 k ∧ Own verE wr w.heap.size o (versL first (l.take k)) ∧ Below w.heap.size w wr) (fun i _ _ => n - (intOf i).toNat)
  case atStart => exact ⟨0, Nat.zero_le _, Nat.zero_le _, rfl, Own.nil _ _ _, Below.refl _ _⟩
  case round =>
    obtain ⟨k, hk, hkm, rfl, hO, hB⟩ := hrel
    obtain ⟨wo, rfl⟩ : ∃ wo : World, wo = wr := ⟨_, rfl⟩
    obtain ⟨lk, hlke⟩ : ∃ lk, lk = versL first (l.take k) := ⟨_, rfl⟩
    rw [← hlke] at hO
    have hlen : lk.length = k := by rw [hlke, versL_length, List.length_take, ← HN.out]; omega
    obtain ⟨ao, co, rfl⟩ := hO.shape
    rw [hlen] at hO ⊢
    have HLEN := Lib.hid hlen
    clear hlen
    by_cases hlt1 : k < n
    · by_cases hlt2 : k < m
      · obtain ⟨x, hx⟩ := lget_some l k (by rw [← HN.out]; exact hlt1)
        obtain ⟨b, o, rfl, p0, p1, p2, p3, p4, p5⟩ := u6_at (HV.out.below hB) hx
        obtain ⟨h0, h1, h2, h3, h4, h5⟩ := HOK.out x (List.mem_of_getElem? hx)
        have HT : Hid (versL first (l.take (k + 1)) = lk ++ [verOf (first + k) x]) := by show _ = _; rw [take_get hx, versL_snoc, ← hlke, List.length_take, Nat.min_eq_left (by rw [← HN.out]; exact hk)]
        obtain ⟨x0, x1, x2, x3, x4, x5⟩ := x
        dsimp only at p0 p1 p2 p3 p4 p5 h0 h1 h2 h3 h4 h5
        have CV := fun W => Lib.hid (vals_any x2 x3 h2 h3 W)
        have CP := fun W => Lib.hid (period_any x0 x1 h0 h1 W)
        have CR := fun W => Lib.hid (rec_any x4 x5 h4 h5 W)
        obtain ⟨lo, hlo⟩ : ∃ q, q = (gper x0 x1).1 := ⟨_, rfl⟩
        obtain ⟨hi, hhi⟩ : ∃ q, q = (gper x0 x1).2 := ⟨_, rfl⟩
        obtain ⟨rlo, hrlo⟩ : ∃ q, q = (grec x4 x5).1 := ⟨_, rfl⟩
        obtain ⟨rhi, hrhi⟩ : ∃ q, q = (grec x4 x5).2 := ⟨_, rfl⟩
        rw [← hlo, ← hhi] at CP
        rw [← hrlo, ← hrhi] at CR
        have HT2 : Hid (versL first (l.take (k + 1)) = lk ++ [⟨first + k, [gval0 x2, gval1 x3], lo, hi, rlo, rhi⟩]) := by show _ = _; rw [HT.out, hlo, hhi, hrlo, hrhi]; rfl
        have HOo := Lib.hid hO
        have HBo := Lib.hid hB
        have hzo := hB.size
        have hfk : IntKind.i64.wrap ((first : Int) + (k : Int)) = (first : Int) + k := IntWalk.i64_in _ (by omega)
        have hne : some wo.heap.size ≠ (Value.slice ao k co).ownBlock := fun e => by have := (hO.lt _ e.symm).2; omega
        have hW0 := below_alloc wo (.cells #[.int .u16 (x0 : Int), .int .u16 (x1 : Int), .int .u16 (x2 : Int), .int .u16 (x3 : Int), .int .u16 (x4 : Int), .int .u16 (x5 : Int)] 113)
        have hz0 : wo.heap.size + 1 ≤ (wo.alloc (.cells #[.int .u16 (x0 : Int), .int .u16 (x1 : Int), .int .u16 (x2 : Int), .int .u16 (x3 : Int), .int .u16 (x4 : Int), .int .u16 (x5 : Int)] 113)).heap.size := by simp
        have hg := World.alloc_heap_new wo (.cells #[.int .u16 (x0 : Int), .int .u16 (x1 : Int), .int .u16 (x2 : Int), .int .u16 (x3 : Int), .int .u16 (x4 : Int), .int .u16 (x5 : Int)] 113)
        obtain ⟨c0, c1, c2, c3, c4, c5, _⟩ := boxsix hg
        have hbw := hW0.drew
        have hgv := heap_drew hg
        clear hx hO hB hlke HT hlo hhi hrlo hrhi hg
        have hBz : Below w.heap.size wo (wo.alloc (.cells #[.int .u16 (x0 : Int), .int .u16 (x1 : Int), .int .u16 (x2 : Int), .int .u16 (x3 : Int), .int .u16 (x4 : Int), .int .u16 (x5 : Int)] 113)) := below_alloc_from _ _ hzo
        go_wp2_with fail
        go_region_held3 (fun W => Below w.heap.size wo W ∧ wo.heap.size + 1 ≤ W.heap.size ∧ W.cell? ⟨wo.heap.size, 0, none⟩ = some (.int .u16 (x0 : Int)) ∧ W.cell? ⟨wo.heap.size, 1, none⟩ = some (.int .u16 (x1 : Int)) ∧ W.cell? ⟨wo.heap.size, 2, none⟩ = some (.int .u16 (x2 : Int)) ∧ W.cell? ⟨wo.heap.size, 3, none⟩ = some (.int .u16 (x3 : Int)) ∧ W.cell? ⟨wo.heap.size, 4, none⟩ = some (.int .u16 (x4 : Int)) ∧ W.cell? ⟨wo.heap.size, 5, none⟩ = some (.int .u16 (x5 : Int)))
          ((go_split_ands; refine ⟨?_, ?_, ?_, ?_, ?_, ?_, ?_, ?_⟩ <;> first | (with_reducible assumption) | with_reducible exact Below.drew (by assumption) | with_reducible exact size_drewA (by assumption) | with_reducible exact cell_drew (by assumption) | with_reducible exact below_tr3 (by assumption) (by assumption) (by assumption) | with_reducible exact size_keepV (by assumption) (by assumption) | with_reducible exact cell_keep (by assumption) (by assumption) | with_reducible exact below_allocV (by assumption) (by assumption) (by assumption) | with_reducible exact size_allocV (by assumption) | with_reducible exact cell_alloc (by assumption)))
          (first
            | (go_at_call 52; go_split_ands; refine (CV _).out.mono ?_; rintro e' wV ⟨va, vc, rfl, hSV, hbV⟩; (replace hSV := hSV.mono (G' := fun j => j < wo.heap.size) (fun j _ hj => Nat.lt_of_lt_of_le hj hbw.size)); (replace hbw := below_tr3 (Nat.le_refl _) hbw hbV); (replace hgv := box_kept hgv hbV); (have hbshbV := hbw.mono hzo); (have hzzhbV : wo.heap.size + 1 ≤ wV.heap.size := (Array.getElem?_eq_some_iff.1 hgv).1); (have hcshbV := boxsix hgv))
            | (go_at_call 29; go_split_ands; refine (CP _).out.mono ?_; rintro e' wP ⟨rfl, hbP⟩; (try replace hSV := hSV.below hbP); (replace hbw := below_tr3 (Nat.le_refl _) hbw hbP); (replace hgv := box_kept hgv hbP); (have hbshbP := hbw.mono hzo); (have hzzhbP : wo.heap.size + 1 ≤ wP.heap.size := (Array.getElem?_eq_some_iff.1 hgv).1); (have hcshbP := boxsix hgv))
            | (go_at_call 65; go_split_ands; refine (CR _).out.mono ?_; rintro e' wR ⟨rfl, hbR⟩; (try replace hSV := hSV.below hbR); (replace hbw := below_tr3 (Nat.le_refl _) hbw hbR); (replace hgv := box_kept hgv hbR); (have hbshbR := hbw.mono hzo); (have hzzhbR : wo.heap.size + 1 ≤ wR.heap.size := (Array.getElem?_eq_some_iff.1 hgv).1); (have hcshbR := boxsix hgv))
            | (refine step_push rfl (.tmp 25) (.tmp 45) 29 rfl verE Try.underlying29 w.heap.size (.slice ao k co) lk rfl (HOo.out.below hbw) [⟨first + k, [gval0 x2, gval1 x3], lo, hi, rlo, rhi⟩] #[.int .i64 ((first : Int) + k), .slice va 2 vc, .int .i64 lo, .int .i64 hi, .int .i64 rlo, .int .i64 rhi] (Els.one ⟨_, rfl, hSV.mono (fun j _ hj => (HOo.out.lt j hj.symm).2)⟩) 1 1 rfl rfl (by decide) (by have := HLEN.out; unfold maxLen; omega) (by have := HLEN.out; show _ * 64 ≤ _; omega) (Nat.le_trans hzo hbw.size) ?_; intro g cap w5 hP hPa; have hg5 := hP.block hne hgv; obtain ⟨k0, k1, k2, k3, k4, k5, _⟩ := boxsix hg5; have hb5 : Below w.heap.size wo w5 := (hbw.mono hzo).trans hP.below; have hz5 : wo.heap.size + 1 ≤ w5.heap.size := (Array.getElem?_eq_some_iff.1 hg5).1))
        all_goals (
          have HP := Lib.hid hP
          have HB5 := Lib.hid hb5
          clear hP hPa hb5 hz5 hg5 k0 k1 k2 k3 k4 k5 hSV hbw hgv
          go_wp2_with fail
          go_roundw
          case rel => exact ⟨k + 1, by omega, by omega, by go_num, by rw [HT2.out]; exact HP.out.own' (by simp), HBo.out.trans HB5.out⟩
          case measure => simp [intOf]; omega)
      · have HF : Hid (lk = versL first (l.take m)) := by show _ = _; rw [hlke, show k = m by omega]
        have HO := Lib.hid hO
        have HB := Lib.hid hB
        clear hO hB hlke
        go_wp2_with fail
        go_ret
        have h := HO.out
        rw [HF.out] at h
        exact ⟨_, rfl, h, HB.out⟩
    · have HF : Hid (lk = versL first (l.take m)) := by show _ = _; rw [hlke, List.take_of_length_le (by rw [← HN.out]; omega), List.take_of_length_le (by rw [← HN.out]; omega)]
      have HO := Lib.hid hO
      have HB := Lib.hid hB
      clear hO hB hlke
      go_wp2_with fail
      go_ret
      have h := HO.out
      rw [HF.out] at h
      exact ⟨_, rfl, h, HB.out⟩
end Go.Proofs.Ytminnkihcohflaa

namespace Go.Proofs.Ytminnkihcohflaa
open Go.RowKit Go.Lib

theorem insRev_perm (x : Ver) (s : List Ver) : (insRev x s).Perm (x :: s) := by
  induction s with
  | nil => exact List.Perm.refl _
  | cons z zs ih =>
    unfold insRev
    split
    · exact (List.Perm.cons z ih).trans (List.Perm.swap x z zs)
    · exact List.Perm.refl _
theorem insV_perm (x : Ver) (s : List Ver) : (insV x s).Perm (s ++ [x]) := by
  unfold insV
  refine (List.reverse_perm _).trans ((insRev_perm x _).trans ?_)
  refine ((List.reverse_perm s).cons x).trans ?_
  exact (List.perm_append_comm (l₁ := [x]) (l₂ := s))
theorem sortV_perm (l : List Ver) : (sortV l).Perm l := by
  suffices h : ∀ s, (l.foldl (fun s x => insV x s) s).Perm (s ++ l) by
    have := h []
    rwa [List.nil_append] at this
  induction l with
  | nil => intro s; rw [List.append_nil]; exact List.Perm.refl _
  | cons x l ih =>
    intro s
    refine (ih (insV x s)).trans ?_
    refine ((insV_perm x s).append_right l).trans ?_
    rw [List.append_assoc]
    exact List.Perm.refl _
theorem gper_ok (x y : Nat) : 0 ≤ (gper x y).1 ∧ (gper x y).1 ≤ 39 ∧ (gper x y).1 < (gper x y).2 ∧ (gper x y).2 ≤ 1000000 := by
  unfold gper
  split <;> dsimp only <;> omega
theorem grec_lo (x y : Nat) : (grec x y).1 ≤ 39 := (gper_ok x y).2.1
/-- What the builder's versions are. -/
theorem versL_mem {first : Int} {l : List U6} {v : Ver} (h : v ∈ versL first l) : ∃ (i : Nat) (x : U6), l[i]? = some x ∧ v = verOf (first + i) x := by
  unfold versL at h
  obtain ⟨i, hi, he⟩ := List.mem_mapIdx.1 h
  exact ⟨i, l[i], List.getElem?_eq_getElem hi, he.symm⟩
theorem versL_ids (first : Int) (l : List U6) : (versL first l).map Ver.id = (List.range l.length).map (fun i : Nat => first + (i : Int)) := by
  unfold versL
  refine List.ext_getElem? fun i => ?_
  simp only [List.getElem?_map, List.getElem?_mapIdx]
  by_cases hi : i < l.length
  · simp [hi, verOf]
  · simp [hi]
theorem versL_nodup (first : Int) (l : List U6) : ((versL first l).map Ver.id).Nodup := by
  rw [versL_ids]
  exact List.Pairwise.map _ (fun a b hne h => hne (by omega)) List.nodup_range
theorem aff_mem {plo phi : Int} {L : List Ver} {v : Ver} (h : v ∈ affV plo phi allE 0 L) : v ∈ L ∧ v.rhi = 1099511627776 ∧ isOk v.lo v.hi plo phi = true := by
  obtain ⟨h1, h2⟩ := aff_ok _ _ _ _ _ _ h
  unfold keepV at h2
  simp only [Bool.and_eq_true, beq_iff_eq] at h2
  exact ⟨h1, h2.1.1, h2.1.2⟩
theorem aff_ids_nodup {plo phi : Int} {L : List Ver} (h : (L.map Ver.id).Nodup) : ((affV plo phi allE 0 L).map Ver.id).Nodup := by
  have h1 : ((affV plo phi allE 0 L).map Ver.id).Perm ((L.filter (keepV plo phi allE 0)).map Ver.id) := (sortV_perm _).map _
  exact h1.nodup_iff.2 (h.sublist (List.filter_sublist.map _))
theorem parts_days {plo phi : Int} {chg : Option (List GVal → List GVal)} {v : Ver} (h0 : 0 ≤ v.lo) (h1 : v.lo < v.hi) (h2 : v.hi ≤ 1000000) (hok : isOk v.lo v.hi plo phi = true) : ∀ t ∈ partsV plo phi chg v, pdays t.lo t.hi = true := by
  unfold isOk at hok
  simp only [Bool.and_eq_true, decide_eq_true_eq] at hok
  have hok' : isOk v.lo v.hi plo phi = true := by unfold isOk; simp only [Bool.and_eq_true, decide_eq_true_eq]; exact hok
  have hlo : isLo v.lo v.hi plo phi = max v.lo plo := by unfold isLo; rw [if_pos hok']
  have hhi : isHi v.lo v.hi plo phi = min v.hi phi := by unfold isHi; rw [if_pos hok']
  obtain ⟨⟨_, hp2⟩, hp3⟩ := hok
  intro t ht
  unfold partsV partL partM partR at ht
  rw [hlo, hhi] at ht
  have key : ∀ a b : Int, 0 ≤ a → a < b → b ≤ 1000000 → pdays a b = true := by
    intro a b ha hb hc
    unfold pdays pvalid
    simp only [Bool.and_eq_true, decide_eq_true_eq]
    omega
  rcases List.mem_append.1 ht with ht | ht
  · rcases List.mem_append.1 ht with ht | ht
    · split at ht
      · simp at ht; subst ht; exact key _ _ (by dsimp only; omega) (by assumption) (by dsimp only; omega)
      · cases ht
    · cases chg with
      | none => cases ht
      | some f =>
        dsimp only at ht
        by_cases hm : max v.lo plo < min v.hi phi
        · simp [hm] at ht; subst ht; exact key _ _ (by dsimp only; omega) hm (by dsimp only; omega)
        · simp [hm] at ht
  · split at ht
    · simp at ht; subst ht; exact key _ _ (by dsimp only; omega) (by assumption) (by dsimp only; omega)
    · cases ht
theorem past_e (plo phi : Int) (chg : Option (List GVal → List GVal)) (xs : List U6) (n : Int) (hxs : xs.length ≤ 10) (hn : 60 ≤ n) (hn2 : n < 1099511627776) :
    applyE (versL 1 xs) ((affV plo phi allE 0 (versL 1 xs)).map Ver.id) ((affV plo phi allE 0 (versL 1 xs)).flatMap (partsV plo phi chg)) n 100 = 0 := by
  have hnd := versL_nodup 1 xs
  have hbad : argBad (versL 1 xs) n 100 = false := by
    unfold argBad
    simp only [Bool.or_eq_false_iff, decide_eq_false_iff_not, Bool.not_eq_false', decide_eq_true_eq]
    refine ⟨⟨⟨⟨⟨by omega, by omega⟩, by omega⟩, by omega⟩, ?_⟩, hnd⟩
    rw [List.any_eq_false]
    intro v hv
    obtain ⟨i, x, hi, rfl⟩ := versL_mem hv
    have := (List.getElem?_eq_some_iff.1 hi).1
    simp only [verOf]
    show ¬ decide ((100 : Int) ≤ 1 + (i : Int)) = true
    rw [decide_eq_true_eq]
    omega
  have hok : okC (versL 1 xs) ((affV plo phi allE 0 (versL 1 xs)).map Ver.id) = true := by
    unfold okC
    rw [Bool.and_eq_true, List.all_eq_true, decide_eq_true_eq]
    refine ⟨fun id hid => ?_, aff_ids_nodup hnd⟩
    obtain ⟨v, hv, rfl⟩ := List.mem_map.1 hid
    obtain ⟨h1, h2, _⟩ := aff_mem hv
    exact List.any_eq_true.2 ⟨v, h1, by simp [h2]⟩
  have hlate : lateC (versL 1 xs) ((affV plo phi allE 0 (versL 1 xs)).map Ver.id) n = false := by
    unfold lateC
    rw [List.any_eq_false]
    intro id _ hb
    obtain ⟨v, hv, hb⟩ := List.any_eq_true.1 hb
    simp only [Bool.and_eq_true, decide_eq_true_eq] at hb
    obtain ⟨i, x, _, rfl⟩ := versL_mem hv
    have := grec_lo x.x4 x.x5
    have h3 := hb.2
    simp only [verOf] at h3
    omega
  have hdays : (((affV plo phi allE 0 (versL 1 xs)).flatMap (partsV plo phi chg)).any fun t => !pdays t.lo t.hi) = false := by
    rw [List.any_eq_false]
    intro t ht
    obtain ⟨v, hv, ht⟩ := List.mem_flatMap.1 ht
    obtain ⟨h1, _, h3⟩ := aff_mem hv
    obtain ⟨i, x, _, rfl⟩ := versL_mem h1
    obtain ⟨g1, _, g2, g3⟩ := gper_ok x.x0 x.x1
    have := parts_days (chg := chg) (v := verOf (1 + i) x) g1 g2 g3 h3 t ht
    simp [this]
  unfold applyE
  rw [hbad, hok, hlate, hdays]
  rfl
theorem atT_append (l m : List Ver) (t : Int) : atT (l ++ m) t = atT l t ++ atT m t := by unfold atT; rw [List.filter_append, List.map_append]
theorem past_t (plo phi : Int) (ad : List Tup) (xs : List U6) (n t : Int) (hn : 60 ≤ n) (hn2 : n < 1099511627776) (ht : t < n) :
    atT (applyL (versL 1 xs) ((affV plo phi allE 0 (versL 1 xs)).map Ver.id) ad n 100) t = atT (versL 1 xs) t := by
  unfold applyL
  rw [atT_append]
  have h1 : atT (newV n 100 ad) t = [] := by
    unfold atT
    rw [List.map_eq_nil_iff, List.filter_eq_nil_iff]
    intro v hv
    unfold newV at hv
    obtain ⟨i, hi, rfl⟩ := List.mem_mapIdx.1 hv
    simp only [Bool.and_eq_true, decide_eq_true_eq, not_and]
    intro h
    omega
  rw [h1, List.append_nil]
  have hnd := versL_nodup 1 xs
  generalize hL : versL 1 xs = L at hnd ⊢
  have hlo : ∀ v ∈ L, v.rlo < n := by
    intro v hv
    rw [← hL] at hv
    obtain ⟨i, x, _, rfl⟩ := versL_mem hv
    have := grec_lo x.x4 x.x5
    simp only [verOf]
    omega
  have hcl : ∀ v ∈ L, ((affV plo phi allE 0 L).map Ver.id).contains v.id = true → v.rhi = 1099511627776 := by
    intro v hv hc
    rw [List.contains_iff_mem] at hc
    obtain ⟨u, hu, he⟩ := List.mem_map.1 hc
    obtain ⟨hu1, hu2, _⟩ := aff_mem hu
    obtain ⟨i, hi⟩ := List.getElem?_of_mem hv
    obtain ⟨j, hj⟩ := List.getElem?_of_mem hu1
    have := id_inj hnd hi hj he.symm
    subst this
    rw [hi] at hj
    cases hj
    exact hu2
  generalize (affV plo phi allE 0 L).map Ver.id = cl at hcl ⊢
  clear hL hnd h1
  induction L with
  | nil => rfl
  | cons v L ih =>
    have e1 : atT (v :: L) t = atT [v] t ++ atT L t := atT_append [v] L t
    rw [List.flatMap_cons, atT_append, e1, ih (fun u hu => hlo u (List.mem_cons_of_mem _ hu)) (fun u hu => hcl u (List.mem_cons_of_mem _ hu))]
    congr 1
    unfold keepOne
    have h2 := hlo v (List.mem_cons_self ..)
    by_cases hc : cl.contains v.id = true
    · have h3 := hcl v (List.mem_cons_self ..) hc
      rw [if_pos hc, if_neg (by simp; omega)]
      unfold atT
      by_cases h4 : v.rlo ≤ t
      · rw [List.filter_cons_of_pos (by simp [h4, ht]), List.filter_cons_of_pos (by simp [h4, h3]; omega)]
        rfl
      · rw [List.filter_cons_of_neg (by simp [h4]), List.filter_cons_of_neg (by simp [h4])]
    · rw [if_neg hc]
end Go.Proofs.Ytminnkihcohflaa

namespace Go.Proofs.Ytminnkihcohflaa
open Go.RowKit Go.Lib

set_option maxHeartbeats 2000000 in
theorem all_any (w : World) : Calls Try.prog 30 #[] w fun e w' => ∃ v, e = .returned v ∧ Sl expE w' free v allE ∧ Below w.heap.size w w' := by
  go_enter Try.func30, Try.ntmps30
  go_wp2_with fail
  go_ret
  exact ⟨_, rfl, Sl.of_block (World.alloc_heap_new w _) (Els.one rfl) id rfl (by simp) (by simp), below_alloc _ _⟩
end Go.Proofs.Ytminnkihcohflaa

namespace Go.Proofs.Ytminnkihcohflaa
open Go.RowKit Go.Lib Go.Maps Go.Shelf

theorem allE_c : ∀ x ∈ allE, In64 x.c.n := by intro x hx; simp [allE] at hx; subst hx; constructor <;> decide
theorem versL_take (first : Int) (l : List U6) (m : Nat) : (versL first (l.take m)).length ≤ m := by rw [versL_length, List.length_take]; omega
theorem verOf_n {first : Int} {l : List U6} : ∀ x ∈ versL first l, ∀ g ∈ x.vals, In64 g.n := by
  intro v hv g hg
  obtain ⟨i, x, _, rfl⟩ := versL_mem hv
  have hg' : g = gval0 x.x2 ∨ g = gval1 x.x3 := by simpa [verOf] using hg
  have key : -1 ≤ g.n ∧ g.n ≤ 2 := by
    rcases hg' with rfl | rfl
    · unfold gval0
      split
      · decide
      · show -1 ≤ ((x.x2 % 3 : Nat) : Int) - 1 ∧ ((x.x2 % 3 : Nat) : Int) - 1 ≤ 2
        omega
    · unfold gval1
      split
      · decide
      · show -1 ≤ (0 : Int) ∧ (0 : Int) ≤ 2
        decide
  constructor <;> omega
theorem verOf_len {first : Int} {l : List U6} : ∀ x ∈ versL first l, x.vals.length ≤ 1000 := by
  intro v hv
  obtain ⟨i, x, _, rfl⟩ := versL_mem hv
  simp [verOf]
theorem verOf_id {l : List U6} (hl : l.length ≤ 1000) : ∀ x ∈ versL 1 l, In64 x.id := by
  intro v hv
  obtain ⟨i, x, hi, rfl⟩ := versL_mem hv
  have := (List.getElem?_eq_some_iff.1 hi).1
  have h : (verOf (1 + (i : Int)) x).id = 1 + (i : Int) := rfl
  rw [h]
  constructor <;> omega
theorem aff_len {plo phi : Int} (L : List Ver) : (affV plo phi allE 0 L).length ≤ L.length := by
  have h : (affV plo phi allE 0 L).length = (L.filter (keepV plo phi allE 0)).length := (sortV_perm _).length_eq
  rw [h]
  exact List.length_filter_le _ _
theorem parts_len {plo phi : Int} (chg : Option (List GVal → List GVal)) (L : List Ver) : (L.flatMap (partsV plo phi chg)).length ≤ 3 * L.length := by
  induction L with
  | nil => simp
  | cons v L ih =>
    rw [List.flatMap_cons, List.length_append, List.length_cons]
    have := partsV_length plo phi chg v
    omega
theorem parts_vals {plo phi : Int} (chg : Option (List GVal → List GVal)) (hchg : ∀ f, chg = some f → ∀ r, f r = r) (L : List Ver) (hL : ∀ x ∈ L, x.vals.length ≤ 1000) : ∀ t ∈ L.flatMap (partsV plo phi chg), t.vals.length ≤ 1000 := by
  intro t ht
  obtain ⟨v, hv, ht⟩ := List.mem_flatMap.1 ht
  have h := hL v hv
  unfold partsV partL partM partR at ht
  rcases List.mem_append.1 ht with ht | ht
  · rcases List.mem_append.1 ht with ht | ht
    · split at ht
      · simp at ht; subst ht; exact h
      · cases ht
    · cases chg with
      | none => cases ht
      | some f =>
        have hf := hchg f rfl
        simp only [hf] at ht
        split at ht
        · simp at ht; subst ht; exact h
        · cases ht
  · split at ht
    · simp at ht; subst ht; exact h
    · cases ht
theorem asg_nil (e : List GExp) (r : List GVal) : asgV e [] r = r := by simp [asgV]
end Go.Proofs.Ytminnkihcohflaa

namespace Go.Proofs.Ytminnkihcohflaa
open Go.RowKit Go.Lib Go.Maps Go.Shelf

/-- A box holds an edit; what it leads to lies elsewhere. -/
def DeltaAt (m : Nat) (w3 : World) (cl : List Int) (ad : List Tup) (s : Value) (wx : World) : Prop :=
  ∃ gd a1 c1 a2 c2, s = .pointer (some ⟨gd, 0, none⟩) ∧ m ≤ gd ∧ wx.cell? ⟨gd, 0, none⟩ = some (.slice a1 cl.length c1) ∧ wx.cell? ⟨gd, 1, none⟩ = some (.slice a2 ad.length c2) ∧ wx.frozen? ⟨gd, 0, none⟩ = false ∧ wx.frozen? ⟨gd, 1, none⟩ = false ∧ Sl intE wx (fun k => k = gd) (.slice a1 cl.length c1) cl ∧ Sl tupE wx (fun k => k = gd) (.slice a2 ad.length c2) ad ∧ Below m w3 wx
theorem delta_old {m gd : Nat} {w3 W : World} {a1 a2 : Option Addr} {n1 n2 c1 c2 : Nat} {cl : List Int} {ad : List Tup} {u0 u1 : Value} (e1 : n1 = cl.length) (e2 : n2 = ad.length) (h0 : W.cell? ⟨gd, 0, none⟩ = some u0) (h1 : W.cell? ⟨gd, 1, none⟩ = some u1) (f0 : W.frozen? ⟨gd, 0, none⟩ = false) (f1 : W.frozen? ⟨gd, 1, none⟩ = false) (hm : m ≤ gd)
    (hc : Sl intE W (fun k => k = gd) (.slice a1 n1 c1) cl) (ha : Sl tupE W (fun k => k = gd) (.slice a2 n2 c2) ad) (hb : Below m w3 W) :
    DeltaAt m w3 cl ad (.pointer (some ⟨gd, 0, none⟩)) ((W.setCell ⟨gd, 0, none⟩ (.slice a1 n1 c1)).setCell ⟨gd, 1, none⟩ (.slice a2 n2 c2)) := by
  subst e1 e2
  have hk : Kept (fun k => k = gd) W ((W.setCell ⟨gd, 0, none⟩ (.slice a1 cl.length c1)).setCell ⟨gd, 1, none⟩ (.slice a2 ad.length c2)) :=
    (kept_set (G := fun k => k = gd) (q := ⟨gd, 0, none⟩) rfl).trans (kept_set (G := fun k => k = gd) (q := ⟨gd, 1, none⟩) rfl)
  refine ⟨gd, a1, c1, a2, c2, rfl, hm, ?_, ?_, by simp [f0], by simp [f1], hc.kept hk, ha.kept hk, (hb.setCell (p := ⟨gd, 0, none⟩) hm _).setCell (p := ⟨gd, 1, none⟩) hm _⟩
  · rw [World.cell?_setCell_other _ _ _ _ (by intro e; cases e)]
    exact World.cell?_setCell_same _ _ _ h0
  · obtain ⟨v', h'⟩ := cell?_setCell_some (p := ⟨gd, 0, none⟩) (x := .slice a1 cl.length c1) h1
    exact World.cell?_setCell_same _ _ _ h'
theorem delta_new {m : Nat} {w3 W : World} {a1 a2 : Option Addr} {n1 n2 c1 c2 : Nat} {cl : List Int} {ad : List Tup} {G : Nat → Prop} (e1 : n1 = cl.length) (e2 : n2 = ad.length) (hm : m ≤ W.heap.size)
    (hc : Sl intE W G (.slice a1 n1 c1) cl) (ha : Sl tupE W G (.slice a2 n2 c2) ad) (hb : Below m w3 W) :
    DeltaAt m w3 cl ad (.pointer (some ⟨W.heap.size, 0, none⟩)) (((W.alloc (.cells #[.slice none 0 0, .slice none 0 0] 38)).setCell ⟨W.heap.size, 0, none⟩ (.slice a1 n1 c1)).setCell ⟨W.heap.size, 1, none⟩ (.slice a2 n2 c2)) := by
  obtain ⟨h0, h1, f0, f1⟩ := box_two (World.alloc_heap_new W (.cells #[.slice none 0 0, .slice none 0 0] 38))
  have hba := below_alloc W (.cells #[.slice none 0 0, .slice none 0 0] 38)
  exact delta_old e1 e2 h0 h1 f0 f1 hm ((hc.old (Nat.le_refl _)).mono (fun k _ e => Nat.le_of_eq e.symm) |>.below hba) ((ha.old (Nat.le_refl _)).mono (fun k _ e => Nat.le_of_eq e.symm) |>.below hba) (hb.trans (hba.mono hm))
theorem box_new {w w' : World} {o : Obj} (h : Below (w.alloc o).heap.size (w.alloc o) w') : w'.heap[w.heap.size]? = some o := box_kept (World.alloc_heap_new w o) h
theorem box_new_drew {w w' : World} {o : Obj} (h : Below (w.alloc o).drew.heap.size (w.alloc o).drew w') : w'.heap[w.heap.size]? = some o := box_kept (w := (w.alloc o).drew) (World.alloc_heap_new w o) h
theorem box_drew {w w' : World} {g : Nat} {o : Obj} (hg : w.heap[g]? = some o) (h : Below w.drew.heap.size w.drew w') : w'.heap[g]? = some o := box_kept (w := w.drew) hg h
theorem below_put2 {w3 W : World} {o : Obj} {x y : Value} (h : Below w3.heap.size w3 W) : Below w3.heap.size w3 (((W.alloc o).setCell ⟨W.heap.size, 0, none⟩ x).setCell ⟨W.heap.size, 1, none⟩ y) :=
  ((h.alloc h.size o).setCell (p := ⟨W.heap.size, 0, none⟩) h.size _).setCell (p := ⟨W.heap.size, 1, none⟩) h.size _
theorem cell_put2 {W : World} {o : Obj} {x y : Value} {p : Addr} {v : Value} (h : W.cell? p = some v) : (((W.alloc o).setCell ⟨W.heap.size, 0, none⟩ x).setCell ⟨W.heap.size, 1, none⟩ y).cell? p = some v := by
  have hne := World.new_ne W p h
  rw [World.cell?_setCell_far _ _ _ _ hne, World.cell?_setCell_far _ _ _ _ hne]
  exact cell_alloc h
theorem below_set2 {w3 W : World} {p q : Addr} {x y : Value} (h : Below w3.heap.size w3 W) (hp : w3.heap.size ≤ p.block) (hq : w3.heap.size ≤ q.block) : Below w3.heap.size w3 ((W.setCell p x).setCell q y) := (h.setCell hp _).setCell hq _
theorem cell_set2 {W : World} {q1 q2 : Addr} {x y : Value} {p : Addr} {v : Value} (h : W.cell? p = some v) (h1 : q1.block ≠ p.block) (h2 : q2.block ≠ p.block) : ((W.setCell q1 x).setCell q2 y).cell? p = some v := by
  rw [World.cell?_setCell_far _ _ _ _ h2, World.cell?_setCell_far _ _ _ _ h1]
  exact h
theorem delta_made {m : Nat} {w3 W : World} {a1 a2 : Option Addr} {n1 n2 c1 c2 : Nat} {cl : List Int} {ad : List Tup} {G : Nat → Prop} (e1 : n1 = cl.length) (e2 : n2 = ad.length) (hm : m ≤ W.heap.size)
    (hc : Sl intE W G (.slice a1 n1 c1) cl) (ha : Sl tupE W G (.slice a2 n2 c2) ad) (hb : Below m w3 W) :
    DeltaAt m w3 cl ad (.pointer (some ⟨W.heap.size, 0, none⟩)) (W.alloc (.cells #[.slice a1 n1 c1, .slice a2 n2 c2] 38)) := by
  subst e1 e2
  obtain ⟨h0, h1, f0, f1⟩ := box_two (World.alloc_heap_new W (.cells #[.slice a1 cl.length c1, .slice a2 ad.length c2] 38))
  have hba := below_alloc W (.cells #[.slice a1 cl.length c1, .slice a2 ad.length c2] 38)
  exact ⟨W.heap.size, a1, c1, a2, c2, rfl, hm, h0, h1, f0, f1, (hc.old (Nat.le_refl _)).mono (fun k _ e => Nat.le_of_eq e.symm) |>.below hba, (ha.old (Nat.le_refl _)).mono (fun k _ e => Nat.le_of_eq e.symm) |>.below hba, hb.trans (hba.mono hm)⟩
theorem sl_off {P : Program} {α : Type} {E : El P α} {w : World} {G : Nat → Prop} {v : Value} {l : List α} {gd : Nat} (h : Sl E w G v l) (hg : G gd) : Sl E w (fun k => k = gd) v l := h.mono (fun _k _ e => e ▸ hg)
theorem frozen_hold {W W' : World} {p : Addr} {v : Value} (hb : Below W.heap.size W W') (h : W.cell? p = some v) (hf : W.frozen? p = false) : W'.frozen? p = false := (hb.frozen (World.block_lt_of_cell? W _ h)).trans hf
end Go.Proofs.Ytminnkihcohflaa
