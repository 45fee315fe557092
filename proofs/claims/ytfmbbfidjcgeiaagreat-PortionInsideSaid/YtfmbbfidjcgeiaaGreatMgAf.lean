/- A part of the proofs: Tsl, Nfp, Pop, Pdc, Pdy, Rso, Avr, Rst, Pin, Lift, OpenG, Open, OpenW, OpenX. No condition beside sizes and tables that read as laid. -/
import Derived.Test.YtfmbbfidjcgeiaaGreatMgAe
import Derived.Test.YtfmbbfidjcgeiaaGreatMgAa
import Derived.Deep.DeepCutAuto
import Derived.Test.YtfmbbfidjcgeiaaGreatMgAb
import Derived.Deep.CutRange
import Derived.Test.YtfmbbfidjcgeiaaGreatRows
import Derived.ProofKit
import Derived.OpenShut
import Derived.Carry
import Derived.Deep.DeepHandedRow
import Derived.Lib.LaidTab
import Derived.Shelf.Vars
import Derived.Deep.Slices
namespace Go.Proofs.YtfmbbfidjcgeiaaGreat
open Go.RowKit Go.Lib Go.Shelf

def pincl (lo hi t : Int) : Bool := pvalid lo hi && (decide (lo ≤ t) && decide (t < hi))
set_option maxHeartbeats 1000000 in
theorem incl_any (lo hi t : Int) (w : World) : Calls Tryz.prog 25 #[.agg #[.int .i64 lo, .int .i64 hi], .int .i64 t] w fun e w' => e = .returned (.bool (pincl lo hi t)) ∧ Below w.heap.size w w' := by
  have HR : Hid (pincl lo hi t = (pvalid lo hi && (decide (lo ≤ t) && decide (t < hi)))) := Lib.hid rfl
  have HV := fun W => Lib.hid (pvalid_any lo hi W)
  generalize pvalid lo hi = q at HR HV
  generalize pincl lo hi t = r at HR ⊢
  have hg := World.alloc_heap_new w (.cells #[.int .i64 lo, .int .i64 hi] 28)
  go_enter Tryz.func25, Tryz.ntmps25
  go_wp2_with fail
  refine (HV _).out.mono ?_
  rintro _ w2 ⟨rfl, hb⟩
  have hk := box_kept hg hb
  obtain ⟨d0, d1, _, _⟩ := box_two hk
  have HB := Lib.hid (below_alloc2' hb)
  clear hb hk hg
  cases q
  · go_wp2_with fail
    go_ret
    exact ⟨ret_bool (by rw [HR.out]; rfl), HB.out⟩
  · by_cases h1 : lo ≤ t
    · by_cases h2 : t < hi
      · go_wp2_with fail
        go_ret
        exact ⟨ret_bool (by rw [HR.out]; simp; omega), HB.out⟩
      · go_wp2_with fail
        go_ret
        exact ⟨ret_bool (by rw [HR.out]; simp; omega), HB.out⟩
    · go_wp2_with fail
      go_ret
      exact ⟨ret_bool (by rw [HR.out]; simp; omega), HB.out⟩
/-- The rows that hold on a day. -/
def atDay (l : List Tup) (t : Int) : List GRow := (l.filter fun x => pincl x.lo x.hi t).map fun x => ⟨x.vals, x.lin⟩
theorem atDay_snoc (l : List Tup) (x : Tup) (t : Int) : atDay (l ++ [x]) t = atDay l t ++ if pincl x.lo x.hi t = true then [⟨x.vals, x.lin⟩] else [] := by
  unfold atDay
  rw [List.filter_append, List.map_append]
  congr 1
  rw [List.filter_cons, List.filter_nil]
  split <;> rfl
theorem atDay_len (l : List Tup) (t : Int) : (atDay l t).length ≤ l.length := by unfold atDay; rw [List.length_map]; exact List.length_filter_le _ _
theorem atDay_small {l : List Tup} (h : ∀ x ∈ l, x.vals.length ≤ 1000 ∧ x.lin.length ≤ 1000) (t : Int) : ∀ x ∈ atDay l t, x.vals.length ≤ 1000 ∧ x.lin.length ≤ 1000 := by
  intro x hx
  unfold atDay at hx
  obtain ⟨y, hy, rfl⟩ := List.mem_map.1 hx
  exact h y (List.mem_filter.1 hy).1
set_option maxHeartbeats 4000000 in
set_option maxRecDepth 100000 in
theorem timeslice_any (v : Value) (l : List Tup) (t : Int) (w : World) (hv : Tups w v l) (hl : l.length ≤ 100000) (hs : ∀ x ∈ l, x.vals.length ≤ 1000 ∧ x.lin.length ≤ 1000) :
    Calls Tryz.prog 11 #[v, .int .i64 t] w (RetOwn rowE w (sortR (atDay l t))) := by
  obtain ⟨a, c, rfl⟩ := hv.shape
  have h63 := hv.1
  have HV := Lib.hid hv
  have HS := Lib.hid (atDay_small hs t)
  obtain ⟨n, hn⟩ : ∃ n, n = l.length := ⟨_, rfl⟩
  have HN := Lib.hid hn
  rw [← hn] at HV h63 hl ⊢
  clear hv hn hs
  go_enter Tryz.func11, Tryz.ntmps11
  go_wp2_with fail
  go_loopw [10, 5] (fun i o wr => ∃ k : Nat, k ≤ n ∧ i = .int .i64 k ∧ Own rowE wr w.heap.size o (atDay (l.take k) t) ∧ Hid (Below w.heap.size w wr)) (fun i _ _ => n - (RowKit.intOf i).toNat)
  case atStart => exact ⟨0, Nat.zero_le _, rfl, Own.nil _ _ _, Lib.hid (.refl _ _)⟩
  case round =>
    obtain ⟨k, hk, rfl, hO, HB⟩ := hrel
    obtain ⟨wo, rfl⟩ : ∃ wo : World, wo = wr := ⟨_, rfl⟩
    by_cases hlt : k < n
    · obtain ⟨x, hx⟩ := lget_some l k (by rw [← HN.out]; exact hlt)
      obtain ⟨b, o, a1, n1, e1, m1, rfl, hvv, hll, p0, p1, p2, p3⟩ := tups_at HV.out hx
      replace p0 := cell_keep HB.out p0
      replace p1 := cell_keep HB.out p1
      replace p2 := cell_keep HB.out p2
      replace p3 := cell_keep HB.out p3
      have HT : Hid (atDay (l.take (k + 1)) t = atDay (l.take k) t ++ if pincl x.lo x.hi t = true then [⟨x.vals, x.lin⟩] else []) := by show _ = _; rw [take_get hx, atDay_snoc]
      obtain ⟨lk, hlke⟩ : ∃ lk, lk = atDay (l.take k) t := ⟨_, rfl⟩
      have hlk : lk.length ≤ 100000 := by rw [hlke]; exact Nat.le_trans (atDay_len _ _) (by rw [List.length_take]; omega)
      rw [← hlke] at hO HT
      obtain ⟨ao, co, rfl⟩ := hO.shape
      obtain ⟨xv, xlo, xhi, xl⟩ := x
      dsimp only at p0 p1 p2 p3 hvv hll HT
      obtain ⟨q, hq⟩ : ∃ q, q = pincl xlo xhi t := ⟨_, rfl⟩
      have HI := fun W => Lib.hid (incl_any xlo xhi t W)
      rw [← hq] at HT HI
      have HVV := Lib.hid hvv
      have HLL := Lib.hid hll
      have hg := World.alloc_heap_new wo (.cells #[.slice a1 xv.length n1, .int .i64 xlo, .int .i64 xhi, .slice e1 xl.length m1] 70)
      have HB1 : Hid (Below w.heap.size w (wo.alloc (.cells #[.slice a1 xv.length n1, .int .i64 xlo, .int .i64 xhi, .slice e1 xl.length m1] 70))) := Lib.hid (below_alloc_keep HB.out)
      have HO1 := Lib.hid (hO.below (below_alloc wo (.cells #[.slice a1 xv.length n1, .int .i64 xlo, .int .i64 xhi, .slice e1 xl.length m1] 70)))
      have HG := Lib.hid hg
      clear hx hvv hll hO hlke hq hg
      go_wp2_with fail
      refine (HI _).out.mono ?_
      rintro _ w3 ⟨rfl, hb3⟩
      obtain ⟨⟨d0, d1, d2, d3⟩, _, _, _, _⟩ := box_four (box_kept HG.out hb3)
      have HB3 : Hid (Below w.heap.size w w3) := Lib.hid (below_keep HB1.out hb3)
      have HO3 := Lib.hid (HO1.out.below hb3)
      clear hb3 HG HB1 HO1 HI
      cases q
      · have HT' : Hid (atDay (l.take (k + 1)) t = lk) := by show _ = _; rw [HT.out, if_neg (by decide), List.append_nil]
        go_wp2_with fail
        go_roundw
        case rel => exact ⟨k + 1, by omega, by go_num, by rw [HT'.out]; exact HO3.out, HB3⟩
        case measure => simp [RowKit.intOf]; omega
      · have HT' : Hid (atDay (l.take (k + 1)) t = lk ++ [⟨xv, xl⟩]) := by show _ = _; rw [HT.out, if_pos rfl]
        go_wp2_with fail
        refine (tupleRow_any _ _ _ _ _ _ _ _ _ _ _ rfl rfl).mono ?_
        rintro _ w4 ⟨rfl, hb4⟩
        have HB4 : Hid (Below w.heap.size w w4) := Lib.hid (below_keep HB3.out hb4)
        have HO4 := Lib.hid (HO3.out.below hb4)
        have HIS : Hid (Els rowE w4 (fun j => some j = (Value.slice ao lk.length co).ownBlock) [⟨xv, xl⟩] [.slice a1 xv.length n1, .slice e1 xl.length m1]) := Lib.hid (Els.one ⟨_, _, rfl, ((HVV.out.old (Nat.le_refl _)).below HB4.out).mono (fun j _ hj => (HO4.out.lt j hj.symm).1), ((HLL.out.old (Nat.le_refl _)).below HB4.out).mono (fun j _ hj => (HO4.out.lt j hj.symm).1)⟩)
        clear hb4
        go_wp2_with (at_builtin; refine wpList_push rfl (.tmp 18) (.tmp 21) 48 rfl rowE Tryz.underlying48 w.heap.size (.slice ao lk.length co) lk rfl HO4.out [⟨xv, xl⟩] #[.slice a1 xv.length n1, .slice e1 xl.length m1] HIS.out 1 1 rfl rfl (by decide) (by unfold maxLen; omega) (by show _ * 48 ≤ _; omega) HB4.out.size ?_; intro g cap w5 hP hPa)
        go_roundw
        case rel => exact ⟨k + 1, by omega, by go_num, by rw [HT'.out]; exact hP.own' (by simp), Lib.hid (HB4.out.trans hP.below)⟩
        case measure => simp [RowKit.intOf]; omega
    · have hkk : l.take k = l := List.take_of_length_le (by rw [← HN.out]; omega)
      rw [hkk] at hO
      obtain ⟨ao, co, rfl⟩ := hO.shape
      have HSR := Lib.hid (bagSort_any _ (atDay l t) wo hO.sl (Nat.le_trans (atDay_len _ _) (by rw [← HN.out]; exact hl)) HS.out)
      clear hO hkk
      go_wp2_with fail
      refine HSR.out.mono ?_
      rintro _ w2 ⟨vo, rfl, hO2, hb2⟩
      obtain ⟨ao2, co2, rfl⟩ := hO2.shape
      have HO2 := Lib.hid (hO2.mono HB.out.size)
      have HB2 := Lib.hid (below_keep HB.out hb2)
      clear hO2 hb2
      go_wp2_with fail
      go_ret
      exact ⟨_, rfl, HO2.out, HB2.out⟩
theorem sameRow_refl (x : GRow) : sameRowL x.vals x.vals x.lin x.lin = true := by
  unfold sameRowL
  rw [(cmpRows_zero _ _).2 rfl, (cmpInts_zero _ _).2 rfl]
  rfl
set_option maxHeartbeats 4000000 in
set_option maxRecDepth 100000 in
/-- Rows that are the same are the same. -/
theorem sameRows_eq (v u : Value) (l : List GRow) (w : World) (hv : Sl rowE w free v l) (hu : Sl rowE w free u l) :
    Calls Tryz.prog 32 #[v, u] w fun e w' => e = .returned (.bool true) ∧ Below w.heap.size w w' := by
  obtain ⟨a, c, rfl⟩ := hv.shape
  obtain ⟨a2, c2, rfl⟩ := hu.shape
  have h63 := hv.1
  have HV := Lib.hid hv
  have HU := Lib.hid hu
  obtain ⟨n, hn⟩ : ∃ n, n = l.length := ⟨_, rfl⟩
  have HN := Lib.hid hn
  rw [← hn] at HV HU h63 ⊢
  clear hv hu hn
  go_enter Tryz.func32, Tryz.ntmps32
  go_wp2_with fail
  go_loopw [5] (fun i wr => ∃ k : Nat, k ≤ n ∧ i = .int .i64 k ∧ Hid (Below w.heap.size w wr)) (fun i _ => n - (RowKit.intOf i).toNat)
  case atStart => exact ⟨0, Nat.zero_le _, rfl, Lib.hid (.refl _ _)⟩
  case round =>
    obtain ⟨k, hk, rfl, HB⟩ := hrel
    obtain ⟨wo, rfl⟩ : ∃ wo : World, wo = wr := ⟨_, rfl⟩
    by_cases hlt : k < n
    · obtain ⟨x, hx⟩ := lget_some l k (by rw [← HN.out]; exact hlt)
      obtain ⟨b, o, a1, n1, e1, m1, rfl, hv1, hu1, p0, p1⟩ := rows_at (HV.out.below HB.out) hx
      obtain ⟨b2, o2, a3, n3, e3, m3, rfl, hv2, hu2, q0, q1⟩ := rows_at (HU.out.below HB.out) hx
      have HSM := fun W (h : Below wo.heap.size wo W) => Lib.hid (sameRow_any _ _ _ _ x.vals x.vals x.lin x.lin W (hv1.below h).vals (hu1.below h).ints (hv2.below h).vals (hu2.below h).ints)
      rw [sameRow_refl] at HSM
      have hbo : Below wo.heap.size wo wo := .refl _ _
      clear hx hv1 hu1 hv2 hu2
      go_wp2_with fail
      go_region_held3 (fun W => Below wo.heap.size wo W ∧ W.cell? ⟨b, o + k * 2, none⟩ = some (.slice a1 x.vals.length n1) ∧ W.cell? ⟨b, o + k * 2 + 1, none⟩ = some (.slice e1 x.lin.length m1) ∧ W.cell? ⟨b2, o2 + k * 2, none⟩ = some (.slice a3 x.vals.length n3) ∧ W.cell? ⟨b2, o2 + k * 2 + 1, none⟩ = some (.slice e3 x.lin.length m3))
        ((go_split_ands; refine ⟨?_, ?_, ?_, ?_, ?_⟩ <;> (first | with_reducible assumption | with_reducible exact Below.drew (by assumption) | with_reducible exact cell_drew (by assumption) | with_reducible exact cell_keep (by assumption) (by assumption) | with_reducible exact below_keep (by assumption) (by assumption))))
        (first | (go_at_call 58; go_split_ands; refine (HSM _ (by first | assumption | exact Below.drew (by assumption))).out.mono ?_; rintro e' wS ⟨rfl, hbS⟩))
      all_goals (
        go_split_ands
        have HBS : Hid (Below w.heap.size w wS) := Lib.hid (below_keep HB.out (by assumption))
        go_wp2_with fail
        go_roundw
        case rel => exact ⟨k + 1, by omega, by go_num, HBS⟩
        case measure => simp [RowKit.intOf]; omega)
    · go_wp2_with fail
      go_ret
      exact ⟨rfl, HB.out⟩
end Go.Proofs.YtfmbbfidjcgeiaaGreat

namespace Go.Proofs.YtfmbbfidjcgeiaaGreat
open Go.RowKit

def Tup.row (x : Tup) : GRow := ⟨x.vals, x.lin⟩
theorem tup_ext {p q : Tup} (h : p.row = q.row) (h1 : p.lo = q.lo) (h2 : p.hi = q.hi) : p = q := by
  obtain ⟨v, a, b, l⟩ := p
  obtain ⟨v', a', b', l'⟩ := q
  dsimp only at h1 h2
  subst h1 h2
  unfold Tup.row at h
  cases h
  rfl
theorem pvalid_iff {lo hi : Int} : pvalid lo hi = true ↔ 0 ≤ lo ∧ lo < hi ∧ hi ≤ 1099511627776 := by unfold pvalid; rw [decide_eq_true_eq]
theorem pincl_iff {lo hi t : Int} : pincl lo hi t = true ↔ pvalid lo hi = true ∧ lo ≤ t ∧ t < hi := by unfold pincl; simp
/-- Two periods of one row are apart (they do not touch), or one lies in the other. -/
def Lam (p q : Tup) : Prop := p.row = q.row → p.hi < q.lo ∨ q.hi < p.lo ∨ (p.lo ≤ q.lo ∧ q.hi ≤ p.hi) ∨ (q.lo ≤ p.lo ∧ p.hi ≤ q.hi)
theorem Lam.symm {p q : Tup} (h : Lam p q) : Lam q p := fun e => by have := h e.symm; omega
theorem Lam.refl (p : Tup) : Lam p p := fun _ => .inr (.inr (.inl ⟨Int.le_refl _, Int.le_refl _⟩))
theorem pw_all {α : Type} {R : α → α → Prop} (hs : ∀ a b, R a b → R b a) (hr : ∀ a, R a a) : ∀ {l : List α}, l.Pairwise R → ∀ x ∈ l, ∀ y ∈ l, R x y
  | [], _ => fun x hx => by simp at hx
  | a :: l, h => by
    obtain ⟨h1, h2⟩ := List.pairwise_cons.1 h
    intro x hx y hy
    rcases List.mem_cons.1 hx with e | hx
    · rcases List.mem_cons.1 hy with e' | hy
      · rw [e, e']; exact hr _
      · rw [e]; exact h1 _ hy
    · rcases List.mem_cons.1 hy with e' | hy
      · rw [e']; exact hs _ _ (h1 _ hx)
      · exact pw_all hs hr h2 x hx y hy
/-- Valid periods, laid one in the other or apart. -/
structure Lev (T : List Tup) : Prop where
  valid : ∀ x ∈ T, pvalid x.lo x.hi = true
  lam : T.Pairwise Lam
theorem Lev.nil : Lev [] := ⟨by simp, .nil⟩
theorem Lev.perm {S T : List Tup} (h : Lev S) (hp : S.Perm T) : Lev T := ⟨fun x hx => h.valid x (hp.mem_iff.2 hx), hp.pairwise h.lam (fun h => Lam.symm h)⟩
theorem Lev.sub {S T : List Tup} (h : Lev T) (hp : S.Sublist T) : Lev S := ⟨fun x hx => h.valid x (hp.subset hx), h.lam.sublist hp⟩
theorem atDay_cons (x : Tup) (l : List Tup) (t : Int) : atDay (x :: l) t = if pincl x.lo x.hi t = true then x.row :: atDay l t else atDay l t := by
  unfold atDay
  rw [List.filter_cons]
  split
  · rw [List.map_cons]; rfl
  · rfl
theorem atDay_append (l m : List Tup) (t : Int) : atDay (l ++ m) t = atDay l t ++ atDay m t := by unfold atDay; rw [List.filter_append, List.map_append]
theorem atDay_perm {l m : List Tup} (h : l.Perm m) (t : Int) : (atDay l t).Perm (atDay m t) := (h.filter _).map _
theorem mem_atDay {l : List Tup} {t : Int} {r : GRow} : r ∈ atDay l t ↔ ∃ x ∈ l, x.row = r ∧ pincl x.lo x.hi t = true := by
  unfold atDay
  rw [List.mem_map]
  constructor
  · rintro ⟨x, hx, rfl⟩
    obtain ⟨h1, h2⟩ := List.mem_filter.1 hx
    exact ⟨x, h1, rfl, h2⟩
  · rintro ⟨x, hx, rfl, h⟩
    exact ⟨x, List.mem_filter.2 ⟨hx, h⟩, rfl⟩
/-- The period of a row that starts first, and among those the longest. -/
theorem best_of (r : GRow) : ∀ (T : List Tup), (∃ x ∈ T, x.row = r) → ∃ p ∈ T, p.row = r ∧ ∀ x ∈ T, x.row = r → p.lo < x.lo ∨ (p.lo = x.lo ∧ x.hi ≤ p.hi)
  | [], h => by obtain ⟨x, hx, _⟩ := h; simp at hx
  | a :: T, h => by
    by_cases hT : ∃ x ∈ T, x.row = r
    · obtain ⟨p, hp, hr, hb⟩ := best_of r T hT
      by_cases hc : a.row = r ∧ ¬ (p.lo < a.lo ∨ (p.lo = a.lo ∧ a.hi ≤ p.hi))
      · refine ⟨a, .head _, hc.1, fun x hx hxr => ?_⟩
        rcases List.mem_cons.1 hx with rfl | hx
        · exact .inr ⟨rfl, Int.le_refl _⟩
        · have := hb x hx hxr
          have := hc.2
          omega
      · refine ⟨p, .tail _ hp, hr, fun x hx hxr => ?_⟩
        rcases List.mem_cons.1 hx with rfl | hx
        · exact Classical.byContradiction fun hn => hc ⟨hxr, hn⟩
        · exact hb x hx hxr
    · obtain ⟨x, hx, hxr⟩ := h
      rcases List.mem_cons.1 hx with rfl | hx
      · refine ⟨x, .head _, hxr, fun y hy hyr => ?_⟩
        rcases List.mem_cons.1 hy with rfl | hy
        · exact .inr ⟨rfl, Int.le_refl _⟩
        · exact absurd ⟨y, hy, hyr⟩ hT
      · exact absurd ⟨x, hx, hxr⟩ hT
theorem best_hi {S T : List Tup} {p q : Tup} (hS : Lev S) (hT : Lev T) (hd : ∀ t r, r ∈ atDay T t → r ∈ atDay S t) (hp : p ∈ S) (hpb : ∀ x ∈ S, x.row = p.row → p.lo < x.lo ∨ (p.lo = x.lo ∧ x.hi ≤ p.hi)) (hq : q ∈ T) (hr : q.row = p.row) (hlo : p.lo = q.lo) : q.hi ≤ p.hi := by
  refine Classical.byContradiction fun hn => ?_
  have hpv := pvalid_iff.1 (hS.valid p hp)
  have hqv := hT.valid q hq
  obtain ⟨x, hx, hxr, hxi⟩ := mem_atDay.1 (hd p.hi q.row (mem_atDay.2 ⟨q, hq, rfl, pincl_iff.2 ⟨hqv, by omega, by omega⟩⟩))
  obtain ⟨_, h1, h2⟩ := pincl_iff.1 hxi
  have h3 := hpb x hx (hxr.trans hr)
  have h4 := pw_all (R := Lam) (fun _ _ h => Lam.symm h) Lam.refl hS.lam p hp x hx (hr.symm.trans hxr.symm)
  omega
theorem lev_perm : ∀ (n : Nat) {S T : List Tup}, S.length = n → Lev S → Lev T → (∀ t, (atDay S t).Perm (atDay T t)) → S.Perm T
  | 0, S, T, hn, hS, hT, hd => by
    have hS0 := List.eq_nil_of_length_eq_zero hn
    subst hS0
    cases T with
    | nil => exact .refl _
    | cons x T =>
      have hv := hT.valid x (.head _)
      have := (hd x.lo).mem_iff.2 (mem_atDay.2 ⟨x, .head _, rfl, pincl_iff.2 ⟨hv, by omega, (pvalid_iff.1 hv).2.1⟩⟩)
      simp [atDay] at this
  | n + 1, S, T, hn, hS, hT, hd => by
    cases S with
    | nil => simp at hn
    | cons a S0 =>
      obtain ⟨p, hp, hpr, hpb⟩ := best_of a.row (a :: S0) ⟨a, .head _, rfl⟩
      have hpv := hS.valid p hp
      obtain ⟨y, hy, hyr, hyi⟩ := mem_atDay.1 ((hd p.lo).mem_iff.1 (mem_atDay.2 ⟨p, hp, rfl, pincl_iff.2 ⟨hpv, by omega, (pvalid_iff.1 hpv).2.1⟩⟩))
      obtain ⟨q, hq, hqr, hqb⟩ := best_of a.row T ⟨y, hy, hyr.trans hpr⟩
      have hqv := hT.valid q hq
      have h1 := hqb y hy (hyr.trans hpr)
      obtain ⟨_, h2, _⟩ := pincl_iff.1 hyi
      obtain ⟨x, hx, hxr, hxi⟩ := mem_atDay.1 ((hd q.lo).mem_iff.2 (mem_atDay.2 ⟨q, hq, rfl, pincl_iff.2 ⟨hqv, by omega, (pvalid_iff.1 hqv).2.1⟩⟩))
      have h3 := hpb x hx (hxr.trans hqr)
      obtain ⟨_, h4, _⟩ := pincl_iff.1 hxi
      have hlo : p.lo = q.lo := by omega
      have hrr : q.row = p.row := hqr.trans hpr.symm
      have hhi1 := best_hi hS hT (fun t r h => (hd t).mem_iff.2 h) hp (by rw [hpr]; exact hpb) hq hrr hlo
      have hhi2 := best_hi hT hS (fun t r h => (hd t).mem_iff.1 h) hq (by rw [hqr]; exact hqb) hp hrr.symm hlo.symm
      have e : p = q := tup_ext hrr.symm hlo (by omega)
      subst e
      obtain ⟨s1, s2, es⟩ := List.append_of_mem hp
      obtain ⟨t1, t2, et⟩ := List.append_of_mem hq
      rw [es] at hS hd hn ⊢
      rw [et] at hT hd ⊢
      refine (List.perm_middle).trans (((lev_perm n (S := s1 ++ s2) (T := t1 ++ t2) (by simp at hn ⊢; omega) (hS.sub ((List.sublist_cons_self p s2).append_left s1)) (hT.sub ((List.sublist_cons_self p t2).append_left t1)) fun t => ?_).cons p).trans List.perm_middle.symm)
      have h5 := ((atDay_perm (List.perm_middle (a := p) (l₁ := s1) (l₂ := s2)) t).symm.trans (hd t)).trans (atDay_perm (List.perm_middle (a := p) (l₁ := t1) (l₂ := t2)) t)
      rw [atDay_cons, atDay_cons] at h5
      split at h5
      · exact h5.cons_inv
      · exact h5
/-- The order of tuples: by rows, then by periods. -/
def cmpTup (a b : Tup) : Int := or2 (cmpRow a.row b.row) (or2 (cmpI a.lo b.lo) (cmpI a.hi b.hi))
theorem sgn_tup (a b c : Tup) : Sgn3 (cmpTup a b) (cmpTup b c) (cmpTup a c) := (sgn_row _ _ _).or ((sgn_int _ _ _).or (sgn_int _ _ _))
theorem cmpTup_zero {a b : Tup} : cmpTup a b = 0 ↔ a = b := by
  unfold cmpTup or2
  constructor
  · intro h
    split at h
    · rename_i h1
      split at h
      · rename_i h2
        exact tup_ext (cmpRow_zero.1 h1) (cmpI_zero.1 h2) (cmpI_zero.1 h)
      · omega
    · omega
  · rintro rfl
    rw [if_pos (cmpRow_zero.2 rfl), if_pos (cmpI_zero.2 rfl), cmpI_zero.2 rfl]
theorem cmpTup_swap (a b : Tup) : cmpTup b a = - cmpTup a b := by
  unfold cmpTup or2
  rw [cmpRow_swap a.row b.row, cmpI_swap a.lo b.lo, cmpI_swap a.hi b.hi]
  split <;> split <;> (try split) <;> (try split) <;> omega
/-- T is the normal form of l. -/
structure IsNF (l T : List Tup) : Prop where
  lev : Lev T
  sorted : T.Pairwise fun a b => ¬ cmpTup b a < 0
  day : ∀ t, (atDay T t).Perm (atDay l t)
theorem IsNF.unique {l S T : List Tup} (h : IsNF l S) (k : IsNF l T) : S = T := by
  refine List.Perm.eq_of_pairwise (le := fun a b => cmpTup a b ≤ 0) (fun a b _ _ h1 h2 => ?_) (h.sorted.imp (by intro a b h; have := cmpTup_swap a b; omega)) (k.sorted.imp (by intro a b h; have := cmpTup_swap a b; omega)) (lev_perm _ rfl h.lev k.lev fun t => (h.day t).trans (k.day t).symm)
  have := cmpTup_swap a b
  exact cmpTup_zero.1 (by omega)
theorem IsNF.congr {l m T : List Tup} (h : IsNF l T) (hd : ∀ t, (atDay l t).Perm (atDay m t)) : IsNF m T := ⟨h.lev, h.sorted, fun t => (h.day t).trans (hd t)⟩
theorem IsNF.self {l T : List Tup} (h : IsNF l T) : IsNF T T := ⟨h.lev, h.sorted, fun _ => .refl _⟩
theorem IsNF.same {l m S T : List Tup} (h : IsNF l S) (k : IsNF m T) (hd : ∀ t, (atDay l t).Perm (atDay m t)) : S = T := (h.congr hd).unique k
theorem IsNF.iff {l m S T : List Tup} (h : IsNF l S) (k : IsNF m T) : S = T ↔ ∀ t, (atDay l t).Perm (atDay m t) :=
  ⟨fun e t => (h.day t).symm.trans (e ▸ k.day t), fun hd => h.same k hd⟩
theorem sortR_day {l m : List Tup} (h : ∀ t, (atDay l t).Perm (atDay m t)) (t : Int) : sortR (atDay l t) = sortR (atDay m t) := sortR_congr (h t)
theorem sortR_inj {l m : List GRow} (h : sortR l = sortR m) : l.Perm m := (sortR_perm l).symm.trans (h ▸ sortR_perm m)
theorem IsNF.vals {l T : List Tup} (h : IsNF l T) : ∀ x ∈ T, ∃ y ∈ l, y.row = x.row ∧ pvalid y.lo y.hi = true := by
  intro x hx
  have hv := h.lev.valid x hx
  obtain ⟨y, hy, hr, hi⟩ := mem_atDay.1 ((h.day x.lo).mem_iff.1 (mem_atDay.2 ⟨x, hx, rfl, pincl_iff.2 ⟨hv, by omega, (pvalid_iff.1 hv).2.1⟩⟩))
  exact ⟨y, hy, hr, (pincl_iff.1 hi).1⟩
end Go.Proofs.YtfmbbfidjcgeiaaGreat

namespace Go.Proofs.YtfmbbfidjcgeiaaGreat
open Go.RowKit

def tupV (v : Ver) : Tup := ⟨v.vals, v.lo, v.hi, []⟩
def strip (t : Tup) : Tup := ⟨t.vals, t.lo, t.hi, []⟩
theorem atDay_flatMap {α : Type} (f : α → List Tup) (l : List α) (t : Int) : atDay (l.flatMap f) t = l.flatMap fun x => atDay (f x) t := by
  induction l with
  | nil => rfl
  | cons a l ih => rw [List.flatMap_cons, List.flatMap_cons, atDay_append, ih]
/-- Versions that were recorded at 1 and are current. -/
def Cur (L : List Ver) : Prop := ∀ v ∈ L, v.rlo = 1 ∧ v.rhi = 1099511627776
theorem atT_cur {L : List Ver} (h : Cur L) {n : Int} (h1 : 1 ≤ n) (h2 : n < 1099511627776) : atT L n = L.map tupV := by
  unfold atT
  rw [List.filter_eq_self.2]
  · rfl
  · intro v hv
    obtain ⟨e1, e2⟩ := h v hv
    rw [e1, e2]
    simp [h1, h2]
theorem atT_keep {L : List Ver} (h : Cur L) (cl : List Int) {n : Int} (h1 : 1 < n) (h2 : n < 1099511627776) : atT (L.flatMap (keepOne cl n)) n = (L.filter fun v => !cl.contains v.id).map tupV := by
  induction L with
  | nil => rfl
  | cons v L ih =>
    obtain ⟨e1, e2⟩ := h v (List.mem_cons_self ..)
    rw [List.flatMap_cons, atT_append, ih (fun u hu => h u (List.mem_cons_of_mem _ hu))]
    unfold keepOne
    by_cases hc : cl.contains v.id = true
    · have hne : ¬ (1 : Int) = n := by omega
      rw [if_pos hc, if_neg (by simp [e1, hne]), List.filter_cons_of_neg (p := fun v : Ver => !cl.contains v.id) (by simp only [hc]; decide)]
      have : atT [{ v with rhi := n }] n = [] := by
        unfold atT
        rw [List.filter_cons_of_neg (by simp), List.filter_nil]
        rfl
      rw [this, List.nil_append]
    · rw [if_neg hc, List.filter_cons_of_pos (p := fun v : Ver => !cl.contains v.id) (by simpa using hc), List.map_cons]
      have : atT [v] n = [tupV v] := atT_cur (L := [v]) (fun u hu => by simp at hu; subst hu; exact ⟨e1, e2⟩) (by omega) h2
      rw [this]
      rfl
theorem atT_new (n first : Int) (ad : List Tup) (h2 : n < 1099511627776) : atT (newV n first ad) n = ad.map strip := by
  unfold atT newV
  rw [List.filter_eq_self.2]
  · refine List.ext_getElem? fun i => ?_
    simp only [List.getElem?_map, List.getElem?_mapIdx]
    cases ad[i]? <;> rfl
  · intro v hv
    obtain ⟨i, hi, rfl⟩ := List.mem_mapIdx.1 hv
    simp [h2]
theorem aff_contains {plo phi : Int} {e : List GExp} {pred : Int} {L : List Ver} (hnd : (L.map Ver.id).Nodup) {v : Ver} (hv : v ∈ L) : ((affV plo phi e pred L).map Ver.id).contains v.id = keepV plo phi e pred v := by
  rw [Bool.eq_iff_iff, List.contains_iff_mem]
  constructor
  · intro h
    obtain ⟨u, hu, he⟩ := List.mem_map.1 h
    obtain ⟨h1, h2⟩ := aff_ok _ _ _ _ _ _ hu
    obtain ⟨i, hi⟩ := List.getElem?_of_mem h1
    obtain ⟨j, hj⟩ := List.getElem?_of_mem hv
    have := id_inj hnd hi hj he
    subst this
    rw [hi] at hj
    cases hj
    exact h2
  · intro h
    exact List.mem_map.2 ⟨v, (sortV_perm _).mem_iff.2 (List.mem_filter.2 ⟨hv, h⟩), rfl⟩
/-- The rows of a day behind an edit. -/
theorem rows_after (plo phi : Int) (e : List GExp) (pred : Int) (chg : Option (List GVal → List GVal)) (L : List Ver) (n first day : Int) (hc : Cur L) (hnd : (L.map Ver.id).Nodup) (h1 : 1 < n) (h2 : n < 1099511627776) :
    (atDay (atT (applyL L ((affV plo phi e pred L).map Ver.id) ((affV plo phi e pred L).flatMap (partsV plo phi chg)) n first) n) day).Perm
      (atDay ((L.filter fun v => !keepV plo phi e pred v).map tupV) day ++ (L.filter (keepV plo phi e pred)).flatMap fun v => atDay ((partsV plo phi chg v).map strip) day) := by
  unfold applyL
  rw [atT_append, atT_keep hc _ h1 h2, atT_new _ _ _ h2, atDay_append, List.map_flatMap, atDay_flatMap]
  rw [List.filter_congr (q := fun v => !keepV plo phi e pred v) (fun v hv => by rw [aff_contains hnd hv])]
  exact List.Perm.append_left _ ((sortV_perm _).flatMap_right _)
theorem ite_iff {c d : Prop} [Decidable c] [Decidable d] {α : Type} {a b : α} (h : c ↔ d) : (if c then a else b) = if d then a else b := by
  by_cases hc : c
  · rw [if_pos hc, if_pos (h.1 hc)]
  · rw [if_neg hc, if_neg (fun hd => hc (h.2 hd))]
theorem fm_congr {α β : Type} {f g : α → List β} {l : List α} (h : ∀ x ∈ l, f x = g x) : l.flatMap f = l.flatMap g := by
  induction l with
  | nil => rfl
  | cons a l ih => rw [List.flatMap_cons, List.flatMap_cons, h a (List.mem_cons_self ..), ih (fun x hx => h x (List.mem_cons_of_mem _ hx))]
theorem pincl_all (x y t : Int) : pincl x y t = true ↔ 0 ≤ x ∧ x < y ∧ y ≤ 1099511627776 ∧ x ≤ t ∧ t < y := by
  unfold pincl pvalid
  simp only [Bool.and_eq_true, decide_eq_true_eq]
  omega
theorem day_one (vals : List GVal) (x y t : Int) (ln : List Int) : atDay [strip ⟨vals, x, y, ln⟩] t = if pincl x y t = true then [⟨vals, []⟩] else [] := by
  unfold atDay strip
  rw [List.filter_cons]
  dsimp only
  split <;> rfl
theorem day_if (c : Prop) [Decidable c] (vals : List GVal) (x y t : Int) (ln : List Int) : atDay ((if c then [(⟨vals, x, y, ln⟩ : Tup)] else []).map strip) t = if c ∧ pincl x y t = true then [⟨vals, []⟩] else [] := by
  by_cases h : c
  · rw [if_pos h, List.map_cons, List.map_nil, day_one]
    simp [h]
  · rw [if_neg h, if_neg (fun h' => h h'.1)]
    rfl
/-- The rows of a day of one affected version's parts. -/
theorem parts_day (plo phi day : Int) (chg : Option (List GVal → List GVal)) (v : Ver) (h0 : 0 ≤ v.lo) (h1 : v.lo < v.hi) (h2 : v.hi ≤ 1000000) (hok : isOk v.lo v.hi plo phi = true) :
    atDay ((partsV plo phi chg v).map strip) day = if v.lo ≤ day ∧ day < v.hi then (if plo ≤ day ∧ day < phi then (match chg with | none => [] | some f => [⟨f v.vals, []⟩]) else [⟨v.vals, []⟩]) else [] := by
  have hlo : isLo v.lo v.hi plo phi = max v.lo plo := by unfold isLo; rw [if_pos hok]
  have hhi : isHi v.lo v.hi plo phi = min v.hi phi := by unfold isHi; rw [if_pos hok]
  unfold isOk pvalid at hok
  simp only [Bool.and_eq_true, decide_eq_true_eq] at hok
  obtain ⟨⟨_, g1, g2, g3⟩, g4⟩ := hok
  have e1 : (v.lo < max v.lo plo ∧ pincl v.lo (max v.lo plo) day = true) ↔ (v.lo ≤ day ∧ day < max v.lo plo) := by rw [pincl_all]; omega
  have e2 : (min v.hi phi < v.hi ∧ pincl (min v.hi phi) v.hi day = true) ↔ (min v.hi phi ≤ day ∧ day < v.hi) := by rw [pincl_all]; omega
  have e3 : (max v.lo plo < min v.hi phi ∧ pincl (max v.lo plo) (min v.hi phi) day = true) ↔ (max v.lo plo ≤ day ∧ day < min v.hi phi) := by rw [pincl_all]; omega
  unfold partsV
  rw [List.map_append, List.map_append, atDay_append, atDay_append]
  unfold partL partR
  rw [hlo, hhi, day_if, day_if, ite_iff e1, ite_iff e2]
  have hm : atDay ((partM plo phi chg v).map strip) day = if max v.lo plo ≤ day ∧ day < min v.hi phi then (match chg with | none => [] | some f => [⟨f v.vals, []⟩]) else [] := by
    cases chg with
    | none =>
      by_cases h : max v.lo plo ≤ day ∧ day < min v.hi phi
      · rw [if_pos h]; rfl
      · rw [if_neg h]; rfl
    | some f =>
      unfold partM
      dsimp only
      rw [hlo, hhi, day_if, ite_iff e3]
  rw [hm]
  by_cases k1 : v.lo ≤ day ∧ day < v.hi
  · rw [if_pos k1]
    by_cases k2 : plo ≤ day ∧ day < phi
    · rw [if_pos k2, if_neg (by omega), if_pos (by omega), if_neg (by omega), List.nil_append, List.append_nil]
    · rw [if_neg k2]
      by_cases k3 : day < plo
      · rw [if_pos (by omega), if_neg (by omega), if_neg (by omega), List.append_nil, List.append_nil]
      · rw [if_neg (by omega), if_neg (by omega), if_pos (by omega), List.nil_append, List.nil_append]
  · rw [if_neg k1, if_neg (by omega), if_neg (by omega), if_neg (by omega), List.append_nil, List.append_nil]
theorem day_ver (v : Ver) (h0 : 0 ≤ v.lo) (h1 : v.lo < v.hi) (h2 : v.hi ≤ 1000000) (day : Int) : atDay [tupV v] day = if v.lo ≤ day ∧ day < v.hi then [⟨v.vals, []⟩] else [] := by
  have e : (pincl v.lo v.hi day = true) ↔ (v.lo ≤ day ∧ day < v.hi) := by rw [pincl_all]; omega
  have := day_one v.vals v.lo v.hi day []
  rw [ite_iff e] at this
  exact this
theorem day_vers (L : List Ver) (day : Int) : atDay (L.map tupV) day = L.flatMap fun v => atDay [tupV v] day := by
  induction L with
  | nil => rfl
  | cons v L ih =>
    rw [List.map_cons, List.flatMap_cons, ← ih, ← atDay_append]
    rfl
/-- Outside of the period an edit leaves the rows of a day. -/
theorem rows_out (plo phi : Int) (e : List GExp) (pred : Int) (chg : Option (List GVal → List GVal)) (L : List Ver) (n first day : Int) (hc : Cur L) (hF : Fit L n first) (h1 : 1 < n) (h2 : n < 1099511627776) (hd : ¬ (plo ≤ day ∧ day < phi)) :
    sortR (atDay (atT (applyL L ((affV plo phi e pred L).map Ver.id) ((affV plo phi e pred L).flatMap (partsV plo phi chg)) n first) n) day) = sortR (atDay (atT L n) day) := by
  refine sortR_congr ((rows_after plo phi e pred chg L n first day hc hF.ids h1 h2).trans ?_)
  rw [atT_cur hc (by omega) h2]
  have hk : ((L.filter (keepV plo phi e pred)).flatMap fun v => atDay ((partsV plo phi chg v).map strip) day) = atDay ((L.filter (keepV plo phi e pred)).map tupV) day := by
    rw [day_vers]
    have key : ∀ v ∈ L.filter (keepV plo phi e pred), atDay ((partsV plo phi chg v).map strip) day = atDay [tupV v] day := fun v hv => by
      obtain ⟨hv1, hv2⟩ := List.mem_filter.1 hv
      obtain ⟨g1, g2, g3⟩ := hF.days v hv1
      unfold keepV at hv2
      simp only [Bool.and_eq_true] at hv2
      rw [parts_day plo phi day chg v g1 g2 g3 hv2.1.2, day_ver v g1 g2 g3, if_neg hd]
    rw [fm_congr key]
  rw [hk, ← atDay_append, ← List.map_append]
  refine atDay_perm (List.Perm.map _ ?_) day
  exact List.perm_append_comm.trans (List.filter_append_perm _ _)
theorem atT_len (l : List Ver) (t : Int) : (atT l t).length ≤ l.length := by unfold atT; rw [List.length_map]; exact List.length_filter_le _ _
theorem atT_small {l : List Ver} (h : ∀ x ∈ l, x.vals.length ≤ 1000) (t : Int) : ∀ x ∈ atT l t, x.vals.length ≤ 1000 ∧ x.lin.length ≤ 1000 := by
  intro x hx
  unfold atT at hx
  obtain ⟨v, hv, rfl⟩ := List.mem_map.1 hx
  exact ⟨h v (List.mem_filter.1 hv).1, Nat.zero_le _⟩
theorem asg1_len (e : List GExp) (old vals : List GVal) (s : Asg) : (asg1 e old vals s).length = vals.length := by
  unfold asg1
  split
  · rw [List.length_set]
  · rfl
theorem asgV_len (e : List GExp) (st : List Asg) (r : List GVal) : (asgV e st r).length = r.length := by
  unfold asgV
  have h : ∀ (st : List Asg) (v : List GVal), (st.foldl (asg1 e r) v).length = v.length := by
    intro st
    induction st with
    | nil => intro v; rfl
    | cons s st ih => intro v; rw [List.foldl_cons, ih, asg1_len]
  exact h st r
theorem parts_vals' {plo phi : Int} (chg : Option (List GVal → List GVal)) (hchg : ∀ f, chg = some f → ∀ r, (f r).length = r.length) (L : List Ver) (hL : ∀ x ∈ L, x.vals.length ≤ 1000) : ∀ t ∈ L.flatMap (partsV plo phi chg), t.vals.length ≤ 1000 := by
  intro t ht
  obtain ⟨v, hv, ht⟩ := List.mem_flatMap.1 ht
  have h := hL v hv
  unfold partsV partL partM partR at ht
  rcases List.mem_append.1 ht with ht | ht
  · rcases List.mem_append.1 ht with ht | ht
    · split at ht
      · simp at ht; subst ht; exact h
      · cases ht
    · cases chg with
      | none => cases ht
      | some f =>
        have hf := hchg f rfl v.vals
        dsimp only at ht
        split at ht
        · simp at ht; subst ht; show (f v.vals).length ≤ 1000; rw [hf]; exact h
        · cases ht
  · split at ht
    · simp at ht; subst ht; exact h
    · cases ht
theorem applyL_vals {L : List Ver} {cl : List Int} {ad : List Tup} {n first : Int} (hvl : ∀ x ∈ L, x.vals.length ≤ 1000) (hal : ∀ x ∈ ad, x.vals.length ≤ 1000) : ∀ x ∈ applyL L cl ad n first, x.vals.length ≤ 1000 := by
  intro x hx
  unfold applyL at hx
  rcases List.mem_append.1 hx with hx | hx
  · obtain ⟨v, hv, hx⟩ := List.mem_flatMap.1 hx
    have h := hvl v hv
    unfold keepOne at hx
    split at hx
    · split at hx
      · cases hx
      · simp at hx; subst hx; exact h
    · simp at hx; subst hx; exact h
  · unfold newV at hx
    obtain ⟨i, hi, rfl⟩ := List.mem_mapIdx.1 hx
    exact hal _ (List.getElem_mem hi)
end Go.Proofs.YtfmbbfidjcgeiaaGreat

namespace Go.Proofs.YtfmbbfidjcgeiaaGreat
open Go.RowKit Go.Lib

set_option maxHeartbeats 1000000 in
theorem pick_any (k n : Nat) (_hk : k < 65536) (hn : 0 < n) (hn2 : n < 65536) (w : World) : Calls Tryz.prog 19 #[.int .i64 (k : Int), .int .i64 (n : Int)] w fun e w' => e = .returned (.int .i64 ((k % n : Nat) : Int)) ∧ w = w' := by
  have hz : ¬ (n : Int) ≤ 0 := by omega
  have hne : (n : Int) ≠ 0 := by omega
  have e1 : Int.tmod (k : Int) (n : Int) = ((k % n : Nat) : Int) := by rw [Int.ofNat_tmod]
  have hlt : k % n < n := Nat.mod_lt _ hn
  have e2 : Int.tmod (((k % n : Nat) : Int) + (n : Int)) (n : Int) = ((k % n : Nat) : Int) := by
    rw [show ((k % n : Nat) : Int) + (n : Int) = ((k % n + n : Nat) : Int) by omega, ← Int.ofNat_tmod, Nat.add_mod_right, Nat.mod_mod]
  go_enter Tryz.func19, Tryz.ntmps19
  go_wp2_with fail
  go_ret
  exact ⟨ret_int (by first | rfl | simp), rfl⟩
set_option maxHeartbeats 1000000 in
theorem kinds_any (w : World) : Calls Tryz.prog 7 #[] w fun e w' => ∃ v, e = .returned v ∧ Sl intE w' free v [1, 2] ∧ Below w.heap.size w w' := by
  go_enter Tryz.func7, Tryz.ntmps7
  go_wp2_with fail
  go_ret
  exact ⟨_, rfl, Sl.of_block (n := 2) (m := 2) (World.alloc_heap_new w _) (Els.cons (cs := [.int .i64 1]) rfl (Els.one (cs := [.int .i64 2]) rfl)) id rfl (by simp) (by simp), below_alloc _ _⟩
theorem gval0_in (x : Nat) : In64 (gval0 x).n := by
  unfold gval0
  split
  · constructor <;> decide
  · have h : (gint (((x % 3 : Nat) : Int) - 1)).n = ((x % 3 : Nat) : Int) - 1 := rfl
    rw [h]
    constructor <;> omega
theorem gval1_in (x : Nat) : In64 (gval1 x).n := by
  unfold gval1
  split
  · constructor <;> decide
  · exact ⟨by show (-9223372036854775808 : Int) ≤ 0; decide, by show (0 : Int) ≤ 9223372036854775807; decide⟩
set_option maxHeartbeats 2000000 in
theorem const_any (k x : Nat) (hk : k < 2) (hx : x < 65536) (w : World) : Calls Tryz.prog 20 #[.int .i64 (1 + (k : Int)), .int .u16 (x : Int)] w fun e w' => (∃ g, e = .returned (aggG g) ∧ In64 g.n) ∧ Below w.heap.size w w' := by
  have h6 : x % 6 < 65536 := by omega
  rcases (by omega : k = 0 ∨ k = 1) with rfl | rfl
  · have HC := fun W => Lib.hid (value0_any (x % 6) h6 W)
    have hz := gval0_in (x % 6)
    obtain ⟨g, hg⟩ : ∃ g, g = gval0 (x % 6) := ⟨_, rfl⟩
    rw [← hg] at HC hz
    obtain ⟨gk, gn, gs⟩ := g
    have HZ := Lib.hid hz
    clear hg hz hk
    go_enter Tryz.func20, Tryz.ntmps20
    go_wp2_with fail
    refine (HC _).out.mono ?_
    rintro e w1 ⟨rfl, hb1⟩
    obtain ⟨⟨c0, c1, c2⟩, f0, f1, f2⟩ := box_three (box_kept (World.alloc_heap_new w (.cells #[.int .i64 0, .int .i64 0, .string ⟨#[]⟩] 36)) hb1)
    have hb := below_alloc2' hb1
    clear hb1
    unfold aggG
    dsimp only
    go_wp2_with fail
    exact bodyPost_ret (v := aggG ⟨gk, gn, gs⟩) (by simp [aggG, results, Tryz.results20, go_sem, c0, c1, c2]) rfl ⟨⟨_, rfl, HZ.out⟩, ((hb.setCell (Nat.le_refl _) _).setCell (Nat.le_refl _) _).setCell (Nat.le_refl _) _⟩
  · have HC := fun W => Lib.hid (value1_any (x % 6) h6 W)
    have hz := gval1_in (x % 6)
    obtain ⟨g, hg⟩ : ∃ g, g = gval1 (x % 6) := ⟨_, rfl⟩
    rw [← hg] at HC hz
    obtain ⟨gk, gn, gs⟩ := g
    have HZ := Lib.hid hz
    clear hg hz hk
    go_enter Tryz.func20, Tryz.ntmps20
    go_wp2_with fail
    refine (HC _).out.mono ?_
    rintro e w1 ⟨rfl, hb1⟩
    obtain ⟨⟨c0, c1, c2⟩, f0, f1, f2⟩ := box_three (box_kept (World.alloc_heap_new w (.cells #[.int .i64 0, .int .i64 0, .string ⟨#[]⟩] 36)) hb1)
    have hb := below_alloc2' hb1
    clear hb1
    unfold aggG
    dsimp only
    go_wp2_with fail
    exact bodyPost_ret (v := aggG ⟨gk, gn, gs⟩) (by simp [aggG, results, Tryz.results20, go_sem, c0, c1, c2]) rfl ⟨⟨_, rfl, HZ.out⟩, ((hb.setCell (Nat.le_refl _) _).setCell (Nat.le_refl _) _).setCell (Nat.le_refl _) _⟩
/-- What the laws' predicates are like. -/
def PredOk (e : List GExp) : Prop := (∀ x ∈ e, In64 x.c.n) ∧ e.length ≤ 4
theorem in64_null : In64 gnull.n := by constructor <;> decide
/-- A row under construction: it is the call's own and new; some cells are as they were. -/
structure BldE (w : World) (M : Nat) (F : List (Addr × Value)) (W : World) (s : Value) (ex : List GExp) : Prop where
  own : Own expE W w.heap.size s ex
  below : Below w.heap.size w W
  new : ∀ k, s.ownBlock = some k → M ≤ k
  size : M ≤ W.heap.size
  cells : ∀ p ∈ F, p.1.block < M ∧ W.cell? p.1 = some p.2
theorem BldE.push {w : World} {M : Nat} {F : List (Addr × Value)} {W W' : World} {s : Value} {ex ys : List GExp} {g cap n : Nat} (h : BldE w M F W s ex) (hP : Pushed expE w.heap.size W W' s (ex ++ ys) g cap) (hn : (ex ++ ys).length = n) : BldE w M F W' (.slice (some ⟨g, 0, none⟩) n cap) (ex ++ ys) := by
  refine ⟨hP.own' hn, h.below.trans hP.below, fun k hk => ?_, Nat.le_trans h.size hP.kept.1, fun p hp => ?_⟩
  · have hk' : some g = some k := hk
    cases hk'
    rcases hP.place with h1 | h1
    · exact h.new _ h1
    · exact Nat.le_trans h.size h1
  · obtain ⟨h1, h2⟩ := h.cells p hp
    exact ⟨h1, hP.cell (fun e => by have := h.new _ e.symm; omega) h2⟩
theorem BldE.keep {w : World} {M : Nat} {F : List (Addr × Value)} {W W' : World} {s : Value} {ex : List GExp} (h : BldE w M F W s ex) (hb : Below W.heap.size W W') : BldE w M F W' s ex :=
  ⟨h.own.below hb, h.below.trans (hb.mono h.below.size), h.new, Nat.le_trans h.size hb.size, fun p hp => ⟨(h.cells p hp).1, cell_keep hb (h.cells p hp).2⟩⟩
theorem BldE.four {w : World} {M : Nat} {a0 a1 a2 a3 : Addr} {v0 v1 v2 v3 : Value} {W : World} {s : Value} {ex : List GExp} (h : BldE w M [(a0, v0), (a1, v1), (a2, v2), (a3, v3)] W s ex) : W.cell? a0 = some v0 ∧ W.cell? a1 = some v1 ∧ W.cell? a2 = some v2 ∧ W.cell? a3 = some v3 :=
  ⟨(h.cells (a0, v0) (by simp)).2, (h.cells (a1, v1) (by simp)).2, (h.cells (a2, v2) (by simp)).2, (h.cells (a3, v3) (by simp)).2⟩
set_option maxHeartbeats 8000000 in
set_option maxRecDepth 100000 in
theorem pred_any (vk : Value) (x0 x1 x2 x3 : Nat) (h0 : x0 < 65536) (h1 : x1 < 65536) (h2 : x2 < 65536) (h3 : x3 < 65536) (w : World) (hk : Sl intE w free vk [1, 2]) :
    Calls Tryz.prog 6 #[.slice none 0 0, vk, .agg #[.int .u16 (x0 : Int), .int .u16 (x1 : Int), .int .u16 (x2 : Int), .int .u16 (x3 : Int)]] w fun e w' => ∃ ve ex, e = .returned (.tuple #[ve, .int .i64 ((ex.length : Int) - 1)]) ∧ Own expE w' w.heap.size ve ex ∧ PredOk ex ∧ Below w.heap.size w w' := by
  obtain ⟨a, c, rfl⟩ := hk.shape
  change Sl intE w free (.slice a 2 c) [1, 2] at hk
  change Calls _ _ #[_, .slice a 2 c, _] _ _
  obtain ⟨i, hi⟩ : ∃ i, i = x0 % 2 := ⟨_, rfl⟩
  obtain ⟨k, hkk⟩ : ∃ k, k = x1 % 2 := ⟨_, rfl⟩
  have hi2 : i < 2 := by omega
  have hk2 : k < 2 := by omega
  have P0 : ∀ W, Hid (Calls Tryz.prog 19 #[.int .i64 (x0 : Int), .int .i64 2] W fun e w' => e = .returned (.int .i64 (i : Int)) ∧ W = w') := fun W => hi ▸ pick_any x0 2 h0 (by decide) (by decide) W
  have P1 : ∀ W, Hid (Calls Tryz.prog 19 #[.int .i64 (x1 : Int), .int .i64 2] W fun e w' => e = .returned (.int .i64 (k : Int)) ∧ W = w') := fun W => hkk ▸ pick_any x1 2 h1 (by decide) (by decide) W
  have HCN := fun W => Lib.hid (const_any i x3 hi2 h3 W)
  have hgi : ([1, 2] : List Int)[i]? = some (1 + (i : Int)) := by rcases (by omega : i = 0 ∨ i = 1) with rfl | rfl <;> rfl
  have hgk : ([1, 2] : List Int)[k]? = some (1 + (k : Int)) := by rcases (by omega : k = 0 ∨ k = 1) with rfl | rfl <;> rfl
  obtain ⟨b, o, rfl, pi⟩ := ints_at' hk hgi
  obtain ⟨b', o', e', pk⟩ := ints_at' hk hgk
  cases e'
  have hbx := World.alloc_heap_new w (.cells #[.int .u16 (x0 : Int), .int .u16 (x1 : Int), .int .u16 (x2 : Int), .int .u16 (x3 : Int)] 24)
  obtain ⟨⟨c0, c1, c2, c3⟩, _, _, _, _⟩ := box_four hbx
  have hb0 := below_alloc w (.cells #[.int .u16 (x0 : Int), .int .u16 (x1 : Int), .int .u16 (x2 : Int), .int .u16 (x3 : Int)] 24)
  have pi0 := cell_keep hb0 pi
  have pk0 := cell_keep hb0 pk
  have hsz : w.heap.size < (w.alloc (.cells #[.int .u16 (x0 : Int), .int .u16 (x1 : Int), .int .u16 (x2 : Int), .int .u16 (x3 : Int)] 24)).heap.size := World.block_lt_of_cell? _ _ c0
  obtain ⟨w1, hw1⟩ : ∃ w1, w1 = w.alloc (.cells #[.int .u16 (x0 : Int), .int .u16 (x1 : Int), .int .u16 (x2 : Int), .int .u16 (x3 : Int)] 24) := ⟨_, rfl⟩
  rw [← hw1] at c0 c1 c2 c3 pi0 pk0 hb0 hsz
  have HW := Lib.hid hw1
  have HB0 := Lib.hid hb0
  clear hi hkk hgi hgk hk hbx hb0 pi pk hw1
  go_enter Tryz.func6, Tryz.ntmps6
  go_upto_region 1 with fail
  rw [← HW.out]
  have hbb : Below w1.heap.size w1 w1 := .refl _ _
  have e0 : IntKind.i64.wrap (x0 : Int) = x0 := IntWalk.i64_in _ (by omega)
  have e1 : IntKind.i64.wrap (x1 : Int) = x1 := IntWalk.i64_in _ (by omega)
  clear HW
  go_region_held3 (fun W => Below w1.heap.size w1 W ∧ W.cell? ⟨w.heap.size, 0, none⟩ = some (.int .u16 (x0 : Int)) ∧ W.cell? ⟨w.heap.size, 1, none⟩ = some (.int .u16 (x1 : Int)))
    ((go_split_ands; refine ⟨?_, ?_, ?_⟩ <;> (first | with_reducible assumption | with_reducible exact Below.drew (by assumption) | with_reducible exact cell_drew (by assumption))))
    (first
      | (go_at_call 19; with_reducible refine (P0 _).out.mono ?_; rintro e' wP ⟨rfl, rfl⟩)
      | (go_at_call 19; with_reducible refine (P1 _).out.mono ?_; rintro e' wQ ⟨rfl, rfl⟩))
  all_goals (
    have q2 : w1.drew.cell? ⟨w.heap.size, 2, none⟩ = some (.int .u16 (x2 : Int)) := c2
    have q3 : w1.drew.cell? ⟨w.heap.size, 3, none⟩ = some (.int .u16 (x3 : Int)) := c3
    have qi : w1.drew.cell? ⟨b, o + i, none⟩ = some (.int .i64 (1 + (i : Int))) := pi0
    have qk : w1.drew.cell? ⟨b, o + k, none⟩ = some (.int .i64 (1 + (k : Int))) := pk0
    have HD0 : Hid (BldE w w1.drew.heap.size [(⟨w.heap.size, 2, none⟩, .int .u16 (x2 : Int)), (⟨w.heap.size, 3, none⟩, .int .u16 (x3 : Int)), (⟨b, o + i, none⟩, .int .i64 (1 + (i : Int))), (⟨b, o + k, none⟩, .int .i64 (1 + (k : Int)))] w1.drew (.slice none 0 0) []) := Lib.hid ⟨Own.nil _ _ _, HB0.out.drew, (by intro k hk; cases hk), Nat.le_refl _, (by
      intro p hp
      simp only [List.mem_cons, List.not_mem_nil, or_false] at hp
      rcases hp with rfl | rfl | rfl | rfl
      · exact ⟨hsz, q2⟩
      · exact ⟨hsz, q3⟩
      · exact ⟨World.block_lt_of_cell? _ _ qi, qi⟩
      · exact ⟨World.block_lt_of_cell? _ _ qk, qk⟩)⟩
    go_split_ands
    clear hbb c0 c1 c2 c3 pi0 pk0 hsz HB0 P0 P1 q2 q3 qi qk
    generalize w1.drew = wz at *
    obtain ⟨M, hM⟩ : ∃ M, M = wz.heap.size := ⟨_, rfl⟩
    rw [← hM] at HD0
    clear hM
    by_cases h5 : x2 % 5 = 0
    · have h5' : (((x2 : Int) % 5) == 0) = true := by rw [beq_iff_eq]; omega
      go_wp2_with (first
        | (at_builtin; refine wpList_push rfl (.tmp 24) (.tmp 27) 30 rfl expE Tryz.underlying30 w.heap.size (.slice none 0 0) [] rfl HD0.out.own [⟨2, 0, 0, i, gnull⟩] #[.int .i64 2, .int .i64 0, .int .i64 0, .int .i64 (i : Int), .int .i64 0, .int .i64 0, .string ⟨#[]⟩] (Els.one rfl) 1 1 rfl rfl (by decide) (by show 0 + 1 ≤ 9223372036854775807; decide) (by show (0 + 1) * 64 ≤ 140737488355328; decide) HD0.out.below.size ?_; intro g1 cap1 wp1 hP1 hPa1; have HD1 := Lib.hid (BldE.push HD0.out hP1 (n := 1) rfl); clear hP1 hPa1; obtain ⟨p2, p3, pi, pk⟩ := HD1.out.four)
        | (at_builtin; refine wpList_push rfl (.tmp 36) (.tmp 39) 30 rfl expE Tryz.underlying30 w.heap.size (.slice (some ⟨g1, 0, none⟩) 1 cap1) [⟨2, 0, 0, i, gnull⟩] rfl HD1.out.own [⟨11, 0, 0, 0, gnull⟩] #[.int .i64 11, .int .i64 0, .int .i64 0, .int .i64 0, .int .i64 0, .int .i64 0, .string ⟨#[]⟩] (Els.one rfl) 1 1 rfl rfl (by decide) (by show 1 + 1 ≤ 9223372036854775807; decide) (by show (1 + 1) * 64 ≤ 140737488355328; decide) HD1.out.below.size ?_; intro g2 cap2 wp2 hP2 hPa2; have HD2 := Lib.hid (BldE.push HD1.out hP2 (n := 2) rfl); clear hP2 hPa2; obtain ⟨p2, p3, pi, pk⟩ := HD2.out.four)
        | fail)
      refine bodyPost_ret (v := .tuple #[.slice (some ⟨g2, 0, none⟩) 2 cap2, .int .i64 1]) (by simp [results, Tryz.results6, go_sem]) rfl ?_
      exact ⟨_, [⟨2, 0, 0, i, gnull⟩, ⟨11, 0, 0, 0, gnull⟩], rfl, HD2.out.own, ⟨(by intro x hx; simp at hx; rcases hx with rfl | rfl <;> exact in64_null), (by simp)⟩, HD2.out.below⟩
    · have h5' : (((x2 : Int) % 5) == 0) = false := by rw [beq_eq_false_iff_ne]; omega
      have hi2' : (i : Int) < 2 := by omega
      have hk2' : (k : Int) < 2 := by omega
      go_upto_region 7 with (first
        | (at_builtin; refine wpList_push rfl (.tmp 24) (.tmp 27) 30 rfl expE Tryz.underlying30 w.heap.size (.slice none 0 0) [] rfl HD0.out.own [⟨2, 0, 0, i, gnull⟩] #[.int .i64 2, .int .i64 0, .int .i64 0, .int .i64 (i : Int), .int .i64 0, .int .i64 0, .string ⟨#[]⟩] (Els.one rfl) 1 1 rfl rfl (by decide) (by show 0 + 1 ≤ 9223372036854775807; decide) (by show (0 + 1) * 64 ≤ 140737488355328; decide) HD0.out.below.size ?_; intro g1 cap1 wp1 hP1 hPa1; have HD1 := Lib.hid (BldE.push HD0.out hP1 (n := 1) rfl); clear hP1 hPa1; obtain ⟨p2, p3, pi, pk⟩ := HD1.out.four)
        | fail)
      go_cut [59] (fun s59 wx => ∃ q : Bool, s59 = .bool q ∧ Hid (BldE w M [(⟨w.heap.size, 2, none⟩, .int .u16 (x2 : Int)), (⟨w.heap.size, 3, none⟩, .int .u16 (x3 : Int)), (⟨b, o + i, none⟩, .int .i64 (1 + (i : Int))), (⟨b, o + k, none⟩, .int .i64 (1 + (k : Int)))] wx (.slice (some ⟨g1, 0, none⟩) 1 cap1) [⟨2, 0, 0, i, gnull⟩]))
      case first =>
        by_cases hik : i = k
        · subst hik
          by_cases h53 : x2 % 5 < 3
          · have g53 : (x2 : Int) % 5 < 3 := by omega
            go_region
            all_goals (
              go_wp2_with fail
              go_meet
              first
                | exact ⟨_, rfl, HD1⟩
                | exact ⟨_, rfl, Lib.hid (HD1.out.keep (Below.refl _ _).drew)⟩
                | exact ⟨_, rfl, Lib.hid (HD1.out.keep (below_drewN (Below.refl _ _) _))⟩)
          · have g53 : ¬ (x2 : Int) % 5 < 3 := by omega
            go_region
            all_goals (
              go_wp2_with fail
              go_meet
              first
                | exact ⟨_, rfl, HD1⟩
                | exact ⟨_, rfl, Lib.hid (HD1.out.keep (Below.refl _ _).drew)⟩
                | exact ⟨_, rfl, Lib.hid (HD1.out.keep (below_drewN (Below.refl _ _) _))⟩)
        · have gik : (1 + (i : Int) == 1 + (k : Int)) = false := by rw [beq_eq_false_iff_ne]; omega
          go_region
          all_goals (
            go_wp2_with fail
            go_meet
            first
              | exact ⟨_, rfl, HD1⟩
              | exact ⟨_, rfl, Lib.hid (HD1.out.keep (Below.refl _ _).drew)⟩
              | exact ⟨_, rfl, Lib.hid (HD1.out.keep (below_drewN (Below.refl _ _) _))⟩)
      case rest =>
        obtain ⟨q, rfl, HE1⟩ := hcut
        clear HD0 HD1 p2 p3 pi pk
        obtain ⟨p2, p3, pi, pk⟩ := HE1.out.four
        have hbS := HE1.out.below
        go_upto_if 59 with fail
        go_cut [0] (fun s0 wx => ∃ g2 cap2 e1, s0 = .slice (some ⟨g2, 0, none⟩) 2 cap2 ∧ In64 (GExp.c e1).n ∧ Hid (BldE w M [(⟨w.heap.size, 2, none⟩, .int .u16 (x2 : Int)), (⟨w.heap.size, 3, none⟩, .int .u16 (x3 : Int)), (⟨b, o + i, none⟩, .int .i64 (1 + (i : Int))), (⟨b, o + k, none⟩, .int .i64 (1 + (k : Int)))] wx (.slice (some ⟨g2, 0, none⟩) 2 cap2) [⟨2, 0, 0, i, gnull⟩, e1]))
        case first =>
          cases q
          · go_wp2_with fail
            go_region_held3 (fun W => Below w.heap.size w W ∧ W.cell? ⟨w.heap.size, 3, none⟩ = some (.int .u16 (x3 : Int)) ∧ W.cell? ⟨b, o + i, none⟩ = some (.int .i64 (1 + (i : Int))))
              ((go_split_ands; refine ⟨?_, ?_, ?_⟩ <;> (first | with_reducible assumption | with_reducible exact Below.drew (by assumption) | with_reducible exact cell_drew (by assumption) | with_reducible exact below_keep (by assumption) (by assumption) | with_reducible exact cell_keep (by assumption) (by assumption) | with_reducible exact below_alloc_keep (by assumption) | with_reducible exact cell_alloc (by assumption) | with_reducible exact below_alloc_drew (by assumption) | with_reducible exact cell_alloc_drew (by assumption))))
              (first
                | (go_at_call 20; go_split_ands; refine (HCN _).out.mono ?_; rintro e' wC ⟨⟨⟨gk, gn, gs⟩, rfl, hgc⟩, hbC⟩; dsimp only [aggG]; have hbw2 : Below wc.heap.size wc wC := (by first | exact hbC | exact (Below.refl _ _).drew.trans hbC); have HEC := Lib.hid (HE1.out.keep hbw2))
                | (refine step_push rfl (.tmp 65) (.tmp 74) 30 rfl expE Tryz.underlying30 w.heap.size (.slice (some ⟨g1, 0, none⟩) 1 cap1) [⟨2, 0, 0, i, gnull⟩] rfl HEC.out.own [⟨1, 0, 0, 0, ⟨gk, gn, gs⟩⟩] #[.int .i64 1, .int .i64 0, .int .i64 0, .int .i64 0, .int .i64 gk, .int .i64 gn, .string gs] (Els.one rfl) 1 1 rfl rfl (by decide) (by show 1 + 1 ≤ 9223372036854775807; decide) (by show (1 + 1) * 64 ≤ 140737488355328; decide) HEC.out.below.size ?_; intro g2 cap2 wp2 hP2 hPa2; have HD2 := Lib.hid (BldE.push HEC.out hP2 (n := 2) rfl); clear hP2 hPa2; have hS2 := HD2.out.below; obtain ⟨r2, r3, ri, rk⟩ := HD2.out.four))
            all_goals (
              go_wp2_with fail
              go_meet
              exact ⟨g2, cap2, _, rfl, hgc, HD2⟩)
          · go_wp2_with (first
              | (at_builtin; refine wpList_push rfl (.tmp 60) (.tmp 63) 30 rfl expE Tryz.underlying30 w.heap.size (.slice (some ⟨g1, 0, none⟩) 1 cap1) [⟨2, 0, 0, i, gnull⟩] rfl HE1.out.own [⟨2, 0, 0, k, gnull⟩] #[.int .i64 2, .int .i64 0, .int .i64 0, .int .i64 (k : Int), .int .i64 0, .int .i64 0, .string ⟨#[]⟩] (Els.one rfl) 1 1 rfl rfl (by decide) (by show 1 + 1 ≤ 9223372036854775807; decide) (by show (1 + 1) * 64 ≤ 140737488355328; decide) HE1.out.below.size ?_; intro g2 cap2 wp2 hP2 hPa2; have HD2 := Lib.hid (BldE.push HE1.out hP2 (n := 2) rfl); clear hP2 hPa2; obtain ⟨p2, p3, pi, pk⟩ := HD2.out.four)
              | fail)
            go_meet
            exact ⟨g2, cap2, _, rfl, in64_null, HD2⟩
        case rest =>
          clear HE1 p2 p3 pi pk hbS
          obtain ⟨g2, cap2, e1, rfl, hc1, HE2⟩ := hcut
          obtain ⟨p2, p3, pi, pk⟩ := HE2.out.four
          have hcM : ∀ x ∈ [⟨2, 0, 0, i, gnull⟩, e1], In64 (GExp.c x).n := (by intro x hx; simp at hx; rcases hx with rfl | rfl <;> first | exact in64_null | exact hc1)
          clear hc1
          go_upto_if 79 with fail
          go_cut [11] (fun s11 wx => ∃ op : Int, s11 = .int .i64 op ∧ Hid (BldE w M [(⟨w.heap.size, 2, none⟩, .int .u16 (x2 : Int)), (⟨w.heap.size, 3, none⟩, .int .u16 (x3 : Int)), (⟨b, o + i, none⟩, .int .i64 (1 + (i : Int))), (⟨b, o + k, none⟩, .int .i64 (1 + (k : Int)))] wx (.slice (some ⟨g2, 0, none⟩) 2 cap2) [⟨2, 0, 0, i, gnull⟩, e1]))
          case first =>
            by_cases h22 : x2 % 2 = 0
            · have h22' : (((x2 : Int) % 2) == 0) = true := by rw [beq_iff_eq]; omega
              go_wp2_with fail
              go_meet
              exact ⟨_, rfl, HE2⟩
            · have h22' : (((x2 : Int) % 2) == 0) = false := by rw [beq_eq_false_iff_ne]; omega
              go_wp2_with fail
              go_meet
              exact ⟨_, rfl, HE2⟩
          case rest =>
            clear HE2 p2 p3 pi pk
            obtain ⟨op, rfl, HE2⟩ := hcut
            obtain ⟨p2, p3, pi, pk⟩ := HE2.out.four
            by_cases h34 : x3 % 4 = 0
            · have h34' : (((x3 : Int) % 4) == 0) = true := by rw [beq_iff_eq]; omega
              go_wp2_with (first
                | (at_builtin; refine wpList_push rfl (.tmp 80) (.tmp 86) 30 rfl expE Tryz.underlying30 w.heap.size (.slice (some ⟨g2, 0, none⟩) 2 cap2) [⟨2, 0, 0, i, gnull⟩, e1] rfl HE2.out.own [⟨op, 0, 1, 0, gnull⟩] #[.int .i64 op, .int .i64 0, .int .i64 1, .int .i64 0, .int .i64 0, .int .i64 0, .string ⟨#[]⟩] (Els.one rfl) 1 1 rfl rfl (by decide) (by show 2 + 1 ≤ 9223372036854775807; decide) (by show (2 + 1) * 64 ≤ 140737488355328; decide) HE2.out.below.size ?_; intro g3 cap3 wp3 hP3 hPa3; have HD3 := Lib.hid (BldE.push HE2.out hP3 (n := 3) rfl); clear hP3 hPa3; obtain ⟨p2, p3, pi, pk⟩ := HD3.out.four)
                | (at_builtin; refine wpList_push rfl (.tmp 92) (.tmp 97) 30 rfl expE Tryz.underlying30 w.heap.size (.slice (some ⟨g3, 0, none⟩) 3 cap3) [⟨2, 0, 0, i, gnull⟩, e1, ⟨op, 0, 1, 0, gnull⟩] rfl HD3.out.own [⟨10, 2, 0, 0, gnull⟩] #[.int .i64 10, .int .i64 2, .int .i64 0, .int .i64 0, .int .i64 0, .int .i64 0, .string ⟨#[]⟩] (Els.one rfl) 1 1 rfl rfl (by decide) (by show 3 + 1 ≤ 9223372036854775807; decide) (by show (3 + 1) * 64 ≤ 140737488355328; decide) HD3.out.below.size ?_; intro g4 cap4 wp4 hP4 hPa4; have HD4 := Lib.hid (BldE.push HD3.out hP4 (n := 4) rfl); clear hP4 hPa4; obtain ⟨p2, p3, pi, pk⟩ := HD4.out.four)
                | fail)
              refine bodyPost_ret (v := .tuple #[.slice (some ⟨g4, 0, none⟩) 4 cap4, .int .i64 3]) (by simp [results, Tryz.results6, go_sem]) rfl ?_
              exact ⟨_, [⟨2, 0, 0, i, gnull⟩, e1, ⟨op, 0, 1, 0, gnull⟩, ⟨10, 2, 0, 0, gnull⟩], rfl, HD4.out.own, ⟨(by intro x hx; simp at hx; rcases hx with rfl | rfl | rfl | rfl <;> first | exact in64_null | exact hcM _ (by simp)), (by simp)⟩, HD4.out.below⟩
            · have h34' : (((x3 : Int) % 4) == 0) = false := by rw [beq_eq_false_iff_ne]; omega
              go_wp2_with (first
                | (at_builtin; refine wpList_push rfl (.tmp 80) (.tmp 86) 30 rfl expE Tryz.underlying30 w.heap.size (.slice (some ⟨g2, 0, none⟩) 2 cap2) [⟨2, 0, 0, i, gnull⟩, e1] rfl HE2.out.own [⟨op, 0, 1, 0, gnull⟩] #[.int .i64 op, .int .i64 0, .int .i64 1, .int .i64 0, .int .i64 0, .int .i64 0, .string ⟨#[]⟩] (Els.one rfl) 1 1 rfl rfl (by decide) (by show 2 + 1 ≤ 9223372036854775807; decide) (by show (2 + 1) * 64 ≤ 140737488355328; decide) HE2.out.below.size ?_; intro g3 cap3 wp3 hP3 hPa3; have HD3 := Lib.hid (BldE.push HE2.out hP3 (n := 3) rfl); clear hP3 hPa3; obtain ⟨p2, p3, pi, pk⟩ := HD3.out.four)
                | fail)
              refine bodyPost_ret (v := .tuple #[.slice (some ⟨g3, 0, none⟩) 3 cap3, .int .i64 2]) (by simp [results, Tryz.results6, go_sem]) rfl ?_
              exact ⟨_, [⟨2, 0, 0, i, gnull⟩, e1, ⟨op, 0, 1, 0, gnull⟩], rfl, HD3.out.own, ⟨(by intro x hx; simp at hx; rcases hx with rfl | rfl | rfl <;> first | exact in64_null | exact hcM _ (by simp)), (by simp)⟩, HD3.out.below⟩)
end Go.Proofs.YtfmbbfidjcgeiaaGreat

namespace Go.Proofs.YtfmbbfidjcgeiaaGreat
open Go.RowKit

/-- Each version is current and was recorded before n, or was closed by n. -/
def Now (L : List Ver) (n : Int) : Prop := ∀ v ∈ L, (v.rhi = 1099511627776 ∧ v.rlo < n) ∨ v.rhi ≤ n
theorem Now.of_cur {L : List Ver} (h : Cur L) {n : Int} (hn : 1 < n) : Now L n := fun v hv => by
  obtain ⟨h1, h2⟩ := h v hv
  exact .inl ⟨h2, by omega⟩
def isCur (v : Ver) : Bool := v.rhi == 1099511627776
theorem atT_now {L : List Ver} {n : Int} (h : Now L n) (h2 : n < 1099511627776) : atT L n = (L.filter isCur).map tupV := by
  unfold atT
  rw [List.filter_congr (q := isCur) fun v hv => ?_]
  · rfl
  · unfold isCur
    rw [Bool.eq_iff_iff]
    simp only [Bool.and_eq_true, decide_eq_true_eq, beq_iff_eq]
    rcases h v hv with ⟨h1, h3⟩ | h1
    · omega
    · omega
theorem now_apply {L : List Ver} {n first : Int} {cl : List Int} {ad : List Tup} (h : Now L n) : Now (applyL L cl ad n first) (n + 1) := by
  intro v hv
  unfold applyL at hv
  rcases List.mem_append.1 hv with hv | hv
  · obtain ⟨u, hu, hv⟩ := List.mem_flatMap.1 hv
    unfold keepOne at hv
    split at hv
    · split at hv
      · simp at hv
      · simp at hv; subst hv; exact .inr (by dsimp only; omega)
    · simp at hv
      subst hv
      rcases h v hu with ⟨h1, h2⟩ | h1
      · exact .inl ⟨h1, by omega⟩
      · exact .inr (by omega)
  · obtain ⟨i, hi, rfl⟩ := List.mem_mapIdx.1 hv
    exact .inl ⟨rfl, by dsimp only; omega⟩
/-- What is recorded behind an edit is recorded an instant later, too. -/
theorem atT_after {L : List Ver} {n first : Int} {cl : List Int} {ad : List Tup} (h : Now L n) (h2 : n + 1 < 1099511627776) : atT (applyL L cl ad n first) (n + 1) = atT (applyL L cl ad n first) n := by
  rw [atT_now (now_apply h) h2]
  refine congrArg (List.map tupV) (List.filter_congr fun v hv => ?_)
  · unfold isCur
    rw [Bool.eq_iff_iff]
    simp only [Bool.and_eq_true, decide_eq_true_eq, beq_iff_eq]
    unfold applyL at hv
    rcases List.mem_append.1 hv with hv | hv
    · obtain ⟨u, hu, hv⟩ := List.mem_flatMap.1 hv
      unfold keepOne at hv
      split at hv
      · split at hv
        · simp at hv
        · simp at hv; subst hv; dsimp only; omega
      · simp at hv
        subst hv
        rcases h v hu with ⟨h1, h3⟩ | h1 <;> omega
    · obtain ⟨i, hi, rfl⟩ := List.mem_mapIdx.1 hv
      dsimp only
      omega
theorem atT_kept {L : List Ver} {n : Int} {cl : List Int} (h : Now L n) (hc : ∀ v ∈ L, cl.contains v.id = true → isCur v = true) (h2 : n < 1099511627776) : atT (L.flatMap (keepOne cl n)) n = (L.filter fun v => isCur v && !cl.contains v.id).map tupV := by
  induction L with
  | nil => rfl
  | cons v L ih =>
    have ih' := ih (fun u hu => h u (.tail _ hu)) (fun u hu => hc u (.tail _ hu))
    rw [List.flatMap_cons, atT_append, ih']
    unfold keepOne
    rcases h v (.head _) with ⟨e2, e1⟩ | e1
    · by_cases hcc : cl.contains v.id = true
      · have hne : ¬ v.rlo = n := by omega
        rw [if_pos hcc, if_neg (by simpa using hne), List.filter_cons_of_neg (p := fun v : Ver => isCur v && !cl.contains v.id) (by simp only [hcc]; simp)]
        have : atT [{ v with rhi := n }] n = [] := by
          unfold atT
          rw [List.filter_cons_of_neg (by simp), List.filter_nil]
          rfl
        rw [this, List.nil_append]
      · rw [if_neg hcc, List.filter_cons_of_pos (p := fun v : Ver => isCur v && !cl.contains v.id) (by simp only [isCur, e2]; simpa using hcc), List.map_cons]
        have : atT [v] n = [tupV v] := by
          unfold atT
          rw [List.filter_cons_of_pos (by simp; omega), List.filter_nil]
          rfl
        rw [this]
        rfl
    · have hnc : isCur v = false := by unfold isCur; rw [beq_eq_false_iff_ne]; omega
      have hcc : ¬ cl.contains v.id = true := fun hcc => by rw [hc v (.head _) hcc] at hnc; cases hnc
      rw [if_neg hcc, List.filter_cons_of_neg (p := fun v : Ver => isCur v && !cl.contains v.id) (by simp [hnc])]
      have : atT [v] n = [] := by
        unfold atT
        rw [List.filter_cons_of_neg (by simp; omega), List.filter_nil]
        rfl
      rw [this, List.nil_append]
theorem two_parts {α β : Type} {p q : α → Bool} {f g : α → List β} : ∀ {L : List α}, (∀ v ∈ L, p v = true → q v = false) → ((L.filter p).flatMap f ++ (L.filter q).flatMap g).Perm (L.flatMap fun v => if p v = true then f v else if q v = true then g v else [])
  | [], _ => .refl _
  | v :: L, h => by
    have ih := two_parts (p := p) (q := q) (f := f) (g := g) (L := L) fun u hu => h u (.tail _ hu)
    rw [List.flatMap_cons]
    by_cases hp : p v = true
    · have hq := h v (.head _) hp
      rw [List.filter_cons_of_pos hp, List.filter_cons_of_neg (by simp [hq]), List.flatMap_cons, if_pos hp, List.append_assoc]
      exact ih.append_left _
    · rw [List.filter_cons_of_neg hp, if_neg hp]
      by_cases hq : q v = true
      · rw [List.filter_cons_of_pos hq, List.flatMap_cons, if_pos hq, ← List.append_assoc]
        refine (List.perm_append_comm.append_right _).trans ?_
        rw [List.append_assoc]
        exact ih.append_left _
      · rw [List.filter_cons_of_neg hq, if_neg hq, List.nil_append]
        exact ih
/-- What becomes of a row on a day of the portion. -/
def chgR (e : List GExp) (pred : Int) (chg : Option (List GVal → List GVal)) (r : GRow) : List GRow :=
  if isTrueG (evalG e pred r.vals) = true then (match chg with | none => [] | some f => [⟨f r.vals, []⟩]) else [r]
theorem rows_edit (plo phi : Int) (e : List GExp) (pred : Int) (chg : Option (List GVal → List GVal)) (L : List Ver) (n first day : Int) (hN : Now L n) (hF : Fit L n first) (h2 : n < 1099511627776) (hp : pvalid plo phi = true) :
    (atDay (atT (applyL L ((affV plo phi e pred L).map Ver.id) ((affV plo phi e pred L).flatMap (partsV plo phi chg)) n first) n) day).Perm
      (if plo ≤ day ∧ day < phi then (atDay (atT L n) day).flatMap (chgR e pred chg) else atDay (atT L n) day) := by
  have hcur : ∀ v ∈ L, ((affV plo phi e pred L).map Ver.id).contains v.id = true → isCur v = true := fun v hv h => by
    rw [aff_contains hF.ids hv] at h
    unfold keepV at h
    simp only [Bool.and_eq_true] at h
    exact h.1.1
  have hR : (if plo ≤ day ∧ day < phi then (atDay (atT L n) day).flatMap (chgR e pred chg) else atDay (atT L n) day) = L.flatMap fun v => if isCur v = true then (if plo ≤ day ∧ day < phi then (atDay [tupV v] day).flatMap (chgR e pred chg) else atDay [tupV v] day) else [] := by
    rw [atT_now hN h2, day_vers]
    have e1 : ∀ (g : Ver → List GRow), (L.filter isCur).flatMap g = L.flatMap fun v => if isCur v = true then g v else [] := fun g => by
      induction L with
      | nil => rfl
      | cons v L ih =>
        have ih' := ih (fun u hu => hN u (.tail _ hu)) ⟨(List.nodup_cons.1 hF.ids).2, fun u hu => hF.lt u (.tail _ hu), fun u hu => hF.old u (.tail _ hu), fun u hu => hF.days u (.tail _ hu)⟩ (fun u hu h => by
          rw [aff_contains (List.nodup_cons.1 hF.ids).2 hu] at h
          unfold keepV at h
          simp only [Bool.and_eq_true] at h
          exact h.1.1)
        rw [List.flatMap_cons, ← ih']
        by_cases hc : isCur v = true
        · rw [List.filter_cons_of_pos hc, List.flatMap_cons, if_pos hc]
        · rw [List.filter_cons_of_neg hc, if_neg hc, List.nil_append]
    by_cases hd : plo ≤ day ∧ day < phi
    · rw [if_pos hd, List.flatMap_assoc, e1]
      refine fm_congr fun v _ => ?_
      rw [if_pos hd]
    · rw [if_neg hd, e1]
      refine fm_congr fun v _ => ?_
      rw [if_neg hd]
  rw [hR]
  unfold applyL
  rw [atT_append, atT_kept hN hcur h2, atT_new _ _ _ h2, atDay_append, List.map_flatMap, atDay_flatMap, day_vers]
  rw [List.filter_congr (q := fun v => isCur v && !keepV plo phi e pred v) (fun v hv => by rw [aff_contains hF.ids hv])]
  refine ((List.Perm.append_left _ ((sortV_perm _).flatMap_right _)).trans (two_parts (p := fun v => isCur v && !keepV plo phi e pred v) (q := keepV plo phi e pred) (fun v _ h => by simp at h; exact h.2))).trans ?_
  refine List.Perm.of_eq (fm_congr fun v hv => ?_)
  obtain ⟨g1, g2, g3⟩ := hF.days v hv
  by_cases hc : isCur v = true
  · rw [if_pos hc]
    by_cases hk : keepV plo phi e pred v = true
    · rw [if_neg (by simp [hk]), if_pos hk]
      unfold keepV at hk
      simp only [Bool.and_eq_true] at hk
      rw [parts_day plo phi day chg v g1 g2 g3 hk.1.2, day_ver v g1 g2 g3]
      by_cases hv1 : v.lo ≤ day ∧ day < v.hi
      · rw [if_pos hv1, if_pos hv1]
        by_cases hd : plo ≤ day ∧ day < phi
        · rw [if_pos hd, if_pos hd, List.flatMap_cons, List.flatMap_nil, List.append_nil]
          unfold chgR
          dsimp only
          refine Eq.trans ?_ (if_pos hk.2).symm
          cases chg <;> rfl
        · rw [if_neg hd, if_neg hd]
      · rw [if_neg hv1, if_neg hv1]
        split <;> rfl
    · rw [if_pos (by simp [hc, hk]), day_ver v g1 g2 g3]
      by_cases hv1 : v.lo ≤ day ∧ day < v.hi
      · rw [if_pos hv1]
        by_cases hd : plo ≤ day ∧ day < phi
        · rw [if_pos hd, List.flatMap_cons, List.flatMap_nil, List.append_nil]
          unfold chgR
          dsimp only
          rw [if_neg fun ht => hk ?_]
          unfold keepV isOk
          simp only [Bool.and_eq_true, decide_eq_true_eq]
          exact ⟨⟨hc, ⟨by rw [pvalid_iff]; omega, hp⟩, by omega⟩, ht⟩
        · rw [if_neg hd]
      · rw [if_neg hv1]
        split <;> rfl
  · have hk : ¬ keepV plo phi e pred v = true := fun h => by
      unfold keepV at h
      simp only [Bool.and_eq_true] at h
      exact hc h.1.1
    rw [if_neg (by simp [hc]), if_neg hk, if_neg hc]
theorem newV_mem {n first : Int} {ad : List Tup} {v : Ver} (h : v ∈ newV n first ad) : ∃ (i : Nat) (t : Tup), ad[i]? = some t ∧ v = ⟨first + i, t.vals, t.lo, t.hi, n, 1099511627776⟩ := by
  obtain ⟨i, hi, rfl⟩ := List.mem_mapIdx.1 h
  exact ⟨i, ad[i], List.getElem?_eq_getElem hi, rfl⟩
/-- What an edit leaves is fit for the next. -/
theorem fit_apply {L : List Ver} {n first next : Int} {cl : List Int} {ad : List Tup} (hF : Fit L n first) (hd : ∀ t ∈ ad, pdays t.lo t.hi = true) (hl : first + ad.length ≤ next) : Fit (applyL L cl ad n first) (n + 1) next := by
  have hk : ∀ {v : Ver}, v ∈ L.flatMap (keepOne cl n) → ∃ u ∈ L, v.id = u.id ∧ v.lo = u.lo ∧ v.hi = u.hi ∧ v.rlo = u.rlo := fun {v} hv => by
    obtain ⟨u, hu, hv⟩ := List.mem_flatMap.1 hv
    unfold keepOne at hv
    split at hv
    · split at hv
      · simp at hv
      · simp at hv; subst hv; exact ⟨u, hu, rfl, rfl, rfl, rfl⟩
    · simp at hv; subst hv; exact ⟨v, hu, rfl, rfl, rfl, rfl⟩
  refine ⟨?_, fun v hv => ?_, fun v hv => ?_, fun v hv => ?_⟩
  · unfold applyL
    rw [List.map_append, List.nodup_append]
    refine ⟨?_, ?_, fun a ha b hb e => ?_⟩
    · have hs : ((L.flatMap (keepOne cl n)).map Ver.id).Sublist (L.map Ver.id) := by
        clear hk hF
        induction L with
        | nil => exact .slnil
        | cons v L ih =>
          rw [List.flatMap_cons, List.map_append, List.map_cons]
          unfold keepOne
          split
          · split
            · exact ih.cons _
            · exact ih.cons_cons _
          · exact ih.cons_cons _
      exact hs.nodup hF.ids
    · rw [List.nodup_iff_pairwise_ne, List.pairwise_iff_getElem]
      intro i j hi hj hij
      have hi' : i < ad.length := by simpa [newV] using hi
      have hj' : j < ad.length := by simpa [newV] using hj
      simp only [newV, List.getElem_map, List.getElem_mapIdx]
      omega
    · obtain ⟨v, hv, rfl⟩ := List.mem_map.1 ha
      obtain ⟨u, hu, rfl⟩ := List.mem_map.1 hb
      obtain ⟨x, hx, e1, _⟩ := hk hv
      obtain ⟨i, t, _, rfl⟩ := newV_mem hu
      have := hF.lt x hx
      dsimp only at e
      omega
  · unfold applyL at hv
    rcases List.mem_append.1 hv with hv | hv
    · obtain ⟨x, hx, e1, _⟩ := hk hv
      have := hF.lt x hx
      omega
    · obtain ⟨i, t, ht, rfl⟩ := newV_mem hv
      have := (List.getElem?_eq_some_iff.1 ht).1
      dsimp only
      omega
  · unfold applyL at hv
    rcases List.mem_append.1 hv with hv | hv
    · obtain ⟨x, hx, _, _, _, e1⟩ := hk hv
      have := hF.old x hx
      omega
    · obtain ⟨i, t, ht, rfl⟩ := newV_mem hv
      dsimp only
      omega
  · unfold applyL at hv
    rcases List.mem_append.1 hv with hv | hv
    · obtain ⟨x, hx, _, e1, e2, _⟩ := hk hv
      rw [e1, e2]
      exact hF.days x hx
    · obtain ⟨i, t, ht, rfl⟩ := newV_mem hv
      have h1 := hd t (List.mem_of_getElem? ht)
      unfold pdays at h1
      simp only [Bool.and_eq_true, decide_eq_true_eq] at h1
      have h2 := pvalid_iff.1 h1.1
      exact ⟨h2.1, h2.2.1, h1.2⟩
theorem parts_pdays {plo phi : Int} {e : List GExp} {pred : Int} {chg : Option (List GVal → List GVal)} {L : List Ver} {n first : Int} (hF : Fit L n first) : ∀ t ∈ (affV plo phi e pred L).flatMap (partsV plo phi chg), pdays t.lo t.hi = true := by
  intro t ht
  obtain ⟨v, hv, ht⟩ := List.mem_flatMap.1 ht
  obtain ⟨h1, _, h3⟩ := affV_mem hv
  obtain ⟨g1, g2, g3⟩ := hF.days v h1
  exact parts_days (chg := chg) g1 g2 g3 h3 t ht
/-- Edits of two disjoint portions commute. -/
theorem disjoint_rows (p1 p2 q1 q2 : Int) (e : List GExp) (pred : Int) (f : List GVal → List GVal) (L : List Ver) (hc : Cur L) (hF : Fit L 2 100) (hp : pvalid p1 p2 = true) (hq : pvalid q1 q2 = true) (hpq : p2 ≤ q1) (hl : L.length ≤ 30) (day : Int) :
    (atDay (atT (applyL (applyL L ((affV p1 p2 e pred L).map Ver.id) ((affV p1 p2 e pred L).flatMap (partsV p1 p2 (some f))) 2 100)
        ((affV q1 q2 e pred (applyL L ((affV p1 p2 e pred L).map Ver.id) ((affV p1 p2 e pred L).flatMap (partsV p1 p2 (some f))) 2 100)).map Ver.id)
        ((affV q1 q2 e pred (applyL L ((affV p1 p2 e pred L).map Ver.id) ((affV p1 p2 e pred L).flatMap (partsV p1 p2 (some f))) 2 100)).flatMap (partsV q1 q2 none)) 3 200) 3) day).Perm
      (atDay (atT (applyL (applyL L ((affV q1 q2 e pred L).map Ver.id) ((affV q1 q2 e pred L).flatMap (partsV q1 q2 none)) 2 100)
        ((affV p1 p2 e pred (applyL L ((affV q1 q2 e pred L).map Ver.id) ((affV q1 q2 e pred L).flatMap (partsV q1 q2 none)) 2 100)).map Ver.id)
        ((affV p1 p2 e pred (applyL L ((affV q1 q2 e pred L).map Ver.id) ((affV q1 q2 e pred L).flatMap (partsV q1 q2 none)) 2 100)).flatMap (partsV p1 p2 (some f))) 3 200) 3) day) := by
  have hN : Now L 2 := .of_cur hc (by decide)
  have hlen : ∀ (a b : Int) (chg : Option (List GVal → List GVal)), (100 : Int) + ((affV a b e pred L).flatMap (partsV a b chg)).length ≤ 200 := fun a b chg => by
    have h1 := parts_len (plo := a) (phi := b) chg (affV a b e pred L)
    have h2 := affV_len (plo := a) (phi := b) (e := e) (pred := pred) L
    omega
  have hk := fit_apply (cl := (affV p1 p2 e pred L).map Ver.id) hF (parts_pdays (plo := p1) (phi := p2) (e := e) (pred := pred) (chg := some f) hF) (hlen p1 p2 (some f))
  have hn := fit_apply (cl := (affV q1 q2 e pred L).map Ver.id) hF (parts_pdays (plo := q1) (phi := q2) (e := e) (pred := pred) (chg := none) hF) (hlen q1 q2 none)
  have a1 := rows_edit p1 p2 e pred (some f) L 2 100 day hN hF (by decide) hp
  have a2 := rows_edit q1 q2 e pred none L 2 100 day hN hF (by decide) hq
  have b1 := rows_edit q1 q2 e pred none _ 3 200 day (now_apply hN) hk (by decide) hq
  have b2 := rows_edit p1 p2 e pred (some f) _ 3 200 day (now_apply hN) hn (by decide) hp
  rw [show (3 : Int) = 2 + 1 from rfl, atT_after hN (by decide)] at b1 b2
  refine b1.trans (.trans ?_ b2.symm)
  by_cases d1 : p1 ≤ day ∧ day < p2
  · rw [if_pos d1] at a1
    rw [if_neg (by omega)] at a2
    rw [if_neg (by omega), if_pos d1]
    exact a1.trans (a2.symm.flatMap_right _)
  · rw [if_neg d1] at a1
    rw [if_neg d1]
    by_cases d2 : q1 ≤ day ∧ day < q2
    · rw [if_pos d2] at a2
      rw [if_pos d2]
      exact (a1.flatMap_right _).trans a2.symm
    · rw [if_neg d2] at a2
      rw [if_neg d2]
      exact a1.trans a2.symm
end Go.Proofs.YtfmbbfidjcgeiaaGreat

namespace Go.Proofs.YtfmbbfidjcgeiaaGreat
open Go.RowKit Go.Lib

set_option maxHeartbeats 2000000 in
theorem less_any (a b : GRow) (v u v2 u2 : Value) (w : World) (hv : Sl valE w free v a.vals) (hu : Sl intE w free u a.lin) (hv2 : Sl valE w free v2 b.vals) (hu2 : Sl intE w free u2 b.lin) :
    Calls Tryz.prog 59 #[.agg #[v, u], .agg #[v2, u2]] w fun e w' => e = .returned (.bool (decide (cmpRow a b < 0))) ∧ Below w.heap.size w w' := by
  obtain ⟨r1, hr1⟩ : ∃ r, r = cmpRows a.vals b.vals := ⟨_, rfl⟩
  obtain ⟨r2, hr2⟩ : ∃ r, r = cmpInts a.lin b.lin := ⟨_, rfl⟩
  have CR : ∀ W, Below w.heap.size w W → Hid (Calls Tryz.prog 76 #[v, v2] W fun e w' => e = .returned (.int .i64 r1) ∧ Below W.heap.size W w') := fun W h => hr1 ▸ cmpRows_any v v2 a.vals b.vals W (hv.below h).vals (hv2.below h).vals
  have CI : ∀ W, Below w.heap.size w W → Hid (Calls Tryz.prog 77 #[u, u2] W fun e w' => e = .returned (.int .i64 r2) ∧ Below W.heap.size W w') := fun W h => hr2 ▸ cmpInts_any u u2 a.lin b.lin W (hu.below h).ints (hu2.below h).ints
  have HR : Hid (cmpRow a b = if r1 = 0 then r2 else r1) := by show _ = _; rw [hr1, hr2]; rfl
  obtain ⟨a1, c1, rfl⟩ := hv.shape
  obtain ⟨a2, c2, rfl⟩ := hu.shape
  obtain ⟨a3, c3, rfl⟩ := hv2.shape
  obtain ⟨a4, c4, rfl⟩ := hu2.shape
  generalize a.vals.length = n1 at CR ⊢
  generalize a.lin.length = n2 at CI ⊢
  generalize b.vals.length = n3 at CR ⊢
  generalize b.lin.length = n4 at CI ⊢
  generalize cmpRow a b = z at HR ⊢
  have hb0 := below_alloc_two w (.cells #[.slice a1 n1 c1, .slice a2 n2 c2] 53) (.cells #[.slice a3 n3 c3, .slice a4 n4 c4] 53)
  have g0 := heap_alloc_old' w (.cells #[.slice a1 n1 c1, .slice a2 n2 c2] 53) (.cells #[.slice a3 n3 c3, .slice a4 n4 c4] 53)
  have g1 := heap_alloc_new' w (.cells #[.slice a1 n1 c1, .slice a2 n2 c2] 53) (.cells #[.slice a3 n3 c3, .slice a4 n4 c4] 53)
  have CR1 := Lib.hid (CR _ hb0).out
  have HB0 := Lib.hid hb0
  have G0 := Lib.hid g0
  have G1 := Lib.hid g1
  obtain ⟨d0, d1, _, _⟩ := box_two g0
  obtain ⟨e0, e1, _, _⟩ := box_two g1
  have CI' := Lib.hid CI
  clear hv hu hv2 hu2 hr1 hr2 CR CI hb0 g0 g1
  go_enter Tryz.func59, Tryz.ntmps59
  go_wp2_with fail
  refine CR1.out.mono ?_
  rintro _ w2 ⟨rfl, hb⟩
  obtain ⟨d0, d1, _, _⟩ := box_two (box_kept G0.out hb)
  obtain ⟨e0, e1, _, _⟩ := box_two (box_kept G1.out hb)
  have HB2 := Lib.hid (below_keep HB0.out hb)
  have CI2 := Lib.hid (CI'.out _ HB2.out).out
  clear hb CI' CR1 G0 G1 HB0
  by_cases h1 : r1 < 0
  · go_wp2_with fail
    go_ret
    exact ⟨ret_bool (by rw [HR.out, if_neg (by omega)]; simp [h1]), HB2.out⟩
  · by_cases h2 : r1 = 0
    · have h2' : (r1 == 0) = true := by simpa using h2
      go_wp2_with fail
      refine CI2.out.mono ?_
      rintro _ w3 ⟨rfl, hb3⟩
      have HB3 := Lib.hid (below_keep HB2.out hb3)
      clear hb3
      go_wp2_with fail
      go_ret
      exact ⟨ret_bool (by rw [HR.out, if_pos h2]), HB3.out⟩
    · have h2' : (r1 == 0) = false := by simpa using h2
      go_wp2_with fail
      go_ret
      exact ⟨ret_bool (by rw [HR.out, if_neg h2]), HB2.out⟩
/-- Two sorted lists merged. -/
def mrg : List GRow → List GRow → List GRow
  | [], b => b
  | x :: a, [] => x :: a
  | x :: a, y :: b => if cmpRow y x < 0 then y :: mrg (x :: a) b else x :: mrg a (y :: b)
termination_by a b => a.length + b.length
theorem mrg_nil (a : List GRow) : mrg a [] = a := by cases a <;> simp [mrg]
theorem mrg_nil' (b : List GRow) : mrg [] b = b := by simp [mrg]
theorem mrg_lt {x y : GRow} (a b : List GRow) (h : cmpRow y x < 0) : mrg (x :: a) (y :: b) = y :: mrg (x :: a) b := by rw [mrg, if_pos h]
theorem mrg_ge {x y : GRow} (a b : List GRow) (h : ¬ cmpRow y x < 0) : mrg (x :: a) (y :: b) = x :: mrg a (y :: b) := by rw [mrg, if_neg h]
theorem mrg_perm (a b : List GRow) : (mrg a b).Perm (a ++ b) := by
  induction a, b using mrg.induct with
  | case1 b => rw [mrg_nil']; exact List.Perm.refl _
  | case2 x a => rw [mrg_nil, List.append_nil]
  | case3 x a y b h ih => rw [mrg_lt _ _ h]; exact (ih.cons y).trans List.perm_middle.symm
  | case4 x a y b h ih => rw [mrg_ge _ _ h]; exact ih.cons x
theorem cmpRow_trans {a b c : GRow} (h1 : cmpRow a b ≤ 0) (h2 : cmpRow b c ≤ 0) : cmpRow a c ≤ 0 := by
  have h := sgn_row a b c
  unfold Sgn3 at h
  omega
theorem mrg_sorted (a b : List GRow) (ha : a.Pairwise fun x y => cmpRow x y ≤ 0) (hb : b.Pairwise fun x y => cmpRow x y ≤ 0) : (mrg a b).Pairwise fun x y => cmpRow x y ≤ 0 := by
  induction a, b using mrg.induct with
  | case1 b => rw [mrg_nil']; exact hb
  | case2 x a => rw [mrg_nil]; exact ha
  | case3 x a y b h ih =>
    rw [mrg_lt _ _ h, List.pairwise_cons]
    refine ⟨fun z hz => ?_, ih ha (List.pairwise_cons.1 hb).2⟩
    rcases List.mem_append.1 ((mrg_perm _ _).mem_iff.1 hz) with hz | hz
    · rcases List.mem_cons.1 hz with rfl | hz
      · omega
      · exact cmpRow_trans (by omega) ((List.pairwise_cons.1 ha).1 z hz)
    · exact (List.pairwise_cons.1 hb).1 z hz
  | case4 x a y b h ih =>
    have hxy : cmpRow x y ≤ 0 := by have := cmpRow_swap x y; omega
    rw [mrg_ge _ _ h, List.pairwise_cons]
    refine ⟨fun z hz => ?_, ih (List.pairwise_cons.1 ha).2 hb⟩
    rcases List.mem_append.1 ((mrg_perm _ _).mem_iff.1 hz) with hz | hz
    · exact (List.pairwise_cons.1 ha).1 z hz
    · rcases List.mem_cons.1 hz with rfl | hz
      · exact hxy
      · exact cmpRow_trans hxy ((List.pairwise_cons.1 hb).1 z hz)
theorem mrg_sort (l : List GRow) (k : Nat) : mrg (sortR (l.take k)) (sortR (l.drop k)) = sortR l := by
  refine sortR_unique ((mrg_perm _ _).trans ?_) ((mrg_sorted _ _ (sortR_pairwise _) (sortR_pairwise _)).imp (by intro a b h; have := cmpRow_swap a b; omega))
  exact ((sortR_perm _).append (sortR_perm _)).trans (by rw [List.take_append_drop])
theorem sortR_short {l : List GRow} (h : l.length < 2) : sortR l = l := by
  refine (sortR_unique (List.Perm.refl _) ?_).symm
  match l, h with
  | [], _ => exact List.Pairwise.nil
  | [x], _ => exact List.pairwise_singleton _ _
theorem mrg_length (a b : List GRow) : (mrg a b).length = a.length + b.length := by rw [(mrg_perm a b).length_eq, List.length_append]
end Go.Proofs.YtfmbbfidjcgeiaaGreat

namespace Go.Proofs.YtfmbbfidjcgeiaaGreat
open Go.RowKit Go.Lib

section
variable {P : Program} {α : Type}
theorem Sl.toD {E : El P α} {D : Nat → Prop} {w : World} {v : Value} {l : List α} (h : Sl E w D v l) : Sl (E.avoid D) w Go.Proofs.YtfmbbfidjcgeiaaGreat.free v l := by
  obtain ⟨h1, a, c, h2, h3, h4⟩ := h
  refine ⟨h1, a, c, h2, h3, fun hn => ?_⟩
  obtain ⟨b, o, h5, _, h6⟩ := h4 hn
  refine ⟨b, o, h5, id, fun i x hx => ?_⟩
  obtain ⟨cs, h7, h8⟩ := h6 i x hx
  exact ⟨cs, E.mono h7 (fun k _ hk => hk.resolve_left id), h8⟩
/-- A row of the call's own lies in no elder block. -/
theorem Own.slD {E : El P α} {D : Nat → Prop} {w : World} {B : Nat} {v : Value} {l : List α} (h : Own (E.avoid D) w B v l) (hD : ∀ k, D k → k < B) : Sl E w D v l := by
  have hlt := h.lt
  obtain ⟨h1, a, c, rfl, h3, h4⟩ := h.sl
  refine ⟨h1, a, c, rfl, h3, fun hn => ?_⟩
  obtain ⟨b, o, rfl, _, h6⟩ := h4 hn
  refine ⟨b, o, rfl, fun hd => ?_, fun i x hx => ?_⟩
  · have := (hlt b rfl).1
    have := hD b hd
    omega
  · obtain ⟨cs, h7, h8⟩ := h6 i x hx
    exact ⟨cs, E.mono h7 (fun k _ hk => .inr hk), h8⟩
theorem Sl.forget {E : El P α} {D G : Nat → Prop} {w : World} {v : Value} {l : List α} (h : Sl (E.avoid D) w G v l) : Sl E w G v l := by
  obtain ⟨h1, a, c, h2, h3, h4⟩ := h
  refine ⟨h1, a, c, h2, h3, fun hn => ?_⟩
  obtain ⟨b, o, h5, hg, h6⟩ := h4 hn
  refine ⟨b, o, h5, hg, fun i x hx => ?_⟩
  obtain ⟨cs, h7, h8⟩ := h6 i x hx
  exact ⟨cs, E.mono h7 (fun k _ hk => .inl hk), h8⟩
theorem RetOwn.forget {E : El P α} {D : Nat → Prop} {w : World} {l : List α} {e : Ending} {w' : World} (h : RetOwn (E.avoid D) w l e w') : RetOwn E w l e w' := by
  obtain ⟨v, rfl, ho, hb⟩ := h
  exact ⟨v, rfl, ho.forget, hb⟩
end
theorem rowsD_at {D : Nat → Prop} {w : World} {G : Nat → Prop} {a : Option Addr} {n c k : Nat} {l : List GRow} {x : GRow} (h : Sl (rowE.avoid D) w G (.slice a n c) l) (hk : l[k]? = some x) :
    ∃ b o a1 n1 e1 m1, a = some ⟨b, o, none⟩ ∧ Sl valE w (fun k => G k ∨ D k) (.slice a1 x.vals.length n1) x.vals ∧ Sl intE w (fun k => G k ∨ D k) (.slice e1 x.lin.length m1) x.lin ∧
      w.cell? ⟨b, o + k * 2, none⟩ = some (.slice a1 x.vals.length n1) ∧ w.cell? ⟨b, o + k * 2 + 1, none⟩ = some (.slice e1 x.lin.length m1) := by
  obtain ⟨b, o, cs, ha, ⟨v, u, rfl, hv, hu⟩, hc⟩ := Sl.at h hk
  obtain ⟨a1, n1, rfl⟩ := hv.shape
  obtain ⟨e1, m1, rfl⟩ := hu.shape
  exact ⟨b, o, a1, n1, e1, m1, ha, hv, hu, hc 0 _ rfl, hc 1 _ rfl⟩
theorem tupsD_at {D : Nat → Prop} {w : World} {G : Nat → Prop} {a : Option Addr} {n c k : Nat} {l : List Tup} {x : Tup} (h : Sl (tupE.avoid D) w G (.slice a n c) l) (hk : l[k]? = some x) :
    ∃ b o a1 n1 e1 m1, a = some ⟨b, o, none⟩ ∧ Sl valE w (fun k => G k ∨ D k) (.slice a1 x.vals.length n1) x.vals ∧ Sl intE w (fun k => G k ∨ D k) (.slice e1 x.lin.length m1) x.lin ∧
      w.cell? ⟨b, o + k * 4, none⟩ = some (.slice a1 x.vals.length n1) ∧ w.cell? ⟨b, o + k * 4 + 1, none⟩ = some (.int .i64 x.lo) ∧ w.cell? ⟨b, o + k * 4 + 2, none⟩ = some (.int .i64 x.hi) ∧ w.cell? ⟨b, o + k * 4 + 3, none⟩ = some (.slice e1 x.lin.length m1) := by
  obtain ⟨b, o, cs, ha, ⟨v, u, rfl, hv, hu⟩, hc⟩ := Sl.at h hk
  obtain ⟨a1, n1, rfl⟩ := hv.shape
  obtain ⟨e1, m1, rfl⟩ := hu.shape
  exact ⟨b, o, a1, n1, e1, m1, ha, hv, hu, hc 0 _ rfl, hc 1 _ rfl, hc 2 _ rfl, hc 3 _ rfl⟩
end Go.Proofs.YtfmbbfidjcgeiaaGreat

namespace Go.Proofs.YtfmbbfidjcgeiaaGreat
open Go.RowKit Go.Lib

set_option maxHeartbeats 8000000 in
set_option maxRecDepth 100000 in
theorem refSort_g {D : Nat → Prop} (n : Nat) : n ≤ 100000 → ∀ (v : Value) (l : List GRow) (w : World), l.length = n → Sl (rowE.avoid D) w free v l → Calls Tryz.prog 33 #[v] w (RetOwn (rowE.avoid D) w (sortR l)) := by
  induction n using Nat.strongRecOn with
  | ind n ih =>
    intro hn v l w hl hv
    obtain ⟨a, c, rfl⟩ := hv.shape
    rw [hl] at hv ⊢
    have HV := Lib.hid hv
    have HN := Lib.hid hl
    by_cases h2 : n < 2
    · have HS : Hid (sortR l = l) := Lib.hid (sortR_short (by omega))
      have g2 : (n : Int) < 2 := by omega
      clear hv hl ih
      go_enter Tryz.func33, Tryz.ntmps33
      go_wp2_with (at_builtin; refine wpList_join rfl (.const (.slice none 0 0)) (.tmp 11) 48 rfl (rowE.avoid D) Tryz.underlying48 w.heap.size (.slice none 0 0) (.slice a n c) [] l rfl rfl (Own.nil _ _ _) (HV.out.mono (fun _ _ h => by simp [Value.ownBlock] at h)) (by have := HN.out; unfold maxLen; simp; omega) (by have := HN.out; show _ * 48 ≤ _; simp; omega) (Nat.le_refl _) n (by have := HN.out; simp; omega) ?_; intro a' c' w' hJ)
      go_ret
      exact ⟨_, rfl, by rw [HS.out]; simpa using hJ.own, hJ.below⟩
    · obtain ⟨k, hk⟩ : ∃ k, k = n / 2 := ⟨_, rfl⟩
      have hcap := hv.cap
      obtain ⟨b, o, rfl⟩ : ∃ b o, a = some ⟨b, o, none⟩ := by
        obtain ⟨b, o, cs, e, _⟩ := Sl.at hv (List.getElem?_eq_getElem (show 0 < l.length by omega))
        exact ⟨b, o, e⟩
      have CA : ∀ W, Below w.heap.size w W → Hid (Calls Tryz.prog 33 #[.slice (some ⟨b, o, none⟩) k c] W (RetOwn (rowE.avoid D) W (sortR (l.take k)))) := fun W hW => ih k (by omega) (by omega) _ _ W (by rw [List.length_take]; omega) ((hv.below hW).takeS (by omega))
      have CB : ∀ W, Below w.heap.size w W → Hid (Calls Tryz.prog 33 #[.slice (some ⟨b, o + k * 2, none⟩) (n - k) (c - k)] W (RetOwn (rowE.avoid D) W (sortR (l.drop k)))) := fun W hW => by
        have h := (hv.below hW).dropS (k := k) (by omega)
        rw [show k * (rowE.avoid D).size = k * 2 from rfl, Option.map_some, Addr.add_lit] at h
        exact ih (n - k) (by omega) (by omega) _ _ W (by rw [List.length_drop]; omega) h
      have HM : Hid (mrg (sortR (l.take k)) (sortR (l.drop k)) = sortR l) := Lib.hid (mrg_sort l k)
      have hA : (sortR (l.take k)).length = k := by rw [sortR_length, List.length_take]; omega
      have hB : (sortR (l.drop k)).length = n - k := by rw [sortR_length, List.length_drop]; omega
      generalize sortR (l.take k) = A at CA HM hA
      generalize sortR (l.drop k) = B at CB HM hB
      generalize sortR l = R at HM ⊢
      obtain ⟨m, hm⟩ : ∃ m, m = n - k := ⟨_, rfl⟩
      rw [← hm] at hB
      have HA := Lib.hid hA
      have HB := Lib.hid hB
      have g2 : ¬ (n : Int) < 2 := by omega
      have gk : (n : Int) / 2 = k := by omega
      have gk2 : Int.tdiv (n : Int) 2 = k := by rw [Int.tdiv_eq_ediv_of_nonneg (by omega)]; omega
      have gk3 : (n : Int) - k = m := by omega
      have gc1 : (k : Int) ≤ c := by omega
      have gc2 : (n : Int) ≤ c := by omega
      have gc3 : (k : Int) ≤ n := by omega
      have gc4 : (0 : Int) ≤ (k : Int) := by omega
      have gk0 : n / 2 = k := hk.symm
      have gn1 : k ≤ c := by omega
      have gw : IntKind.i64.wrap (k : Int) = k := IntWalk.i64_in _ (by omega)
      have gn2 : k ≤ n := by omega
      have gck : ¬ c = k := by omega
      have CA' := Lib.hid CA
      have CB' := Lib.hid CB
      have hbb : Below w.heap.size w w := .refl _ _
      have HMK : Hid (n = k + m) := by show _ = _; omega
      clear hv hl ih CA CB hA hB hk hm
      go_enter Tryz.func33, Tryz.ntmps33
      go_wp2_with fail
      go_region_held3 (fun W => Below w.heap.size w W)
        (first | with_reducible assumption | with_reducible exact Below.drew (by assumption) | with_reducible exact below_keep (by assumption) (by assumption))
        (first
          | (go_at_call 33; (with_reducible refine (CA'.out _ (by first | assumption | exact Below.drew (by assumption))).out.mono ?_); rintro e' wA ⟨va, rfl, hOa, hbA⟩; have hSa := hOa.sl)
          | (go_at_call 33; (with_reducible refine (CB'.out _ (by first | assumption | exact Below.drew (by assumption))).out.mono ?_); rintro e' wB ⟨vb, rfl, hOb, hbB⟩; have hSb := hOb.sl; have hSa' := hSa.below hbB))
      all_goals (
        have HBB : Hid (Below w.heap.size w wB) := Lib.hid (by assumption)
        obtain ⟨aa, ca, rfl⟩ := hOa.shape
        obtain ⟨ab, cb, rfl⟩ := hOb.shape
        rw [HA.out] at hSa' ⊢
        rw [HB.out] at hSb ⊢
        have HSA := Lib.hid hSa'
        have HSB := Lib.hid hSb
        clear hOa hbA hSa hOb hbB hSb hSa' CA' CB' hbb gk gk0 gk2 gk3 gc1 gc2 gc3 gc4 gn1 gn2 gw gck g2 hcap
        go_wp2_with fail
        go_loopw [5, 6, 7] (fun s5 s6 s7 wr => ∃ (i j : Nat) (acc : List GRow), i ≤ k ∧ j ≤ m ∧ s6 = .int .i64 i ∧ s7 = .int .i64 j ∧ Own (rowE.avoid D) wr wB.heap.size s5 acc ∧ Hid (acc ++ mrg (A.drop i) (B.drop j) = R) ∧ Hid (Below wB.heap.size wB wr)) (fun _ s6 s7 _ => (k + m) - ((intOf s6).toNat + (intOf s7).toNat))
        case atStart => exact ⟨0, 0, [], Nat.zero_le _, Nat.zero_le _, rfl, rfl, Own.nil _ _ _, Lib.hid (by rw [List.drop_zero, List.drop_zero, List.nil_append]; exact HM.out), Lib.hid (.refl _ _)⟩
        case round =>
          obtain ⟨i, j, acc, hi, hj, rfl, rfl, hO, HACC, HB2⟩ := hrel
          obtain ⟨wo, rfl⟩ : ∃ wo : World, wo = wr := ⟨_, rfl⟩
          obtain ⟨ao, co, rfl⟩ := hO.shape
          have hal : acc.length + (k - i) + (m - j) = n := by
            have h1 := congrArg List.length HACC.out
            have h2 := congrArg List.length HM.out
            rw [List.length_append, mrg_length, List.length_drop, List.length_drop, HA.out, HB.out] at h1
            rw [mrg_length, HA.out, HB.out, ← h1] at h2
            have := HMK.out
            omega
          have hij1 : i ≤ 100000 := by have := HMK.out; omega
          have hij2 : j ≤ 100000 := by have := HMK.out; omega
          have HO := Lib.hid hO
          clear hO
          by_cases hik : i < k
          · obtain ⟨x, hx⟩ := lget_some A i (by rw [HA.out]; exact hik)
            obtain ⟨bx, ox, a1, n1, e1, m1, rfl, hv1, hu1, p0, p1⟩ := rowsD_at (HSA.out.old (Nat.le_refl _)) hx
            replace p0 := cell_keep HB2.out p0
            replace p1 := cell_keep HB2.out p1
            have HV1 := Lib.hid hv1
            have HU1 := Lib.hid hu1
            have HX := Lib.hid hx
            clear hv1 hu1
            obtain ⟨T, hT⟩ : ∃ T : Bool → Prop, T = fun q => if q = true then (acc ++ [x]) ++ mrg (A.drop (i + 1)) (B.drop j) = R else ∃ y, B[j]? = some y ∧ (acc ++ [y]) ++ mrg (A.drop i) (B.drop (j + 1)) = R := ⟨_, rfl⟩
            have HT := Lib.hid hT
            clear hT
            go_upto_region 7 with fail
            go_cut [56] from 35 to 56 (fun s56 wx => ∃ q : Bool, s56 = .bool q ∧ Hid (T q) ∧ Hid (Below wo.heap.size wo wx))
            case first =>
              by_cases hjm : j < m
              · obtain ⟨y, hy⟩ := lget_some B j (by rw [HB.out]; exact hjm)
                obtain ⟨yb, oy, a2, n2, e2, m2, rfl, hv2, hu2, q0, q1⟩ := rowsD_at (HSB.out.below HB2.out) hy
                have hv1 := HV1.out.below HB2.out
                have hu1 := HU1.out.below HB2.out
                have HLS := fun W (h : Below wo.heap.size wo W) => Lib.hid (less_any y x _ _ _ _ W (hv2.below h).free (hu2.below h).free (hv1.below h).free (hu1.below h).free)
                have HQ : Hid (T (!decide (cmpRow y x < 0))) := by
                  show T _
                  rw [HT.out]
                  by_cases hc : cmpRow y x < 0
                  · simp only [hc, decide_true, Bool.not_true, Bool.false_eq_true, if_false]
                    refine ⟨y, hy, ?_⟩
                    rw [← HACC.out, drop_get hx, drop_get hy, mrg_lt _ _ hc, List.append_assoc]
                    rfl
                  · simp only [hc, decide_false, Bool.not_false, if_true]
                    rw [← HACC.out, drop_get hx, drop_get hy, mrg_ge _ _ hc, List.append_assoc]
                    rfl
                obtain ⟨z, hz⟩ : ∃ z, z = decide (cmpRow y x < 0) := ⟨_, rfl⟩
                rw [← hz] at HLS HQ
                have hne : ((j : Int) == (m : Int)) = false := by rw [beq_eq_false_iff_ne]; omega
                have hbo : Below wo.heap.size wo wo := .refl _ _
                have hik' : (i : Int) < k := by omega
                have hjm' : (j : Int) < m := by omega
                clear hx hy hv1 hu1 hv2 hu2 hz
                go_region_held3 (fun W => Below wo.heap.size wo W ∧ W.cell? ⟨bx, ox + i * 2, none⟩ = some (.slice a1 x.vals.length n1) ∧ W.cell? ⟨bx, ox + i * 2 + 1, none⟩ = some (.slice e1 x.lin.length m1) ∧ W.cell? ⟨yb, oy + j * 2, none⟩ = some (.slice a2 y.vals.length n2) ∧ W.cell? ⟨yb, oy + j * 2 + 1, none⟩ = some (.slice e2 y.lin.length m2))
                  ((go_split_ands; refine ⟨?_, ?_, ?_, ?_, ?_⟩ <;> (first | with_reducible assumption | with_reducible exact Below.drew (by assumption) | with_reducible exact cell_drew (by assumption) | with_reducible exact cell_keep (by assumption) (by assumption) | with_reducible exact below_keep (by assumption) (by assumption))))
                  (first | (go_at_call 59; go_split_ands; refine (HLS _ (by first | assumption | exact Below.drew (by assumption))).out.mono ?_; rintro e' wS ⟨rfl, hbS⟩))
                all_goals (
                  go_split_ands
                  go_wp2_with fail
                  go_meet
                  exact ⟨_, rfl, HQ, Lib.hid (by assumption)⟩)
              · have hjm' : j = m := by omega
                subst hjm'
                have HQ : Hid (T true) := by
                  show T _
                  rw [HT.out]
                  show (if true = true then _ else _)
                  rw [if_pos rfl, ← HACC.out, List.drop_of_length_le (l := B) (by rw [HB.out]; exact Nat.le_refl _), mrg_nil, mrg_nil, drop_get hx, List.append_assoc]
                  rfl
                go_region
                all_goals (
                  go_wp2_with fail
                  go_meet
                  first
                    | exact ⟨_, rfl, HQ, Lib.hid (.refl _ _)⟩
                    | exact ⟨_, rfl, HQ, Lib.hid (Below.refl _ _).drew⟩
                    | exact ⟨_, rfl, HQ, Lib.hid (below_drewN (Below.refl _ _) _)⟩)
            case rest =>
              obtain ⟨q, rfl, HTQ, HBW⟩ := hcut
              have HOX := Lib.hid (HO.out.below HBW.out)
              have HBX : Hid (Below wB.heap.size wB wc) := Lib.hid (HB2.out.trans (HBW.out.mono HB2.out.size))
              cases q
              · have hT := HTQ.out
                rw [HT.out] at hT
                replace hT : ∃ y, B[j]? = some y ∧ (acc ++ [y]) ++ mrg (A.drop i) (B.drop (j + 1)) = R := hT
                obtain ⟨y, hy, hnx⟩ := hT
                have HNX := Lib.hid hnx
                clear hnx hx p0 p1 HV1 HU1 HX HTQ HT
                obtain ⟨yb, oy, a2, n2, e2, m2, rfl, hv2, hu2, q0, q1⟩ := rowsD_at (HSB.out.old (Nat.le_refl _)) hy
                replace q0 := cell_keep HBX.out q0
                replace q1 := cell_keep HBX.out q1
                have hjm : (j : Int) < m := by have := (List.getElem?_eq_some_iff.1 hy).1; rw [HB.out] at this; omega
                have hjm2 : j < m := by omega
                have HIS : Hid (Els (rowE.avoid D) wc (fun jj => some jj = (Value.slice ao acc.length co).ownBlock) [y] [.slice a2 y.vals.length n2, .slice e2 y.lin.length m2]) := Lib.hid (Els.one ⟨_, _, rfl, (hv2.below HBX.out).mono (fun jj _ hh => hh.imp (fun hh => (HOX.out.lt jj hh.symm).1) id), (hu2.below HBX.out).mono (fun jj _ hh => hh.imp (fun hh => (HOX.out.lt jj hh.symm).1) id)⟩)
                clear hv2 hu2 hy
                go_wp2_with (at_builtin; refine wpList_push rfl (.tmp 66) (.tmp 71) 48 rfl (rowE.avoid D) Tryz.underlying48 wB.heap.size (.slice ao acc.length co) acc rfl HOX.out [y] #[.slice a2 y.vals.length n2, .slice e2 y.lin.length m2] HIS.out 1 1 rfl rfl (by decide) (by unfold maxLen; omega) (by show _ * 48 ≤ _; omega) HBX.out.size ?_; intro g cap w5 hP hPa)
                go_roundw
                case rel => exact ⟨i, j + 1, acc ++ [y], by omega, by omega, rfl, by go_num, hP.own' (by simp), HNX, Lib.hid (HBX.out.trans hP.below)⟩
                case measure => simp [intOf]; omega
              · have hT := HTQ.out
                rw [HT.out] at hT
                replace hT : (acc ++ [x]) ++ mrg (A.drop (i + 1)) (B.drop j) = R := hT
                have HNX := Lib.hid hT
                replace p0 := cell_keep HBW.out p0
                replace p1 := cell_keep HBW.out p1
                have hik' : (i : Int) < k := by omega
                have HIS : Hid (Els (rowE.avoid D) wc (fun jj => some jj = (Value.slice ao acc.length co).ownBlock) [x] [.slice a1 x.vals.length n1, .slice e1 x.lin.length m1]) := Lib.hid (Els.one ⟨_, _, rfl, (HV1.out.below HBX.out).mono (fun jj _ hh => hh.imp (fun hh => (HOX.out.lt jj hh.symm).1) id), (HU1.out.below HBX.out).mono (fun jj _ hh => hh.imp (fun hh => (HOX.out.lt jj hh.symm).1) id)⟩)
                clear hT hx HX HTQ HT
                go_wp2_with (at_builtin; refine wpList_push rfl (.tmp 57) (.tmp 62) 48 rfl (rowE.avoid D) Tryz.underlying48 wB.heap.size (.slice ao acc.length co) acc rfl HOX.out [x] #[.slice a1 x.vals.length n1, .slice e1 x.lin.length m1] HIS.out 1 1 rfl rfl (by decide) (by unfold maxLen; omega) (by show _ * 48 ≤ _; omega) HBX.out.size ?_; intro g cap w5 hP hPa)
                go_roundw
                case rel => exact ⟨i + 1, j, acc ++ [x], by omega, hj, by go_num, rfl, hP.own' (by simp), HNX, Lib.hid (HBX.out.trans hP.below)⟩
                case measure => simp [intOf]; omega
          · have hik0 : i = k := by omega
            subst hik0
            by_cases hjm0 : j < m
            · obtain ⟨y, hy⟩ := lget_some B j (by rw [HB.out]; exact hjm0)
              have HNX : Hid ((acc ++ [y]) ++ mrg (A.drop i) (B.drop (j + 1)) = R) := by
                show _ = _
                rw [← HACC.out, List.drop_of_length_le (l := A) (by rw [HA.out]; exact Nat.le_refl _), mrg_nil', mrg_nil', drop_get hy, List.append_assoc]
                rfl
              have hne : ((j : Int) == (m : Int)) = false := by rw [beq_eq_false_iff_ne]; omega
              have hjm1 : (j : Int) < m := by omega
              go_upto_region 7 with fail
              go_cut [56] from 35 to 56 (fun s56 wx => s56 = .bool false ∧ Hid (Below wo.heap.size wo wx))
              case first =>
                go_region
                all_goals (
                  go_wp2_with fail
                  go_meet
                  first
                    | exact ⟨rfl, Lib.hid (.refl _ _)⟩
                    | exact ⟨rfl, Lib.hid (Below.refl _ _).drew⟩
                    | exact ⟨rfl, Lib.hid (below_drewN (Below.refl _ _) _)⟩)
              case rest =>
                obtain ⟨rfl, HBW⟩ := hcut
                have HOX := Lib.hid (HO.out.below HBW.out)
                have HBX : Hid (Below wB.heap.size wB wc) := Lib.hid (HB2.out.trans (HBW.out.mono HB2.out.size))
                obtain ⟨yb, oy, a2, n2, e2, m2, rfl, hv2, hu2, q0, q1⟩ := rowsD_at (HSB.out.old (Nat.le_refl _)) hy
                replace q0 := cell_keep HBX.out q0
                replace q1 := cell_keep HBX.out q1
                have hjm : (j : Int) < m := by have := (List.getElem?_eq_some_iff.1 hy).1; rw [HB.out] at this; omega
                have hjm2 : j < m := by omega
                have HIS : Hid (Els (rowE.avoid D) wc (fun jj => some jj = (Value.slice ao acc.length co).ownBlock) [y] [.slice a2 y.vals.length n2, .slice e2 y.lin.length m2]) := Lib.hid (Els.one ⟨_, _, rfl, (hv2.below HBX.out).mono (fun jj _ hh => hh.imp (fun hh => (HOX.out.lt jj hh.symm).1) id), (hu2.below HBX.out).mono (fun jj _ hh => hh.imp (fun hh => (HOX.out.lt jj hh.symm).1) id)⟩)
                clear hv2 hu2 hy
                go_wp2_with (at_builtin; refine wpList_push rfl (.tmp 66) (.tmp 71) 48 rfl (rowE.avoid D) Tryz.underlying48 wB.heap.size (.slice ao acc.length co) acc rfl HOX.out [y] #[.slice a2 y.vals.length n2, .slice e2 y.lin.length m2] HIS.out 1 1 rfl rfl (by decide) (by unfold maxLen; omega) (by show _ * 48 ≤ _; omega) HBX.out.size ?_; intro g cap w5 hP hPa)
                go_roundw
                case rel => exact ⟨i, j + 1, acc ++ [y], by omega, by omega, rfl, by go_num, hP.own' (by simp), HNX, Lib.hid (HBX.out.trans hP.below)⟩
                case measure => simp [intOf]; omega
            · have hjm1 : j = m := by omega
              subst hjm1
              have HE : Hid (acc = R) := by
                show _ = _
                rw [← HACC.out, List.drop_of_length_le (l := A) (by rw [HA.out]; exact Nat.le_refl _), List.drop_of_length_le (l := B) (by rw [HB.out]; exact Nat.le_refl _), mrg_nil', List.append_nil]
              go_wp2_with fail
              go_ret
              exact ⟨_, rfl, HE.out ▸ HO.out.mono HBB.out.size, HBB.out.trans (HB2.out.mono HBB.out.size)⟩)
theorem refSort_all (n : Nat) (hn : n ≤ 100000) (v : Value) (l : List GRow) (w : World) (hl : l.length = n) (hv : Sl rowE w free v l) : Calls Tryz.prog 33 #[v] w (RetOwn rowE w (sortR l)) :=
  (refSort_g n hn v l w hl hv.toD).mono fun _ _ h => h.forget
end Go.Proofs.YtfmbbfidjcgeiaaGreat

namespace Go.Proofs.YtfmbbfidjcgeiaaGreat
open Go.RowKit Go.Lib Go.Maps Go.Shelf

theorem requal_any (v u : Value) (a b : List GRow) (w : World) (hv : Sl rowE w free v a) (hu : Sl rowE w free u b) (ha : a.length ≤ 100000) (hb : b.length ≤ 100000) (hp : a.Perm b) :
    Calls Tryz.prog 17 #[v, u] w fun e w' => e = .returned (.bool true) ∧ Below w.heap.size w w' := by
  have H1 := Lib.hid (refSort_all a.length ha v a w rfl hv)
  have HB := Lib.hid hu
  have HSP : Hid (sortR a = sortR b) := Lib.hid (sortR_congr hp)
  go_enter Tryz.func17, Tryz.ntmps17
  go_wp2_with fail
  refine H1.out.mono ?_
  rintro _ w1 ⟨v1, rfl, hO1, hb1⟩
  have HO1 := Lib.hid hO1.sl
  have HB1 := Lib.hid hb1
  have H2 := Lib.hid (refSort_all b.length hb u b w1 rfl (HB.out.below hb1))
  clear hO1 hb1 H1
  go_wp2_with fail
  refine H2.out.mono ?_
  rintro _ w2 ⟨v2, rfl, hO2, hb2⟩
  have HB2 := Lib.hid (below_keep HB1.out hb2)
  have h1 := HO1.out.below hb2
  rw [HSP.out] at h1
  have H3 := Lib.hid (sameRows_eq _ _ (sortR b) w2 h1 hO2.sl)
  clear hO2 hb2 h1 H2
  go_wp2_with fail
  refine H3.out.mono ?_
  rintro _ w3 ⟨rfl, hb3⟩
  have HB3 := Lib.hid (below_keep HB2.out hb3)
  clear hb3
  go_wp2_with fail
  go_ret
  exact ⟨rfl, HB3.out⟩
/-- The value of a constant that was pushed behind an expression. -/
theorem eval_pushed (ex : List GExp) (g : GVal) (r : List GVal) : evalG (ex ++ [(⟨1, 0, 0, 0, g⟩ : GExp)]) (ex.length : Int) r = g := by
  unfold evalG
  rw [if_neg (by rw [List.length_append, List.length_singleton]; omega), Int.toNat_natCast]
  show (vals _ r ex.length ++ [_]).getD ex.length gnull = g
  have h : (vals (ex ++ [(⟨1, 0, 0, 0, g⟩ : GExp)]) r ex.length).length = ex.length := vals_length _ _ _
  have hd : (ex ++ [(⟨1, 0, 0, 0, g⟩ : GExp)]).getD ex.length gx0 = ⟨1, 0, 0, 0, g⟩ := by
    simp [List.getD]
  rw [hd]
  simp only [List.getD]
  rw [List.getElem?_append_right (by omega), h, Nat.sub_self]
  show xev ⟨1, 0, 0, 0, g⟩ ex.length r _ = g
  unfold xev
  rw [if_neg (by simp [legalX, arity])]
  rfl
theorem asg_pushed (ex : List GExp) (g x y : GVal) : asgV (ex ++ [(⟨1, 0, 0, 0, g⟩ : GExp)]) [⟨0, (ex.length : Int)⟩] [x, y] = [g, y] := by
  unfold asgV asg1
  simp only [List.foldl_cons, List.foldl_nil]
  rw [if_pos (by simp), eval_pushed]
  rfl
/-- The rows that the law meets: two small values. -/
def RowOk (r : List GVal) : Prop := ∃ g h, r = [g, h] ∧ (In64 g.kind ∧ In64 g.n ∧ g.s.size ≤ 10) ∧ (In64 h.kind ∧ In64 h.n ∧ h.s.size ≤ 10)
theorem RowOk.num {r : List GVal} (h : RowOk r) : ∀ g ∈ r, In64 g.n := by
  obtain ⟨x, y, rfl, hx, hy⟩ := h
  intro g hg
  simp at hg
  rcases hg with rfl | rfl
  · exact hx.2.1
  · exact hy.2.1
theorem gval_small (x y : Nat) : ∀ g ∈ [gval0 x, gval1 y], In64 g.kind ∧ In64 g.n ∧ g.s.size ≤ 10 := by
  intro g hg
  simp at hg
  rcases hg with rfl | rfl
  · unfold gval0
    split
    · exact ⟨by decide, by decide, by decide⟩
    · refine ⟨(by show In64 1; decide), ?_, (by show (ByteArray.mk #[]).size ≤ 10; decide)⟩
      unfold gint In64
      dsimp only
      omega
  · unfold gval1
    split
    · exact ⟨by decide, by decide, by decide⟩
    · refine ⟨(by show In64 2; decide), (by show In64 0; decide), ?_⟩
      have : (gtext y).size ≤ 2 := by
        unfold gtext
        split <;> (try split) <;> decide
      show (gtext y).size ≤ 10
      omega
theorem rowOk_cur {xs : List U6} : ∀ v ∈ curL xs, RowOk v.vals := by
  intro v hv
  obtain ⟨i, x, hi, rfl⟩ := curL_mem hv
  have hs := gval_small x.x2 x.x3
  exact ⟨gval0 x.x2, gval1 x.x3, rfl, hs _ (by simp), hs _ (by simp)⟩
theorem chgR_len (e : List GExp) (pred : Int) (chg : Option (List GVal → List GVal)) (l : List GRow) : (l.flatMap (chgR e pred chg)).length ≤ l.length := by
  induction l with
  | nil => simp
  | cons r l ih =>
    rw [List.flatMap_cons, List.length_append, List.length_cons]
    have : (chgR e pred chg r).length ≤ 1 := by
      unfold chgR
      split
      · split <;> simp
      · simp
    omega
theorem box_set0 {w : World} {g : Nat} {x y z : Value} {e : TypeId} (h : w.heap[g]? = some (.cells #[x, y] e (0, 0))) : (w.setCell ⟨g, 0, none⟩ z).heap[g]? = some (.cells #[z, y] e (0, 0)) := by
  simp [World.setCell, Array.getElem?_modify, h]
def chgOf : Bool → (List GVal → List GVal) → Option (List GVal → List GVal)
  | true, _ => none
  | false, f => some f
set_option maxHeartbeats 16000000 in
set_option maxRecDepth 100000 in
theorem in_walk (v : Value) (l : List U6) (c1 c2 x0 x1 x2 x3 t : Nat) (rm : Bool) (w : World) (hv : Sl u6E w free v l) (hok : ∀ x ∈ l, x.ok) (h1 : c1 < 65536) (h2 : c2 < 65536) (g0 : x0 < 65536) (g1 : x1 < 65536) (g2 : x2 < 65536) (g3 : x3 < 65536) (ht : t < 65536) :
    Calls Tryz.prog 3 #[v, .int .u16 (c1 : Int), .int .u16 (c2 : Int), .agg #[.int .u16 (x0 : Int), .int .u16 (x1 : Int), .int .u16 (x2 : Int), .int .u16 (x3 : Int)], .bool rm, .int .u16 (t : Int)] w fun e' w' => e' = .returned (.bool true) ∧ Below w.heap.size w w' := by
  have CP := fun W => Lib.hid (period_any c1 c2 h1 h2 W)
  obtain ⟨plo, hplo⟩ : ∃ q, q = (gper c1 c2).1 := ⟨_, rfl⟩
  obtain ⟨phi, hphi⟩ : ∃ q, q = (gper c1 c2).2 := ⟨_, rfl⟩
  rw [← hplo, ← hphi] at CP
  have HPI : Hid (0 ≤ plo ∧ plo < phi ∧ phi ≤ 1000000) := by
    have := gper_ok c1 c2
    rw [← hplo, ← hphi] at this
    exact ⟨this.1, this.2.2.1, this.2.2.2⟩
  have hb0 := below_alloc w (.cells #[.int .u16 (x0 : Int), .int .u16 (x1 : Int), .int .u16 (x2 : Int), .int .u16 (x3 : Int)] 24)
  have CC := Lib.hid (curV_any v l _ (hv.below hb0) hok)
  obtain ⟨xs, hxs⟩ : ∃ xs, xs = l.take 10 := ⟨_, rfl⟩
  rw [← hxs] at CC
  have hx10 : xs.length ≤ 10 := by rw [hxs, List.length_take]; omega
  have HX10 := Lib.hid hx10
  have hbx := World.alloc_heap_new w (.cells #[.int .u16 (x0 : Int), .int .u16 (x1 : Int), .int .u16 (x2 : Int), .int .u16 (x3 : Int)] 24)
  have HB0 := Lib.hid hb0
  have HBX := Lib.hid hbx
  obtain ⟨hp0, hp1, hp2⟩ := HPI.out
  obtain ⟨dl, hdl⟩ : ∃ q : Nat, (q : Int) = min (phi - plo) 20 := ⟨(min (phi - plo) 20).toNat, by omega⟩
  have hdl0 : 0 < dl := by omega
  have hdl2 : dl ≤ 20 := by omega
  obtain ⟨tr, htr⟩ : ∃ q : Nat, q = t % dl := ⟨_, rfl⟩
  have htrl : tr < dl := by rw [htr]; exact Nat.mod_lt _ hdl0
  have HTR : Hid ((t : Int) % (dl : Int) = (tr : Int)) := Lib.hid (by omega)
  obtain ⟨day, hday⟩ : ∃ d : Int, d = plo + (tr : Int) := ⟨_, rfl⟩
  have HIN : Hid (plo ≤ day ∧ day < phi) := Lib.hid (by omega)
  have HDAY := Lib.hid hday.symm
  have HDL := Lib.hid hdl.symm
  have hwt : IntKind.i64.wrap (t : Int) = (t : Int) := IntWalk.i64_in _ (by omega)
  have hwr : IntKind.i64.wrap (tr : Int) = (tr : Int) := IntWalk.i64_in _ (by omega)
  have hmt : (t : Int).tmod (dl : Int) = (tr : Int) := by rw [Int.tmod_eq_emod_of_nonneg (by omega)]; exact HTR.out
  have hdz : ¬ (dl : Int) = 0 := by omega
  have hdn : ¬ dl = 0 := by omega
  have hw1 : IntKind.i64.wrap (phi - plo) = phi - plo := IntWalk.i64_in _ (by omega)
  have hw2 : IntKind.i64.wrap (plo + (tr : Int)) = plo + (tr : Int) := IntWalk.i64_in _ (by omega)
  clear hx10 hxs hv hok hplo hphi h1 h2 hb0 hbx hday hdl htr HPI
  go_enter Tryz.func3, Tryz.ntmps3
  go_wp2_with fail
  refine CC.out.mono ?_
  rintro _ w1 ⟨vl, rfl, hl, hb1⟩
  obtain ⟨L, hL⟩ : ∃ L, L = curL xs := ⟨_, rfl⟩
  rw [← hL] at hl
  have HL := Lib.hid hl.sl
  have HB1 := Lib.hid (HB0.out.trans (hb1.mono HB0.out.size))
  have HBX1 := Lib.hid (box_kept HBX.out hb1)
  have HLL := Lib.hid hL
  clear hl hb1 CC hL HB0 HBX
  go_wp2_with fail
  refine (CP _).out.mono ?_
  rintro _ w2 ⟨rfl, hb2⟩
  have HL2 := Lib.hid (HL.out.below hb2)
  have HB2 := Lib.hid (below_keep HB1.out hb2)
  have HBX2 := Lib.hid (box_kept HBX1.out hb2)
  clear hb2 HL HB1 CP HBX1
  have hgd := World.alloc_heap_new w2 (.cells #[.int .i64 plo, .int .i64 phi] 28)
  have hbd := below_alloc w2 (.cells #[.int .i64 plo, .int .i64 phi] 28)
  obtain ⟨w3, hw3⟩ : ∃ w3, w3 = w2.alloc (.cells #[.int .i64 plo, .int .i64 phi] 28) := ⟨_, rfl⟩
  rw [← hw3] at hgd hbd
  have HL3 := Lib.hid (HL2.out.below hbd)
  have HB3 := Lib.hid (below_keep HB2.out hbd)
  have hx3 := box_kept HBX2.out hbd
  obtain ⟨⟨b0, b1, b2, b3⟩, _, _, _, _⟩ := box_four hx3
  obtain ⟨d0, d1, _, _⟩ := box_two hgd
  have HW := Lib.hid hw3
  rw [hw3] at d0 d1 b0 b1 b2 b3
  clear hgd hbd HL2 HB2 hw3 hx3 HBX2
  go_upto_region 2 with fail
  rw [← HW.out] at d0 d1 b0 b1 b2 b3 ⊢
  clear HW
  refine wp_region_held_drew (S := fun W => Below w3.heap.size w3 W ∧ W.cell? ⟨w2.heap.size, 0, none⟩ = some (.int .i64 plo) ∧ W.cell? ⟨w2.heap.size, 1, none⟩ = some (.int .i64 phi)) (by kernel_rfl) ⟨(Below.refl _ _).drew, cell_drew d0, cell_drew d1⟩ (fun hHeld => ?_)
  refine take_y (i := 0) (d := some 29) (v := ?_) rfl rfl (by kernel_rfl) (by kernel_rfl) (by kernel_rfl) (fun _ _ _ h => h) (by assumption) ?_ ?_
  rotate_left
  · intro oi ho
    simp only [List.getElem?_toArray, List.getElem?_cons_succ, List.getElem?_cons_zero, Option.some.injEq] at ho
    subst ho
    intro w hSw
    obtain ⟨_, e0, e1⟩ := hSw
    go_simp
    (try with_reducible rfl)
  (try simp only [Act.put, List.setIfInBounds_toArray, List.set_cons_zero, List.set_cons_succ])
  refine take_y (i := 1) (d := some 30) (v := ?_) rfl rfl (by kernel_rfl) (by kernel_rfl) (by kernel_rfl) (fun _ _ _ h => h) (by assumption) ?_ ?_
  rotate_left
  · intro oi ho
    simp only [List.getElem?_toArray, List.getElem?_cons_succ, List.getElem?_cons_zero, Option.some.injEq] at ho
    subst ho
    intro w hSw
    obtain ⟨_, e0, e1⟩ := hSw
    go_simp
    (try with_reducible rfl)
  (try simp only [Act.put, List.setIfInBounds_toArray, List.set_cons_zero, List.set_cons_succ])
  refine take_y (i := 2) (d := some 31) (v := ?_) rfl rfl (by kernel_rfl) (by kernel_rfl) (by kernel_rfl) (fun _ _ _ h => h) (by assumption) ?_ ?_
  rotate_left
  · intro oi ho
    simp only [List.getElem?_toArray, List.getElem?_cons_succ, List.getElem?_cons_zero, Option.some.injEq] at ho
    subst ho
    intro w hSw
    obtain ⟨_, e0, e1⟩ := hSw
    go_simp
    (try with_reducible rfl)
  (try simp only [Act.put, List.setIfInBounds_toArray, List.set_cons_zero, List.set_cons_succ])
  refine take_y (i := 3) (d := some 32) (v := ?_) rfl rfl (by kernel_rfl) (by kernel_rfl) (by kernel_rfl) (fun _ _ _ h => h) (by assumption) ?_ ?_
  rotate_left
  · intro oi ho
    simp only [List.getElem?_toArray, List.getElem?_cons_succ, List.getElem?_cons_zero, Option.some.injEq] at ho
    subst ho
    intro w hSw
    obtain ⟨_, e0, e1⟩ := hSw
    go_simp
    (try with_reducible rfl)
  (try simp only [Act.put, List.setIfInBounds_toArray, List.set_cons_zero, List.set_cons_succ])
  refine take_y (i := 4) (d := some 33) (v := ?_) rfl rfl (by kernel_rfl) (by kernel_rfl) (by kernel_rfl) (fun _ _ _ h => h) (by assumption) ?_ ?_
  rotate_left
  · intro oi ho
    simp only [List.getElem?_toArray, List.getElem?_cons_succ, List.getElem?_cons_zero, Option.some.injEq] at ho
    subst ho
    intro w hSw
    obtain ⟨_, e0, e1⟩ := hSw
    go_simp
    (try with_reducible rfl)
  (try simp only [Act.put, List.setIfInBounds_toArray, List.set_cons_zero, List.set_cons_succ])
  refine take_y (i := 5) (d := some 34) (v := ?_) rfl rfl (by kernel_rfl) (by kernel_rfl) (by kernel_rfl) (fun _ _ _ h => h) (by assumption) ?_ ?_
  rotate_left
  · intro oi ho
    simp only [List.getElem?_toArray, List.getElem?_cons_succ, List.getElem?_cons_zero, Option.some.injEq] at ho
    subst ho
    intro w hSw
    obtain ⟨_, e0, e1⟩ := hSw
    go_simp
    (try with_reducible rfl)
  (try simp only [Act.put, List.setIfInBounds_toArray, List.set_cons_zero, List.set_cons_succ])
  refine take_y (i := 6) (d := some 35) (v := ?_) rfl rfl (by kernel_rfl) (by kernel_rfl) (by kernel_rfl) (fun _ _ _ h => h) (by assumption) ?_ ?_
  rotate_left
  · intro oi ho
    simp only [List.getElem?_toArray, List.getElem?_cons_succ, List.getElem?_cons_zero, Option.some.injEq] at ho
    subst ho
    intro w hSw
    obtain ⟨_, e0, e1⟩ := hSw
    go_simp
    (try with_reducible rfl)
  (try simp only [Act.put, List.setIfInBounds_toArray, List.set_cons_zero, List.set_cons_succ])
  refine take_y (i := 7) (d := some 36) (v := ?_) rfl rfl (by kernel_rfl) (by kernel_rfl) (by kernel_rfl) (fun _ _ _ h => h) (by assumption) ?_ ?_
  rotate_left
  · intro oi ho
    simp only [List.getElem?_toArray, List.getElem?_cons_succ, List.getElem?_cons_zero, Option.some.injEq] at ho
    subst ho
    intro w hSw
    obtain ⟨_, e0, e1⟩ := hSw
    go_simp
    (try with_reducible rfl)
  (try simp only [Act.put, List.setIfInBounds_toArray, List.set_cons_zero, List.set_cons_succ])
  refine take_y (i := 8) (d := some 37) (v := ?_) rfl rfl (by kernel_rfl) (by kernel_rfl) (by kernel_rfl) (fun _ _ _ h => h) (by assumption) ?_ ?_
  rotate_left
  · intro oi ho
    simp only [List.getElem?_toArray, List.getElem?_cons_succ, List.getElem?_cons_zero, Option.some.injEq] at ho
    subst ho
    intro w hSw
    obtain ⟨_, e0, e1⟩ := hSw
    go_simp
    (try with_reducible rfl)
  (try simp only [Act.put, List.setIfInBounds_toArray, List.set_cons_zero, List.set_cons_succ])
  refine take_y (i := 9) (d := some 38) (v := ?_) rfl rfl (by kernel_rfl) (by kernel_rfl) (by kernel_rfl) (fun _ _ _ h => h) (by assumption) ?_ ?_
  rotate_left
  · intro oi ho
    simp only [List.getElem?_toArray, List.getElem?_cons_succ, List.getElem?_cons_zero, Option.some.injEq] at ho
    subst ho
    intro w hSw
    skip
    go_simp
    (try with_reducible rfl)
  (try simp only [Act.put, List.setIfInBounds_toArray, List.set_cons_zero, List.set_cons_succ])
  rw [HDL.out]
  refine take_y (i := 10) (d := some 39) (v := ?_) rfl rfl (by kernel_rfl) (by kernel_rfl) (by kernel_rfl) (fun _ _ _ h => h) (by assumption) ?_ ?_
  rotate_left
  · intro oi ho
    simp only [List.getElem?_toArray, List.getElem?_cons_succ, List.getElem?_cons_zero, Option.some.injEq] at ho
    subst ho
    intro w hSw
    skip
    go_simp
    (try with_reducible rfl)
  (try simp only [Act.put, List.setIfInBounds_toArray, List.set_cons_zero, List.set_cons_succ])
  (try rw [HTR.out])
  refine take_y (i := 11) (d := some 40) (v := ?_) rfl rfl (by kernel_rfl) (by kernel_rfl) (by kernel_rfl) (fun _ _ _ h => h) (by assumption) ?_ ?_
  rotate_left
  · intro oi ho
    simp only [List.getElem?_toArray, List.getElem?_cons_succ, List.getElem?_cons_zero, Option.some.injEq] at ho
    subst ho
    intro w hSw
    skip
    go_simp
    (try with_reducible rfl)
  (try simp only [Act.put, List.setIfInBounds_toArray, List.set_cons_zero, List.set_cons_succ])
  rw [HDAY.out]
  refine take_y (i := 12) (d := some 15) (v := ?_) rfl rfl (by kernel_rfl) (by kernel_rfl) (by kernel_rfl) (fun _ _ _ h => h) (by assumption) ?_ ?_
  rotate_left
  · intro oi ho
    simp only [List.getElem?_toArray, List.getElem?_cons_succ, List.getElem?_cons_zero, Option.some.injEq] at ho
    subst ho
    intro w hSw
    skip
    go_simp
    (try with_reducible rfl)
  (try simp only [Act.put, List.setIfInBounds_toArray, List.set_cons_zero, List.set_cons_succ])
  refine wpAnyH_done (by kernel_rfl) ?_ _
  have hbd3 : Below w3.heap.size w3 w3.drew := (Below.refl _ _).drew
  have HL3' := Lib.hid (HL3.out.below hbd3)
  have HB3' := Lib.hid (below_keep HB3.out hbd3)
  have d0' := cell_keep hbd3 d0
  have d1' := cell_keep hbd3 d1
  have b0' := cell_keep hbd3 b0
  have b1' := cell_keep hbd3 b1
  have b2' := cell_keep hbd3 b2
  have b3' := cell_keep hbd3 b3
  obtain ⟨wd, hwd⟩ : ∃ wd, wd = w3.drew := ⟨_, rfl⟩
  rw [← hwd] at HL3' HB3' d0' d1' b0' b1' b2' b3' ⊢
  clear hbd3 HL3 HB3 d0 d1 b0 b1 b2 b3 hwd hHeld hw1 hw2 hwt hwr hmt hdz hdn
  obtain ⟨w3, rfl⟩ : ∃ w3 : World, w3 = wd := ⟨_, rfl⟩
  have HL3 := HL3'
  have HB3 := HB3'
  have d0 := d0'
  have d1 := d1'
  have b0 := b0'
  have b1 := b1'
  have b2 := b2'
  have b3 := b3'
  clear HL3' HB3' d0' d1' b0' b1' b2' b3'
  go_upto_region 3 with fail
  have hbb : Below w3.heap.size w3 w3 := .refl _ _
  go_cut [16, 17] (fun s16 s17 wx => ∃ ex : List GExp, Own expE wx w3.heap.size s16 ex ∧ s17 = .int .i64 ((ex.length : Int) - 1) ∧ PredOk ex ∧ Hid (Below w3.heap.size w3 wx))
  case first =>
    go_region_held3 (fun W => Below w3.heap.size w3 W ∧ W.cell? ⟨w.heap.size, 0, none⟩ = some (.int .u16 (x0 : Int)) ∧ W.cell? ⟨w.heap.size, 1, none⟩ = some (.int .u16 (x1 : Int)) ∧ W.cell? ⟨w.heap.size, 2, none⟩ = some (.int .u16 (x2 : Int)) ∧ W.cell? ⟨w.heap.size, 3, none⟩ = some (.int .u16 (x3 : Int)))
      ((go_split_ands; refine ⟨?_, ?_, ?_, ?_, ?_⟩ <;> (first | with_reducible assumption | with_reducible exact Below.drew (by assumption) | with_reducible exact cell_drew (by assumption) | with_reducible exact below_keep (by assumption) (by assumption) | with_reducible exact cell_keep (by assumption) (by assumption))))
      (first
        | (go_at_call 7; refine (kinds_any _).mono ?_; rintro e' wK ⟨vk, rfl, hkK, hbK⟩)
        | (go_at_call 6; go_split_ands; refine (pred_any vk x0 x1 x2 x3 g0 g1 g2 g3 _ (by first | exact hkK | exact hkK.below (Below.refl _ _).drew)).mono ?_; rintro e' wP ⟨ve, ex, rfl, hoP, hokP, hbP⟩))
    all_goals (
      go_split_ands
      go_wp2_with fail
      go_meet
      exact ⟨ex, hoP.mono (Nat.le_trans (Nat.le_refl _) hbK.size), rfl, hokP, Lib.hid (by assumption)⟩)
  case rest =>
    obtain ⟨ex, hO, rfl, hPO, HB4⟩ := hcut
    obtain ⟨ao, co, rfl⟩ := hO.shape
    obtain ⟨n, hn⟩ : ∃ n, n = ex.length := ⟨_, rfl⟩
    rw [← hn] at hO ⊢
    have hn4 : n ≤ 4 := by rw [hn]; exact hPO.2
    have p0 := cell_keep HB4.out d0
    have p1 := cell_keep HB4.out d1
    have HO := Lib.hid hO
    have HN := Lib.hid hn
    have hnb : ∀ j, (Value.slice ao n co).ownBlock = some j → w3.heap.size ≤ j := fun j hj => (hO.lt j hj).1
    have hlw : w2.heap.size < w3.heap.size := World.block_lt_of_cell? _ _ d0
    clear hO hn hbb b0 b1 b2 b3 d0 d1
    go_wp2_with fail
    refine (intValue_any 77 _).mono ?_
    rintro _ wI ⟨rfl, hbI⟩
    replace p0 := cell_keep hbI p0
    replace p1 := cell_keep hbI p1
    replace HO := Lib.hid (HO.out.below hbI)
    replace HB4 := Lib.hid (below_keep HB4.out hbI)
    clear hbI
    go_upto_region 5 with (at_builtin; refine wpList_push rfl (.tmp 47) (.tmp 50) 30 rfl expE Tryz.underlying30 w3.heap.size (.slice ao n co) ex rfl HO.out [⟨1, 0, 0, 0, gint 77⟩] #[.int .i64 1, .int .i64 0, .int .i64 0, .int .i64 0, .int .i64 1, .int .i64 77, .string ⟨#[]⟩] (Els.one rfl) 1 1 rfl rfl (by decide) (by have := HN.out; unfold maxLen; omega) (by have := HN.out; show (_ + 1) * 64 ≤ _; omega) HB4.out.size ?_; intro g cap w5 hP hPa)
    rw [← HN.out]
    obtain ⟨es, hes⟩ : ∃ es, es = ex ++ [(⟨1, 0, 0, 0, gint 77⟩ : GExp)] := ⟨_, rfl⟩
    rw [← hes] at hP
    have hesl : es.length = n + 1 := by rw [hes, List.length_append, HN.out]; rfl
    have hesc : ∀ x ∈ es, In64 x.c.n := by
      rw [hes]
      intro x hx
      rcases List.mem_append.1 hx with h | h
      · exact hPO.1 x h
      · simp at h; subst h; exact ⟨by show (-9223372036854775808 : Int) ≤ 77; decide, by show (77 : Int) ≤ 9223372036854775807; decide⟩
    have HES := Lib.hid hes
    have HESC := Lib.hid hesc
    have HE5 := Lib.hid (hP.own' hesl).sl
    have HB5 : Hid (Below w3.heap.size w3 w5) := Lib.hid (HB4.out.trans hP.below)
    have q0 := hP.cell (fun e => by have := hnb _ e.symm; dsimp at this; omega) p0
    have q1 := hP.cell (fun e => by have := hnb _ e.symm; dsimp at this; omega) p1
    have HSL : Hid (Sl verE w3 (fun k => w3.heap.size ≤ k) vl L) := Lib.hid (HL3.out.old (Nat.le_refl _))
    have hL10 : L.length ≤ 10 := by rw [HLL.out, curL_length]; exact HX10.out
    obtain ⟨st, hst⟩ : ∃ st : List Asg, st = [⟨0, (n : Int)⟩] := ⟨_, rfl⟩
    obtain ⟨cl, hcl⟩ : ∃ cl, cl = (affV plo phi es ((n : Int) - 1) L).map Ver.id := ⟨_, rfl⟩
    have CU : ∀ W vs, Below w3.heap.size w3 W → Sl expE W free (.slice (some ⟨g, 0, none⟩) (n + 1) cap) es → Sl asgE W free vs st → Hid (Calls Tryz.prog 9 #[vl, .agg #[.int .i64 plo, .int .i64 phi], .slice (some ⟨g, 0, none⟩) (n + 1) cap, .int .i64 ((n : Int) - 1), vs] W (RetDelta w3.heap.size W cl ((affV plo phi es ((n : Int) - 1) L).flatMap (partsV plo phi (some (asgV es st)))))) := fun W vs hW he hs => hcl ▸ upd_m vl _ vs L plo phi es ((n : Int) - 1) st w3.heap.size W hW.size (HSL.out.below hW) he (by omega) (by omega) hesc (HLL.out ▸ curL_n) (HLL.out ▸ curL_len) hs
    have CD : ∀ W, Below w3.heap.size w3 W → Sl expE W free (.slice (some ⟨g, 0, none⟩) (n + 1) cap) es → Hid (Calls Tryz.prog 10 #[vl, .agg #[.int .i64 plo, .int .i64 phi], .slice (some ⟨g, 0, none⟩) (n + 1) cap, .int .i64 ((n : Int) - 1)] W (RetDelta w3.heap.size W cl ((affV plo phi es ((n : Int) - 1) L).flatMap (partsV plo phi none)))) := fun W hW he => hcl ▸ del_m vl _ L plo phi es ((n : Int) - 1) w3.heap.size W hW.size (HSL.out.below hW) he (by omega) (by omega) hesc (HLL.out ▸ curL_n) (HLL.out ▸ curL_len)
    have HLT := Lib.hid hL10
    have HCL := Lib.hid hcl
    have HST := Lib.hid hst
    have hn1 : IntKind.i64.wrap ((n : Int) + 1 - 1) = n := by rw [show (n : Int) + 1 - 1 = n by omega]; exact IntWalk.i64_in _ (by omega)
    have hb5 := below_alloc w5 (.cells #[.int .i64 0, .int .i64 (n : Int)] 45)
    have HSA : Hid (Sl asgE (w5.alloc (.cells #[.int .i64 0, .int .i64 (n : Int)] 45)) free (.slice (some ⟨w5.heap.size, 0, none⟩) 1 1) st) := Lib.hid (by rw [HST.out]; exact Sl.of_block (n := 1) (m := 1) (World.alloc_heap_new w5 _) (Els.one rfl) id rfl (by simp) (by simp))
    have CU' := Lib.hid (CU _ _ (HB5.out.trans (hb5.mono HB5.out.size)) (HE5.out.below hb5) HSA.out).out
    have HBA : Hid (Below w3.heap.size w3 (w5.alloc (.cells #[.int .i64 0, .int .i64 (n : Int)] 45))) := Lib.hid (HB5.out.trans (hb5.mono HB5.out.size))
    have CD' := Lib.hid CD
    clear CU CD hL10 hcl hst hP hPa hes hesl hesc p0 p1 HSA hb5 HO HL3
    go_wp2_with fail
    refine CU'.mono ?_
    rintro _ w6 ⟨vcU, vaU, rfl, hcU, haU, hbU⟩
    obtain ⟨acU, ccU, rfl⟩ := hcU.shape
    obtain ⟨aaU, caU, rfl⟩ := haU.shape
    have hb6 := below_keep HBA.out hbU
    have HE6 : Hid (Sl expE w6 free (.slice (some ⟨g, 0, none⟩) (n + 1) cap) es) := Lib.hid ((HE5.out.below (below_alloc w5 _)).below hbU)
    have r0 := cell_keep hbU (cell_alloc q0)
    have r1 := cell_keep hbU (cell_alloc q1)
    obtain ⟨adU, hadU⟩ : ∃ x, x = (affV plo phi es ((n : Int) - 1) L).flatMap (partsV plo phi (some (asgV es st))) := ⟨_, rfl⟩
    rw [← hadU] at haU ⊢
    have HDU := Lib.hid (delta_made rfl rfl hb6.size hcU haU hb6)
    have HADU := Lib.hid hadU
    obtain ⟨w7, hw7⟩ : ∃ w7, w7 = w6.alloc (.cells #[.slice acU cl.length ccU, .slice aaU adU.length caU] 42) := ⟨_, rfl⟩
    have hb67 : Below w6.heap.size w6 w7 := by rw [hw7]; exact below_alloc _ _
    have s0 := cell_keep hb67 r0
    have s1 := cell_keep hb67 r1
    have HE7 := Lib.hid (HE6.out.below hb67)
    have HEO6 : Hid (Sl expE w7 (fun m => m = w6.heap.size) (.slice (some ⟨g, 0, none⟩) (n + 1) cap) es) := Lib.hid (((HE6.out.old (Nat.le_refl _)).below hb67).mono (fun j _ hj => by rw [hj]; exact Nat.le_refl _))
    have hgd : w3.heap.size ≤ w6.heap.size := hb6.size
    have hgne : w6.heap.size ≠ w2.heap.size := by omega
    obtain ⟨k0, k1, f0, f1⟩ := box_two (show w7.heap[w6.heap.size]? = some (.cells #[.slice acU cl.length ccU, .slice aaU adU.length caU] 42 (0, 0)) by rw [hw7]; exact World.alloc_heap_new _ _)
    have hb7 := below_keep hb6 hb67
    rw [← hw7] at HDU
    have HW := Lib.hid hw7
    clear hcU haU hbU hb6 HE6 HE5 hadU CU' HBA HB5 q0 q1 r0 r1 hw7 hb67
    have HEO : Hid (Sl expE w7 (fun m => m = w6.heap.size) (.slice (some ⟨g, 0, none⟩) (n + 1) cap) es) := HEO6
    go_upto_if 62 with fail
    rw [← HW.out]
    clear HW
    go_cut [] (fun wx => ∃ chg : Option (List GVal → List GVal), chg = chgOf rm (asgV es st) ∧ Hid (Sl expE wx free (.slice (some ⟨g, 0, none⟩) (n + 1) cap) es) ∧ DeltaAt w3.heap.size w3 cl ((affV plo phi es ((n : Int) - 1) L).flatMap (partsV plo phi chg)) (.pointer (some ⟨w6.heap.size, 0, none⟩)) wx)
    case first =>
      cases rm
      · go_wp2_with fail
        go_meet
        exact ⟨some (asgV es st), rfl, HE7, HADU.out ▸ HDU.out⟩
      · go_wp2_with fail
        refine (CD'.out _ hb7 HE7.out).out.mono ?_
        rintro _ w8 ⟨vcD, vaD, rfl, hcD, haD, hbD⟩
        obtain ⟨acD, ccD, rfl⟩ := hcD.shape
        obtain ⟨aaD, caD, rfl⟩ := haD.shape
        have hbW := below_keep hb7 hbD
        have y0 := cell_keep hbD k0
        have y1 := cell_keep hbD k1
        have z0 := frozen_hold hbD k0 f0
        have z1 := frozen_hold hbD k1 f1
        have hga : w6.heap.size < w7.heap.size := World.block_lt_of_cell? w7 _ k0
        obtain ⟨adD, hadD⟩ : ∃ x, x = (affV plo phi es ((n : Int) - 1) L).flatMap (partsV plo phi none) := ⟨_, rfl⟩
        rw [← hadD] at haD ⊢
        have HD8 := Lib.hid (delta_old rfl rfl y0 y1 z0 z1 hgd (sl_off hcD ⟨hgd, hga⟩) (sl_off haD ⟨hgd, hga⟩) hbW)
        have HADD := Lib.hid hadD
        have HEF : Hid (Sl expE ((w8.setCell ⟨w6.heap.size, 0, none⟩ (.slice acD cl.length ccD)).setCell ⟨w6.heap.size, 1, none⟩ (.slice aaD adD.length caD)) free (.slice (some ⟨g, 0, none⟩) (n + 1) cap) es) := Lib.hid (((HEO.out.below hbD).kept ((kept_set (G := fun m => m = w6.heap.size) rfl).trans (kept_set (G := fun m => m = w6.heap.size) rfl))).free)
        clear hcD haD hbD hadD hbW
        go_wp2_with fail
        go_meet
        exact ⟨none, rfl, HEF, HADD.out ▸ HD8.out⟩
    case rest =>
      clear HDU k0 k1 f0 f1 s0 s1 HE7 CD' hb7
      obtain ⟨chg, hchg, HEC, gd', a1, c1', a2, c2', e, hgd', k0, k1, f0, f1, hcc, haa, hbx⟩ := hcut
      cases e
      have hLe := HLL.out
      have hcur : Cur L := by rw [hLe]; exact curL_rec
      have hfit : Fit L 2 100 := by rw [hLe]; exact curL_fit xs 2 100 (by decide) (by have := HX10.out; omega)
      obtain ⟨ad, had⟩ : ∃ ad, ad = (affV plo phi es ((n : Int) - 1) L).flatMap (partsV plo phi chg) := ⟨_, rfl⟩
      rw [← had] at haa k1
      have hAE : applyE L cl ad 2 100 = 0 := by rw [HCL.out, had]; exact edit_e plo phi es _ chg L 2 100 hfit (by decide) (by decide) (by decide) (by decide)
      have hpv : pvalid plo phi = true := pvalid_iff.2 ⟨hp0, hp1, by omega⟩
      have hROW := rows_edit plo phi es ((n : Int) - 1) chg L 2 100 day (Now.of_cur hcur (by decide)) hfit (by decide) hpv
      rw [if_pos HIN.out, ← had, ← HCL.out] at hROW
      have hl10 : L.length ≤ 10 := HLT.out
      have hcl10 : cl.length ≤ 10 := by rw [HCL.out, List.length_map]; exact Nat.le_trans (affV_len L) hl10
      have had30 : ad.length ≤ 30 := by
        have h1 := parts_len (plo := plo) (phi := phi) chg (affV plo phi es ((n : Int) - 1) L)
        have h2 := affV_len (plo := plo) (phi := phi) (e := es) (pred := (n : Int) - 1) L
        rw [had]; omega
      have hvl : ∀ x ∈ L, x.vals.length ≤ 1000 := by rw [hLe]; exact curL_len
      have hchf : ∀ f, chg = some f → f = asgV es st := fun f hf => by
        rw [hchg] at hf
        cases rm
        · cases hf; rfl
        · cases hf
      have hal : ∀ x ∈ ad, x.vals.length ≤ 1000 := by
        rw [had]
        exact parts_vals' chg (fun f hf r => by rw [hchf f hf]; exact asgV_len _ _ _) _ (fun x hx => hvl x (affV_mem hx).1)
      have hci : ∀ x ∈ cl, In64 x := by
        rw [HCL.out]
        intro x hx
        obtain ⟨v', hv', rfl⟩ := List.mem_map.1 hx
        rw [hLe] at hv'
        exact curL_id (by have := HX10.out; omega) v' (affV_mem hv').1
      have hAL : (applyL L cl ad 2 100).length ≤ 1000 := by
        unfold applyL
        rw [List.length_append, newV_length]
        have := keepOne_length cl 2 L
        omega
      have hAV : ∀ x ∈ applyL L cl ad 2 100, x.vals.length ≤ 1000 := applyL_vals hvl hal
      have hT1 := atT_small hAV 2
      have hT2 := atT_small hvl 2
      have hTL : (atT (applyL L cl ad 2 100) 2).length ≤ 100000 := Nat.le_trans (atT_len _ _) (by omega)
      have hTL2 : (atT L 2).length ≤ 10 := Nat.le_trans (atT_len _ _) (by omega)
      have hTR2 : ∀ t ∈ atT L 2, ∃ v' ∈ L, t.vals = v'.vals ∧ t.lin = [] := by
        intro t ht
        rw [atT_cur hcur (by decide) (by decide)] at ht
        obtain ⟨v', hv', rfl⟩ := List.mem_map.1 ht
        exact ⟨v', hv', rfl, rfl⟩
      have AP : ∀ W, Below wc.heap.size wc W → Hid (Calls Tryz.prog 15 #[vl, .agg #[.slice a1 cl.length c1', .slice a2 ad.length c2'], .int .i64 2, .int .i64 100] W fun e w' => ∃ vo, e = .returned (.tuple #[vo, .int .i64 0]) ∧ Sl verE w' free vo (applyL L cl ad 2 100) ∧ Below W.heap.size W w') := fun W hW => by
        refine (apply_ver vl _ _ L cl ad 2 100 W ((HSL.out.below hbx).below hW).free (hcc.below hW).free (haa.below hW).free (by omega) (by omega) (by omega) (by rw [hLe]; exact curL_id (by have := HX10.out; omega)) hci hvl hal).mono ?_
        rintro e w' ⟨r, HR, h1, _, hb⟩
        obtain ⟨vo, he, hs⟩ := h1 (HR.out.trans hAE)
        exact ⟨vo, he, hs, hb⟩
      have HAP := Lib.hid AP
      have HLC := Lib.hid (HSL.out.below hbx).free
      have HBX : Hid (Below w.heap.size w wc) := Lib.hid (HB3.out.trans (hbx.mono HB3.out.size))
      obtain ⟨lo, hlo⟩ : ∃ lo, lo = applyL L cl ad 2 100 := ⟨_, rfl⟩
      rw [← hlo] at hROW hAL hT1 hTL HAP
      obtain ⟨tm, htm⟩ : ∃ t, t = atT lo 2 := ⟨_, rfl⟩
      obtain ⟨tl, htl⟩ : ∃ t, t = atT L 2 := ⟨_, rfl⟩
      rw [← htm] at hROW hT1 hTL
      rw [← htl] at hROW hT2 hTL2 hTR2
      obtain ⟨rows, hrows⟩ : ∃ r, r = sortR (atDay tl day) := ⟨_, rfl⟩
      have hrp : rows.Perm (atDay tl day) := by rw [hrows]; exact sortR_perm _
      have hrl : rows.length ≤ 10 := by rw [hrp.length_eq]; exact Nat.le_trans (atDay_len _ _) hTL2
      have hrr : ∀ r ∈ rows, ∃ v' ∈ L, r.vals = v'.vals ∧ r.lin = [] := fun r hr => by
        have h1 := hrp.mem_iff.1 hr
        unfold atDay at h1
        obtain ⟨t, ht, rfl⟩ := List.mem_map.1 h1
        exact hTR2 t (List.mem_filter.1 ht).1
      have HFIN : Hid ((sortR (atDay tm day)).Perm (rows.flatMap (chgR es ((n : Int) - 1) chg))) := Lib.hid ((sortR_perm _).trans (hROW.trans (hrp.symm.flatMap_right _)))
      have HROWS := Lib.hid hrows
      have HRR := Lib.hid hrr
      have HT1 := Lib.hid hT1
      have HT2 := Lib.hid hT2
      have HTM := Lib.hid htm
      have HTL := Lib.hid htl
      have HAL := Lib.hid hAL
      have HTLN := Lib.hid hTL
      have HTLN2 := Lib.hid hTL2
      have HCHG := Lib.hid hchg
      have HK0 := Lib.hid k0
      have HK1 := Lib.hid k1
      have HC1 := Lib.hid (atT_any _ L 2 wc HLC.out (by omega))
      rw [← HTL.out] at HC1
      obtain ⟨al, cl', rfl⟩ := HLC.out.shape
      clear hLe hcur hfit had hAE hROW hl10 hcl10 had30 hvl hal hci hAL hAV hT1 hT2 hcc haa hbx hchg HSL HB3 hrows htm htl hlo hTL hTL2 hrp hrr hTR2 hchf AP hpv k0 k1 f0 f1
      go_wp2_with fail
      refine HC1.out.mono ?_
      rintro _ w11 ⟨vm, rfl, hOm, hb11⟩
      obtain ⟨am, cm, rfl⟩ := hOm.shape
      have HB11 := Lib.hid (below_keep HBX.out hb11)
      have HBC11 := Lib.hid hb11
      have HS1 := Lib.hid (timeslice_any _ tl day w11 hOm.sl (by have := HTLN2.out; omega) HT2.out)
      rw [← HROWS.out] at HS1
      clear hOm hb11 HC1
      go_wp2_with fail
      refine HS1.out.mono ?_
      rintro _ w12 ⟨vr, rfl, hOr, hb12⟩
      obtain ⟨ar, cr, rfl⟩ := hOr.shape
      have HB12 := Lib.hid (below_keep HB11.out hb12)
      have HBC12 := Lib.hid (below_keep HBC11.out hb12)
      have HEC12 := Lib.hid ((HEC.out.below HBC11.out).below hb12)
      obtain ⟨nr, hnr⟩ : ∃ nr, nr = rows.length := ⟨_, rfl⟩
      have HNR := Lib.hid hnr
      have hs12 := hOr.sl
      rw [← hnr] at hs12 hrl ⊢
      have HR12 := Lib.hid hs12
      clear hOr hb12 HS1 HB11 HBC11 hs12 hnr
      go_wp2_with fail
      go_loopw [73, 19] (fun i o wr => ∃ k : Nat, k ≤ nr ∧ i = .int .i64 k ∧ Own rowE wr w12.heap.size o ((rows.take k).flatMap (chgR es ((n : Int) - 1) chg)) ∧ Hid (Below w12.heap.size w12 wr)) (fun i _ _ => nr - (RowKit.intOf i).toNat)
      case atStart => exact ⟨0, Nat.zero_le _, rfl, Own.nil _ _ _, Lib.hid (.refl _ _)⟩
      case round =>
        obtain ⟨k, hk, rfl, hO, HB⟩ := hrel
        obtain ⟨wo, rfl⟩ : ∃ wo : World, wo = wr := ⟨_, rfl⟩
        obtain ⟨acc, hacc⟩ : ∃ acc, acc = (rows.take k).flatMap (chgR es ((n : Int) - 1) chg) := ⟨_, rfl⟩
        have hal' : acc.length ≤ 10 := by
          have := chgR_len es ((n : Int) - 1) chg (rows.take k)
          rw [← hacc, List.length_take] at this
          omega
        rw [← hacc] at hO
        obtain ⟨ao', co', rfl⟩ := hO.shape
        have HACC := Lib.hid hacc
        by_cases hlt : k < nr
        · obtain ⟨x, hx⟩ := lget_some rows k (by rw [← HNR.out]; exact hlt)
          obtain ⟨b, o, b1, n1, e1, m1, rfl, hvv, hll, p0, p1⟩ := rows_at HR12.out hx
          replace p0 := cell_keep HB.out p0
          replace p1 := cell_keep HB.out p1
          obtain ⟨v', hv', hxv, hxl⟩ := HRR.out x (List.mem_of_getElem? hx)
          rw [HLL.out] at hv'
          obtain ⟨g0, h0, hgh, hg0, hh0⟩ := rowOk_cur v' hv'
          have HNUM : Hid (∀ g ∈ v'.vals, In64 g.n) := Lib.hid (RowOk.num ⟨g0, h0, hgh, hg0, hh0⟩)
          have HT0 : Hid ((rows.take (k + 1)).flatMap (chgR es ((n : Int) - 1) chg) = acc ++ chgR es ((n : Int) - 1) chg x) := by show _ = _; rw [take_get hx, List.flatMap_append, hacc]; simp
          rw [← hxv] at HNUM hgh
          obtain ⟨xv, xl⟩ := x
          dsimp only at p0 p1 hvv hll HT0 hxv hxl HNUM hgh
          have HXV : Hid (xv = [g0, h0]) := Lib.hid hgh
          have hn2 : xv.length = 2 := by rw [hgh]; rfl
          subst hxl
          rw [hn2] at hvv p0
          simp only [List.length_nil] at p1 hll
          have hba := below_alloc wo (.cells #[.slice b1 2 n1, .slice e1 0 m1] 53)
          have hbx := World.alloc_heap_new wo (.cells #[.slice b1 2 n1, .slice e1 0 m1] 53)
          obtain ⟨wb, hwb⟩ : ∃ wb, wb = wo.alloc (.cells #[.slice b1 2 n1, .slice e1 0 m1] 53) := ⟨_, rfl⟩
          have hwz : wb.heap.size = wo.heap.size + 1 := by rw [hwb]; simp
          rw [← hwb] at hba hbx
          have HOA := Lib.hid (hO.below hba)
          have HBA := Lib.hid (below_keep HB.out hba)
          have HVV := Lib.hid ((hvv.old (Nat.le_refl _)).below HBA.out)
          have HLLi := Lib.hid ((hll.old (Nat.le_refl _)).below HBA.out)
          have HBXX := Lib.hid hbx
          have HLL12 := Lib.hid (hll.old (Nat.le_refl _))
          have HOo := Lib.hid hO
          have HBo := Lib.hid hba
          obtain ⟨r0, r1, f0, f1⟩ := box_two hbx
          have hwo12 : w12.heap.size ≤ wo.heap.size := HB.out.size
          have HEV : Hid (Calls Tryz.prog 14 #[.slice (some ⟨g, 0, none⟩) (n + 1) cap, .int .i64 ((n : Int) - 1), .slice b1 2 n1] wb fun e' w' => e' = .returned (aggG (evalG es ((n : Int) - 1) xv)) ∧ Below wb.heap.size wb w') :=
            Lib.hid (reEval_any _ _ es ((n : Int) - 1) xv wb (HEC12.out.below HBA.out) HVV.out.free (by rw [HES.out, List.length_append, ← HN.out]; simp; omega) HESC.out HNUM.out)
          obtain ⟨hg, hhg⟩ : ∃ g, g = evalG es ((n : Int) - 1) xv := ⟨_, rfl⟩
          rw [← hhg] at HEV
          have HHG := Lib.hid hhg
          clear hO hba hbx hacc hvv hll hx hhg HB hxv hgh
          go_wp2_with (rw [← hwb])
          refine HEV.out.mono ?_
          rintro _ w3e ⟨rfl, hb3⟩
          clear HEV
          go_wp2_with fail
          refine (rtrue_any hg _).mono ?_
          rintro _ w4 ⟨rfl, hb4⟩
          have hb34 := hb3.trans (hb4.mono hb3.size)
          have HO4 := Lib.hid (HOA.out.below hb34)
          have HB4' := Lib.hid (below_keep HBA.out hb34)
          have HBo4 := Lib.hid (below_keep HBo.out hb34)
          have HBX4 := Lib.hid (box_kept HBXX.out hb34)
          have HVV4 := Lib.hid (HVV.out.below hb34)
          have HLL4 := Lib.hid (HLLi.out.below hb34)
          have hz4 : wo.heap.size + 1 ≤ w4.heap.size := by have := hb34.size; omega
          clear r0 r1 f0 f1 HOA HBA HBXX HVV HLLi hb3 hb4 hb34
          obtain ⟨r0, r1, f0, f1⟩ := box_two HBX4.out
          cases htr : isTrueG hg
          · have HT : Hid ((rows.take (k + 1)).flatMap (chgR es ((n : Int) - 1) chg) = acc ++ [⟨xv, []⟩]) := by show _ = _; rw [HT0.out]; unfold chgR; dsimp only; rw [if_neg (by rw [← HHG.out, htr]; simp)]
            have HIS : Hid (Els rowE w4 (fun j => some j = (Value.slice ao' acc.length co').ownBlock) [⟨xv, []⟩] [.slice b1 2 n1, .slice e1 0 m1]) := Lib.hid (Els.one ⟨_, _, rfl, HVV4.out.mono (fun j _ hj => (HO4.out.lt j hj.symm).1), HLL4.out.mono (fun j _ hj => (HO4.out.lt j hj.symm).1)⟩)
            clear htr
            go_wp2_with (at_builtin; refine wpList_push rfl (.tmp 95) (.tmp 97) 48 rfl rowE Tryz.underlying48 w12.heap.size (.slice ao' acc.length co') acc rfl HO4.out [⟨xv, []⟩] #[.slice b1 2 n1, .slice e1 0 m1] HIS.out 1 1 rfl rfl (by decide) (by unfold maxLen; omega) (by show _ * 48 ≤ _; omega) HB4'.out.size ?_; intro g' cap' w5' hP hPa)
            go_roundw
            case rel => exact ⟨k + 1, by omega, by go_num, by rw [HT.out]; exact hP.own' (by simp), Lib.hid (HB4'.out.trans hP.below)⟩
            case measure => simp [RowKit.intOf]; omega
          · cases rm
            · obtain ⟨b2, o2, hbe, q0, q1, q2⟩ := val_at HVV4.out (k := 1) (x := h0) (by rw [HXV.out]; rfl)
              subst hbe
              have HQ0 := Lib.hid q0
              have HQ1 := Lib.hid q1
              have HQ2 := Lib.hid q2
              have HT : Hid ((rows.take (k + 1)).flatMap (chgR es ((n : Int) - 1) chg) = acc ++ [⟨[gint 77, h0], []⟩]) := by
                show _ = _
                rw [HT0.out]
                unfold chgR
                dsimp only
                rw [if_pos (by rw [← HHG.out, htr]), HCHG.out, HXV.out]
                show acc ++ [(⟨asgV es st [g0, h0], []⟩ : GRow)] = _
                rw [HES.out, HST.out, HN.out, asg_pushed]
              clear htr HHG HT0
              go_wp2_with fail
              have hb44 : Below w4.heap.size w4 w4 := .refl _ _
              go_region_with (first
                | (go_at_call 8; refine (intValue_any 77 _).mono ?_; rintro e' wI ⟨rfl, hbI⟩; have HBI : Hid (Below w4.heap.size w4 wI) := (by first | exact hbI | exact Below.trans (Below.refl _ _).drew hbI | exact (below_drewN (Below.refl _ _) _).trans hbI); have hbx5 := box_kept HBX4.out HBI.out; obtain ⟨s0, s1, h0', h1'⟩ := box_two hbx5; have q0' := cell_keep HBI.out HQ0.out; have q1' := cell_keep HBI.out HQ1.out; have q2' := cell_keep HBI.out HQ2.out; have A0 : ∀ o, (wI.alloc o).cell? ⟨wo.heap.size, 0, none⟩ = some (.slice (some ⟨b2, o2, none⟩) 2 n1) := (fun o => cell_alloc s0); have A1 : ∀ o, (wI.alloc o).frozen? ⟨wo.heap.size, 0, none⟩ = false := (fun o => frozen_alloc s0 h0'); have A2 : ∀ o, (wI.drew.alloc o).cell? ⟨wo.heap.size, 0, none⟩ = some (.slice (some ⟨b2, o2, none⟩) 2 n1) := (fun o => cell_alloc (W := wI.drew) s0); have A3 : ∀ o, (wI.drew.alloc o).frozen? ⟨wo.heap.size, 0, none⟩ = false := (fun o => frozen_alloc (W := wI.drew) s0 h0'); clear hbI))
              all_goals (
                obtain ⟨wA, hwA⟩ : ∃ wA, wA = wI.alloc (.cells #[.int .i64 1, .int .i64 77, .string ⟨#[]⟩, .int .i64 h0.kind, .int .i64 h0.n, .string h0.s] 36) := ⟨_, rfl⟩
                rw [← hwA]
                have hbA : Below wI.heap.size wI wA := by rw [hwA]; exact below_alloc _ _
                have hgA : wA.heap[wI.heap.size]? = some (.cells #[.int .i64 1, .int .i64 77, .string ⟨#[]⟩, .int .i64 h0.kind, .int .i64 h0.n, .string h0.s] 36 (0, 0)) := by rw [hwA]; exact World.alloc_heap_new wI _
                have hbxA := box_kept hbx5 hbA
                obtain ⟨wS, hwS⟩ : ∃ wS, wS = wA.setCell ⟨wo.heap.size, 0, none⟩ (.slice (some ⟨wI.heap.size, 0, none⟩) 2 2) := ⟨_, rfl⟩
                rw [← hwS]
                have hzI : w4.heap.size ≤ wI.heap.size := HBI.out.size
                have hbxS : wS.heap[wo.heap.size]? = some (.cells #[.slice (some ⟨wI.heap.size, 0, none⟩) 2 2, .slice e1 0 m1] 53 (0, 0)) := by rw [hwS]; exact box_set0 hbxA
                have hgS : wS.heap[wI.heap.size]? = some (.cells #[.int .i64 1, .int .i64 77, .string ⟨#[]⟩, .int .i64 h0.kind, .int .i64 h0.n, .string h0.s] 36 (0, 0)) := by rw [hwS, Below.heap_setCell _ _ _ _ (by show wI.heap.size ≠ wo.heap.size; omega)]; exact hgA
                have HB5 : Hid (Below w12.heap.size w12 wS) := by show Below w12.heap.size w12 wS; rw [hwS]; exact (below_keep (below_keep HB4'.out HBI.out) hbA).setCell hwo12 _
                have HBo5 : Below wo.heap.size wo wS := by rw [hwS]; exact (below_keep (below_keep HBo4.out HBI.out) hbA).setCell (Nat.le_refl _) _
                have HO5 := Lib.hid (HOo.out.below HBo5)
                have HVN : Sl valE wS (fun j => some j = (Value.slice ao' acc.length co').ownBlock) (.slice (some ⟨wI.heap.size, 0, none⟩) 2 2) [gint 77, h0] := Sl.of_block hgS (Els.cons (cs := [.int .i64 1, .int .i64 77, .string ⟨#[]⟩]) (xs := [.int .i64 h0.kind, .int .i64 h0.n, .string h0.s]) rfl (Els.one rfl)) (fun hj => by have h3 := HOo.out.lt _ hj.symm; omega) rfl (Nat.le_refl _) (by decide)
                have HIS : Hid (Els rowE wS (fun j => some j = (Value.slice ao' acc.length co').ownBlock) [⟨[gint 77, h0], []⟩] [.slice (some ⟨wI.heap.size, 0, none⟩) 2 2, .slice e1 0 m1]) := Lib.hid (Els.one ⟨_, _, rfl, HVN, (HLL12.out.below HB5.out).mono (fun j _ hj => (HOo.out.lt j hj.symm).1)⟩)
                obtain ⟨t0, t1, _, _⟩ := box_two hbxS
                clear A0 A1 A2 A3 s0 s1 h0' h1' q0' q1' q2' hbx5 hbA hgA hbxA hbxS hgS HBo5 HVN r0 r1 f0 f1 q0 q1 q2 hb44 hwA hwS
                go_wp2_with (at_builtin; refine wpList_push rfl (.tmp 95) (.tmp 97) 48 rfl rowE Tryz.underlying48 w12.heap.size (.slice ao' acc.length co') acc rfl HO5.out [⟨[gint 77, h0], []⟩] #[.slice (some ⟨wI.heap.size, 0, none⟩) 2 2, .slice e1 0 m1] HIS.out 1 1 rfl rfl (by decide) (by unfold maxLen; omega) (by show _ * 48 ≤ _; omega) HB5.out.size ?_; intro g' cap' w5' hP hPa)
                go_roundw
                case rel => exact ⟨k + 1, by omega, by go_num, by rw [HT.out]; exact hP.own' (by simp), Lib.hid (HB5.out.trans hP.below)⟩
                case measure => simp [RowKit.intOf]; omega)
            · have HT : Hid ((rows.take (k + 1)).flatMap (chgR es ((n : Int) - 1) chg) = acc) := by
                show _ = _
                rw [HT0.out]
                unfold chgR
                dsimp only
                rw [if_pos (by rw [← HHG.out, htr]), HCHG.out]
                exact List.append_nil _
              clear htr
              go_wp2_with fail
              go_roundw
              case rel => exact ⟨k + 1, by omega, by go_num, by rw [HT.out]; exact HO4.out, HB4'⟩
              case measure => simp [RowKit.intOf]; omega
        · have hkk : rows.take k = rows := List.take_of_length_le (by rw [← HNR.out]; omega)
          have HACE : Hid ((sortR (atDay tm day)).Perm acc) := by show _; rw [hacc, hkk]; exact HFIN.out
          have HO9 := Lib.hid hO
          have HB9 := Lib.hid (below_keep HB12.out HB.out)
          have hk0 := cell_keep HB.out (cell_keep HBC12.out HK0.out)
          have hk1 := cell_keep HB.out (cell_keep HBC12.out HK1.out)
          have HAPW := HAP.out _ (below_keep HBC12.out HB.out)
          obtain ⟨na, hna⟩ : ∃ na, na = acc.length := ⟨_, rfl⟩
          clear hacc hO hkk HB HAP HFIN HR12 HRR HROWS HK0 HK1
          go_wp2_with fail
          refine HAPW.out.mono ?_
          rintro _ w13 ⟨vo, rfl, hvo, hb13⟩
          have HVO := Lib.hid hvo
          have HO13 := Lib.hid (HO9.out.below hb13)
          have HB13 := Lib.hid (below_keep HB9.out hb13)
          obtain ⟨ao2, co2, rfl⟩ := hvo.shape
          clear hvo hb13 HAPW HO9 hk0 hk1
          go_wp2_with fail
          refine (awake_any _).mono ?_
          rintro _ w14 ⟨rfl, hb14⟩
          have HB14 := Lib.hid (below_keep HB13.out hb14)
          have HC1 := Lib.hid (atT_any _ lo 2 w14 (HVO.out.below hb14) HAL.out)
          have HO14 := Lib.hid (HO13.out.below hb14)
          rw [← HTM.out] at HC1
          clear hb14 HO13 HVO
          go_wp2_with fail
          refine HC1.out.mono ?_
          rintro _ w15 ⟨vm, rfl, hOm, hb15⟩
          obtain ⟨am', cm', rfl⟩ := hOm.shape
          have HB15 := Lib.hid (below_keep HB14.out hb15)
          have HO15 := Lib.hid (HO14.out.below hb15)
          have HS1 := Lib.hid (timeslice_any _ tm day w15 hOm.sl HTLN.out HT1.out)
          clear hOm hb15 HC1 HO14
          go_wp2_with fail
          refine HS1.out.mono ?_
          rintro _ w16 ⟨vr, rfl, hOr, hb16⟩
          obtain ⟨ar', cr', rfl⟩ := hOr.shape
          have HB16 := Lib.hid (below_keep HB15.out hb16)
          have HEQ := Lib.hid (requal_any _ _ (sortR (atDay tm day)) acc w16 hOr.sl (HO15.out.below hb16).sl (by rw [HACE.out.length_eq]; omega) (by omega) HACE.out)
          clear hOr hb16 HS1 HO15
          go_wp2_with fail
          refine HEQ.out.mono ?_
          rintro _ w17 ⟨rfl, hb17⟩
          have HB17 := Lib.hid (below_keep HB16.out hb17)
          clear hb17
          go_wp2_with fail
          go_ret
          exact ⟨rfl, HB17.out⟩
end Go.Proofs.YtfmbbfidjcgeiaaGreat

namespace Go.Proofs.YtfmbbfidjcgeiaaGreat
open Go.ChangeShapes Go.WideShapes Go.ChangeAt Go.RowKit

theorem own : ownKnob Tryz.prog.godebug = none := by kernel_rfl
theorem laidOut : laidOutB Tryz.prog = true := by kernel_rfl

theorem trodAll_below {H : Type} {enc : TypeId × Value → H} {W W' : World} (hb : Below W.heap.size W W') : ∀ (ts : List TypeId) (vs : List Value) (ds : List (DataW H)) (ps : List MemPlace),
    (∀ t ∈ ts, Tryz.prog.readableRec t = true ∧ t < Tryz.prog.types.size) → DataW.TrodAll enc Tryz.prog W 0 (fun _ => true) true ts vs ds ps → (∀ x ∈ ps, x.block < W.heap.size) →
    DataW.TrodAll enc Tryz.prog W' 0 (fun b => decide (b < W.heap.size)) true ts vs ds ps := by
  intro ts
  induction ts with
  | nil =>
    intro vs ds ps _ h _
    cases vs <;> cases ds <;> simp [DataW.TrodAll] at h ⊢
    exact h
  | cons t ts ih =>
    intro vs ds ps hr h hlt
    cases vs with
    | nil => simp [DataW.TrodAll] at h
    | cons v vs =>
      cases ds with
      | nil => simp [DataW.TrodAll] at h
      | cons d ds =>
        obtain ⟨p, q, h1, h2, rfl⟩ := h
        have ht := hr t (List.mem_cons_self ..)
        exact ⟨p, q, Below.trod laidOut ht.1 ht.2 h1 hb (fun x hx => hlt x (List.mem_append_left _ hx)), ih vs ds q (fun t' h' => hr t' (List.mem_cons_of_mem _ h')) h2 (fun x hx => hlt x (List.mem_append_right _ hx)), rfl⟩

/-- The post of a law's row. -/
theorem law_post {H : Type} {enc : TypeId × Value → H} {f : Func} {s : ChangeSpec} {W W' : World} {args : Array Value} {ds gs : List (DataW H)} {before : List MemPlace}
    (hvars : s.vars = []) (hres : f.resultTypes = #[4]) (hr : ∀ t ∈ f.params.toList, Tryz.prog.readableRec t = true ∧ t < Tryz.prog.types.size)
    (hs : s.fn H (ds ++ gs) = { results := [.lit (.bool true)], args := ds })
    (hW : DataW.Whole enc Tryz.prog f.params.toList s.vars false W args.toList ds gs before) (hb : Below W.heap.size W W') :
    s.post enc Tryz.prog f false true false false W args (.bool true) W' := by
  have hlt : ∀ p ∈ before, p.block < W.heap.size := fun p hp => hW.lt p hp
  obtain ⟨p, q, hA, hV, hpq, hz, hn⟩ := id hW
  have hq : q = [] := by
    rw [hvars] at hV
    cases gs with
    | nil => exact hV
    | cons _ _ => simp [DataW.TrodVars] at hV
  subst hq
  rw [List.append_nil] at hpq
  refine ⟨ds, gs, before, [], p, [], hW, ?_, ?_, ?_, World.keptBut_mono (fun x hx => ⟨hx, ?_⟩) (hb.frame (· ∈ before)), fun h => by cases h⟩
  · rw [hs, hres]
    exact trodAll_cons_mk (shut_bool Tryz.underlying4 _) trodAll_mk0
  · rw [hs]
    exact trodAll_below hb _ _ _ _ hr hA (fun x hx => hlt x (by rw [hpq]; exact hx))
  · rw [hs, hvars]; rfl
  · rw [hpq] at hx; exact .inr (.inl hx)

/-- A slice whose elements (each of 'size' cells) read as the elements of a list. -/
def SliceOf {α : Type} (w : World) (size : Nat) (R : World → α → List Value → Prop) (v : Value) (l : List α) : Prop :=
  l.length ≤ 9223372036854775807 ∧ ∃ (a : Option Addr) (c : Nat), v = .slice a l.length c ∧ l.length ≤ c ∧
    (0 < l.length → ∃ b o, a = some ⟨b, o, none⟩ ∧ ∀ i x, l[i]? = some x → ∃ cs, cs.length = size ∧ R w x cs ∧ ∀ j u, cs[j]? = some u → w.cell? ⟨b, o + i * size + j, none⟩ = some u)

theorem open_sliceOf {H : Type} {enc : TypeId × Value → H} {P : Program} {w : World} {spare : Nat → Bool} {t e : TypeId} {v : Value} {d : DataW H} {ps : List MemPlace} {α : Type} {R : World → α → List Value → Prop} {size : Nat} {base : Nat}
    (ht : P.underlying t = some (.slice e)) (hce : P.cellsOf e = size) (hsz : 0 < size) (hv : Value.okWide P w .any base t v)
    (hel : ∀ n cs y, DataW.trod enc P w 0 spare true n e cs = some y → cs.length = size → ∃ x, R w x cs)
    (h : DataW.Trod enc P w 0 spare true t v d ps) : ∃ l : List α, SliceOf w size R v l := by
  obtain ⟨a0, len, cap, rfl⟩ := okWide_slice ht hv
  obtain ⟨fuel, hf⟩ := h
  rcases Go.Deep.open_slice ht hf with ⟨hcs, _⟩ | ⟨a, len', cap', m, n, D, Pl, hcs, _, hl, hm, hmm, _, hx⟩
  · simp [Value.cells] at hcs
    obtain ⟨rfl, rfl, rfl⟩ := hcs
    exact ⟨[], by simp, none, 0, rfl, by simp, by simp⟩
  · simp [Value.cells] at hcs
    obtain ⟨rfl, rfl, rfl⟩ := hcs
    have hlm : len ≤ m := by rw [hmm]; split <;> omega
    have each : ∀ i : Fin len, ∃ x cs, cs.length = size ∧ R w x cs ∧ ∀ j u, cs[j]? = some u → w.cell? ((a.add (i * size)).add j) = some u := by
      intro i
      obtain ⟨cs, h1, h2⟩ := hx i (by omega)
      rw [hce] at h1
      obtain ⟨_, hlen, hcell⟩ := World.cells?_some h1
      obtain ⟨x, hxr⟩ := hel _ _ _ h2 hlen
      refine ⟨x, cs, hlen, hxr, fun j u hu => ?_⟩
      have hj : j < size := by rw [← hlen]; exact (List.getElem?_eq_some_iff.1 hu).1
      rw [hcell j hj]; exact hu
    let f : Fin len → α := fun i => Classical.choose (each i)
    have hf' : ∀ i : Fin len, ∃ cs, cs.length = size ∧ R w (f i) cs ∧ ∀ j u, cs[j]? = some u → w.cell? ((a.add (i * size)).add j) = some u := fun i => Classical.choose_spec (each i)
    have hlen : (List.ofFn f).length = len := List.length_ofFn
    refine ⟨List.ofFn f, by rw [hlen]; unfold maxLen at hm; omega, some a, cap, by rw [hlen], by rw [hlen]; exact hl, fun hpos => ?_⟩
    rw [hlen] at hpos
    obtain ⟨b, o, spot⟩ := a
    have hspot : spot = none := by
      obtain ⟨cs, h1, _⟩ := hx 0 (by omega)
      rw [hce] at h1
      obtain ⟨_, hl0, hcell⟩ := World.cells?_some h1
      have h2 := hcell 0 hsz
      rw [List.getElem?_eq_getElem (by omega)] at h2
      have h3 : w.cell? ⟨b, o, spot⟩ = some (cs[0]'(by omega)) := by simpa [Addr.add] using h2
      cases spot with
      | none => rfl
      | some s => simp [World.cell?] at h3; split at h3 <;> simp at h3
    subst hspot
    refine ⟨b, o, rfl, fun i x hi => ?_⟩
    have hil : i < len := by rw [← hlen]; exact (List.getElem?_eq_some_iff.1 hi).1
    obtain ⟨cs, h1, h2, h3⟩ := hf' ⟨i, hil⟩
    have hxe : x = f ⟨i, hil⟩ := by
      rw [List.getElem?_ofFn] at hi
      simp [hil] at hi
      exact hi.symm
    refine ⟨cs, h1, by rw [hxe]; exact h2, fun j u hu => ?_⟩
    have := h3 j u hu
    rw [Go.Deep.add_add] at this
    rw [Addr.add_lit] at this
    rw [Nat.add_assoc]; exact this

mutual
/-- The cells of a datum of numbers. -/
def litCells : DataW Unit → List Value
  | .lit (.int k n) => [.int k n]
  | .agg parts => litCellsAll parts
  | _ => []
def litCellsAll : List (DataW Unit) → List Value
  | [] => []
  | d :: r => litCells d ++ litCellsAll r
end
end Go.Proofs.YtfmbbfidjcgeiaaGreat

namespace Go.Proofs.YtfmbbfidjcgeiaaGreat
open Go.ChangeShapes Go.WideShapes Go.ChangeAt Go.RowKit
open Go.ChangeMaps (open_string)

theorem open_sl_trod {H : Type} {enc : TypeId × Value → H} {P : Program} {w : World} {spare : Nat → Bool} {t e : TypeId} {cs0 : List Value} {y0 : DataW H × List MemPlace} {n0 : Nat} {α : Type} (E : El P α) (Pr : α → Prop)
    (ht : P.underlying t = some (.slice e)) (hce : P.cellsOf e = E.size)
    (hel : ∀ n cs y, DataW.trod enc P w 0 spare true n e cs = some y → cs.length = E.size → ∃ x, E.is w free x cs ∧ Pr x)
    (h : DataW.trod enc P w 0 spare true n0 t cs0 = some y0) : ∃ (v : Value) (l : List α), cs0 = [v] ∧ Sl E w free v l ∧ ∀ x ∈ l, Pr x := by
  rcases Go.Deep.open_slice ht h with ⟨hcs, _⟩ | ⟨a, len, cap, m, n, D, Pl, hcs, _, hl, hm, hmm, _, hx⟩
  · exact ⟨_, [], hcs, Sl.nil _ _ _ _ _, by simp⟩
  · have hlm : len ≤ m := by rw [hmm]; split <;> omega
    have hsz := E.pos
    have each : ∀ i : Fin len, ∃ x cs, cs.length = E.size ∧ (E.is w free x cs ∧ Pr x) ∧ ∀ j u, cs[j]? = some u → w.cell? ((a.add (i * E.size)).add j) = some u := by
      intro i
      obtain ⟨cs, h1, h2⟩ := hx i (by omega)
      rw [hce] at h1
      obtain ⟨_, hlen, hcell⟩ := World.cells?_some h1
      obtain ⟨x, hxr⟩ := hel _ _ _ h2 hlen
      refine ⟨x, cs, hlen, hxr, fun j u hu => ?_⟩
      have hj : j < E.size := by rw [← hlen]; exact (List.getElem?_eq_some_iff.1 hu).1
      rw [hcell j hj]; exact hu
    let f : Fin len → α := fun i => Classical.choose (each i)
    have hf' : ∀ i : Fin len, ∃ cs, cs.length = E.size ∧ (E.is w free (f i) cs ∧ Pr (f i)) ∧ ∀ j u, cs[j]? = some u → w.cell? ((a.add (i * E.size)).add j) = some u := fun i => Classical.choose_spec (each i)
    have hlen : (List.ofFn f).length = len := List.length_ofFn
    refine ⟨_, List.ofFn f, hcs, ⟨by rw [hlen]; unfold maxLen at hm; omega, some a, cap, by rw [hlen], by rw [hlen]; exact hl, fun hpos => ?_⟩, fun x hx => ?_⟩
    · rw [hlen] at hpos
      obtain ⟨b, o, spot⟩ := a
      have hspot : spot = none := by
        obtain ⟨cs, h1, _⟩ := hx 0 (by omega)
        rw [hce] at h1
        obtain ⟨_, hl0, hcell⟩ := World.cells?_some h1
        have h2 := hcell 0 hsz
        rw [List.getElem?_eq_getElem (by omega)] at h2
        have h3 : w.cell? ⟨b, o, spot⟩ = some (cs[0]'(by omega)) := by simpa [Addr.add] using h2
        cases spot with
        | none => rfl
        | some s => simp [World.cell?] at h3; split at h3 <;> simp at h3
      subst hspot
      refine ⟨b, o, rfl, id, fun i x hi => ?_⟩
      have hil : i < len := by rw [← hlen]; exact (List.getElem?_eq_some_iff.1 hi).1
      obtain ⟨cs, h1, h2, h3⟩ := hf' ⟨i, hil⟩
      have hxe : x = f ⟨i, hil⟩ := by
        rw [List.getElem?_ofFn] at hi
        simp [hil] at hi
        exact hi.symm
      refine ⟨cs, by rw [hxe]; exact h2.1, fun j u hu => ?_⟩
      have := h3 j u hu
      rw [Go.Deep.add_add] at this
      rw [Addr.add_lit] at this
      rw [Nat.add_assoc]; exact this
    · obtain ⟨i, rfl⟩ := List.mem_ofFn.1 hx
      exact (hf' i).choose_spec.2.1.2
theorem open_sl {H : Type} {enc : TypeId × Value → H} {P : Program} {w : World} {spare : Nat → Bool} {t e : TypeId} {v : Value} {d : DataW H} {ps : List MemPlace} {α : Type} {base : Nat} (E : El P α) (Pr : α → Prop)
    (ht : P.underlying t = some (.slice e)) (hce : P.cellsOf e = E.size) (hv : Value.okWide P w .any base t v)
    (hel : ∀ n cs y, DataW.trod enc P w 0 spare true n e cs = some y → cs.length = E.size → ∃ x, E.is w free x cs ∧ Pr x)
    (h : DataW.Trod enc P w 0 spare true t v d ps) : ∃ l : List α, Sl E w free v l ∧ ∀ x ∈ l, Pr x := by
  obtain ⟨a0, len, cap, rfl⟩ := okWide_slice ht hv
  obtain ⟨fuel, hf⟩ := h
  obtain ⟨v, l, hcs, hl⟩ := open_sl_trod E Pr ht hce hel hf
  simp [Value.cells] at hcs
  subst hcs
  exact ⟨l, hl⟩
theorem cells_int : Tryz.prog.cellsOf 3 = 1 := by kernel_rfl
theorem cells_i64 : Tryz.prog.cellsOf 2 = 1 := by kernel_rfl
theorem cells_string : Tryz.prog.cellsOf 9 = 1 := by kernel_rfl
theorem cells_val : Tryz.prog.cellsOf 36 = 3 := by kernel_rfl
/-- An int. -/
def Is64 (x : Int) : Prop := -9223372036854775808 ≤ x ∧ x ≤ 9223372036854775807
section
variable {H : Type} {enc : TypeId × Value → H} {w : World} {spare : Nat → Bool}
theorem is64_of {n : Int} (h : (Lit.int .i64 n).wf = true) : Is64 n := by
  simp [Lit.wf, IntKind.min, IntKind.max, IntKind.signed, IntKind.bits] at h
  unfold Is64
  omega
theorem open_int_el (n : Nat) (cs : List Value) (y : DataW H × List MemPlace) (h : DataW.trod enc Tryz.prog w 0 spare true n 3 cs = some y) (hl : cs.length = 1) : ∃ x, intE.is w free x cs ∧ Is64 x := by
  match cs, hl with
  | [c0], _ =>
    obtain ⟨k0, e0, _, hw⟩ := DataW.trod_int Tryz.underlying3 h
    simp at e0
    subst e0
    exact ⟨k0, rfl, is64_of hw⟩
/-- A value whose numbers and text are a machine's. -/
def IsVal (x : GVal) : Prop := Is64 x.kind ∧ Is64 x.n ∧ x.s.size ≤ maxLen
set_option maxRecDepth 10000 in
theorem open_val_el (n : Nat) (cs : List Value) (y : DataW H × List MemPlace) (h : DataW.trod enc Tryz.prog w 0 spare true n 36 cs = some y) (hl : cs.length = 3) : ∃ x, valE.is w free x cs ∧ IsVal x := by
  obtain ⟨xs, k, hk, hxy, _, hxl, hf⟩ := DataW.trod_struct Tryz.underlying36 h
  match cs, hl with
  | [c0, c1, c2], _ =>
    match xs, hxl with
    | [y0, y1, y2], _ =>
      have g0 := hf 0 _ rfl
      have g1 := hf 1 _ rfl
      have g2 := hf 2 _ rfl
      simp [cells_int, cells_i64, cells_string] at g0 g1 g2
      obtain ⟨k0, e0, _, w0⟩ := DataW.trod_int Tryz.underlying3 g0
      obtain ⟨k1, e1, _, w1⟩ := DataW.trod_int Tryz.underlying2 g1
      obtain ⟨s, e2, _, hs⟩ := DataW.trod_string Tryz.underlying9 g2
      simp at e0 e1 e2
      subst e0 e1 e2
      exact ⟨⟨k0, k1, s⟩, rfl, is64_of w0, is64_of w1, hs⟩
set_option maxRecDepth 10000 in
/-- An argument that is a value. -/
theorem open_valarg {base : Nat} {v : Value} {d : DataW H} {ps : List MemPlace} (hv : Value.okWide Tryz.prog w .any base 36 v) (h : DataW.Trod enc Tryz.prog w 0 spare true 36 v d ps) : ∃ x : GVal, v = aggG x ∧ IsVal x := by
  obtain ⟨cs, rfl, hs⟩ := okWide_struct Tryz.underlying36 hv
  obtain ⟨fuel, hf⟩ := h
  obtain ⟨x, hx, hp⟩ := open_val_el _ _ _ hf (by rw [cells_val] at hs; simpa [Value.cells] using hs)
  refine ⟨x, ?_, hp⟩
  have e : cs.toList = valOf x := hx
  obtain ⟨l⟩ := cs
  simp at e
  subst e
  rfl
end
end Go.Proofs.YtfmbbfidjcgeiaaGreat

namespace Go.Proofs.YtfmbbfidjcgeiaaGreat
open Go.ChangeShapes Go.WideShapes Go.ChangeAt Go.RowKit
open Go.ChangeMaps (open_string)

theorem cells_per : Tryz.prog.cellsOf 28 = 2 := by kernel_rfl
theorem cells_tup : Tryz.prog.cellsOf 70 = 4 := by kernel_rfl
theorem cells_ints : Tryz.prog.cellsOf 33 = 1 := by kernel_rfl
theorem cells_vals : Tryz.prog.cellsOf 51 = 1 := by kernel_rfl
section
variable {H : Type} {enc : TypeId × Value → H} {w : World} {spare : Nat → Bool}
/-- A tuple whose numbers are a machine's. -/
def IsTup (x : Tup) : Prop := Is64 x.lo ∧ Is64 x.hi ∧ (∀ v ∈ x.vals, IsVal v) ∧ ∀ i ∈ x.lin, Is64 i
set_option maxRecDepth 10000 in
theorem open_tup_el (n : Nat) (cs : List Value) (y : DataW H × List MemPlace) (h : DataW.trod enc Tryz.prog w 0 spare true n 70 cs = some y) (hl : cs.length = 4) : ∃ x, tupE.is w free x cs ∧ IsTup x := by
  obtain ⟨xs, k, hk, hxy, _, hxl, hf⟩ := DataW.trod_struct Tryz.underlying70 h
  match cs, hl with
  | [c0, c1, c2, c3], _ =>
    match xs, hxl with
    | [y0, y1, y2], _ =>
      have g0 := hf 0 _ rfl
      have g1 := hf 1 _ rfl
      have g2 := hf 2 _ rfl
      simp [cells_ints, cells_vals, cells_per] at g0 g1 g2
      obtain ⟨v, lv, e0, hv, pv⟩ := open_sl_trod valE IsVal Tryz.underlying51 cells_val open_val_el g0
      obtain ⟨u, lu, e2, hu, pu⟩ := open_sl_trod intE Is64 Tryz.underlying33 cells_int open_int_el g2
      obtain ⟨xs1, k1, _, _, _, hxl1, hf1⟩ := DataW.trod_struct Tryz.underlying28 g1
      match xs1, hxl1 with
      | [z0, z1], _ =>
        have f0 := hf1 0 _ rfl
        have f1 := hf1 1 _ rfl
        simp [cells_int] at f0 f1
        obtain ⟨k0, e3, _, w0⟩ := DataW.trod_int Tryz.underlying3 f0
        obtain ⟨k1, e4, _, w1⟩ := DataW.trod_int Tryz.underlying3 f1
        simp at e0 e2 e3 e4
        subst e0 e2 e3 e4
        exact ⟨⟨lv, k0, k1, lu⟩, ⟨_, _, rfl, hv, hu⟩, is64_of w0, is64_of w1, pv, pu⟩
end
end Go.Proofs.YtfmbbfidjcgeiaaGreat

namespace Go.Proofs.YtfmbbfidjcgeiaaGreat
open Go.ChangeShapes Go.WideShapes Go.ChangeAt Go.RowKit

theorem cells_w16 : Tryz.prog.cellsOf 23 = 1 := by kernel_rfl
theorem cells_u6 : Tryz.prog.cellsOf 80 = 6 := by kernel_rfl
theorem w16_of {n : Int} (h : (Lit.int .u16 n).wf = true) : ∃ k : Nat, n = (k : Int) ∧ k < 65536 := by
  simp [Lit.wf, IntKind.min, IntKind.max, IntKind.signed, IntKind.bits] at h
  obtain ⟨k, rfl⟩ := Int.eq_ofNat_of_zero_le h.1
  exact ⟨k, rfl, by omega⟩
theorem w8_of {n : Int} (h : (Lit.int .u8 n).wf = true) : ∃ k : Nat, n = (k : Int) ∧ k < 256 := by
  simp [Lit.wf, IntKind.min, IntKind.max, IntKind.signed, IntKind.bits] at h
  obtain ⟨k, rfl⟩ := Int.eq_ofNat_of_zero_le h.1
  exact ⟨k, rfl, by omega⟩
section
variable {H : Type} {enc : TypeId × Value → H} {w : World} {spare : Nat → Bool}
set_option maxRecDepth 100000 in
theorem open_b {base : Nat} {v : Value} {d : DataW H} {ps : List MemPlace} (hv : Value.okWide Tryz.prog w .any base 4 v) (_h : DataW.Trod enc Tryz.prog w 0 spare true 4 v d ps) : ∃ b : Bool, v = .bool b := by
  exact okWide_bool Tryz.underlying4 hv
set_option maxRecDepth 10000 in
theorem open_u6_el (n : Nat) (cs : List Value) (y : DataW H × List MemPlace) (h : DataW.trod enc Tryz.prog w 0 spare true n 80 cs = some y) (hl : cs.length = 6) : ∃ x, u6E.is w free x cs ∧ x.ok := by
  obtain ⟨xs, k, hk, hxy, _, hxl, hf⟩ := DataW.trod_array Tryz.underlying80 h
  match cs, hl with
  | [c0, c1, c2, c3, c4, c5], _ =>
    match xs, hxl with
    | [y0, y1, y2, y3, y4, y5], _ =>
      have g0 := hf 0 (by omega)
      have g1 := hf 1 (by omega)
      have g2 := hf 2 (by omega)
      have g3 := hf 3 (by omega)
      have g4 := hf 4 (by omega)
      have g5 := hf 5 (by omega)
      simp [cells_w16] at g0 g1 g2 g3 g4 g5
      obtain ⟨k0, e0, _, w0⟩ := DataW.trod_int Tryz.underlying23 g0
      obtain ⟨k1, e1, _, w1⟩ := DataW.trod_int Tryz.underlying23 g1
      obtain ⟨k2, e2, _, w2⟩ := DataW.trod_int Tryz.underlying23 g2
      obtain ⟨k3, e3, _, w3⟩ := DataW.trod_int Tryz.underlying23 g3
      obtain ⟨k4, e4, _, w4⟩ := DataW.trod_int Tryz.underlying23 g4
      obtain ⟨k5, e5, _, w5⟩ := DataW.trod_int Tryz.underlying23 g5
      simp at e0 e1 e2 e3 e4 e5
      subst e0 e1 e2 e3 e4 e5
      obtain ⟨n0, rfl, b0⟩ := w16_of w0
      obtain ⟨n1, rfl, b1⟩ := w16_of w1
      obtain ⟨n2, rfl, b2⟩ := w16_of w2
      obtain ⟨n3, rfl, b3⟩ := w16_of w3
      obtain ⟨n4, rfl, b4⟩ := w16_of w4
      obtain ⟨n5, rfl, b5⟩ := w16_of w5
      exact ⟨⟨n0, n1, n2, n3, n4, n5⟩, rfl, b0, b1, b2, b3, b4, b5⟩
end
end Go.Proofs.YtfmbbfidjcgeiaaGreat

namespace Go.Proofs.YtfmbbfidjcgeiaaGreat
open Go.ChangeShapes Go.WideShapes Go.ChangeAt Go.RowKit

theorem okWide_arr {P : Program} {w : World} {r : Reach} {base : Nat} {t e : TypeId} {n : Nat} {v : Value} (ht : P.underlying t = some (.array n e)) (h : Value.okWide P w r base t v) : ∃ cs, v = .agg cs ∧ cs.size = P.cellsOf t := by
  simp only [Value.okWide, ht] at h
  obtain ⟨cs, h1, h2, _⟩ := h
  exact ⟨cs, h1, h2⟩
theorem cells_u4 : Tryz.prog.cellsOf 24 = 4 := by kernel_rfl
section
variable {H : Type} {enc : TypeId × Value → H} {w : World} {spare : Nat → Bool}
set_option maxRecDepth 10000 in
theorem open_u4_el (n : Nat) (cs : List Value) (y : DataW H × List MemPlace) (h : DataW.trod enc Tryz.prog w 0 spare true n 24 cs = some y) (hl : cs.length = 4) : ∃ x0 x1 x2 x3 : Nat, cs = [.int .u16 (x0 : Int), .int .u16 (x1 : Int), .int .u16 (x2 : Int), .int .u16 (x3 : Int)] ∧ x0 < 65536 ∧ x1 < 65536 ∧ x2 < 65536 ∧ x3 < 65536 := by
  obtain ⟨xs, k, hk, hxy, _, hxl, hf⟩ := DataW.trod_array Tryz.underlying24 h
  match cs, hl with
  | [c0, c1, c2, c3], _ =>
    match xs, hxl with
    | [y0, y1, y2, y3], _ =>
      have g0 := hf 0 (by omega)
      have g1 := hf 1 (by omega)
      have g2 := hf 2 (by omega)
      have g3 := hf 3 (by omega)
      simp [cells_w16] at g0 g1 g2 g3
      obtain ⟨k0, e0, _, w0⟩ := DataW.trod_int Tryz.underlying23 g0
      obtain ⟨k1, e1, _, w1⟩ := DataW.trod_int Tryz.underlying23 g1
      obtain ⟨k2, e2, _, w2⟩ := DataW.trod_int Tryz.underlying23 g2
      obtain ⟨k3, e3, _, w3⟩ := DataW.trod_int Tryz.underlying23 g3
      simp at e0 e1 e2 e3
      subst e0 e1 e2 e3
      obtain ⟨n0, rfl, b0⟩ := w16_of w0
      obtain ⟨n1, rfl, b1⟩ := w16_of w1
      obtain ⟨n2, rfl, b2⟩ := w16_of w2
      obtain ⟨n3, rfl, b3⟩ := w16_of w3
      exact ⟨n0, n1, n2, n3, rfl, b0, b1, b2, b3⟩
set_option maxRecDepth 100000 in
theorem open_u4 {base : Nat} {v : Value} {d : DataW H} {ps : List MemPlace} (hv : Value.okWide Tryz.prog w .any base 24 v) (h : DataW.Trod enc Tryz.prog w 0 spare true 24 v d ps) : ∃ x0 x1 x2 x3 : Nat, v = .agg #[.int .u16 (x0 : Int), .int .u16 (x1 : Int), .int .u16 (x2 : Int), .int .u16 (x3 : Int)] ∧ x0 < 65536 ∧ x1 < 65536 ∧ x2 < 65536 ∧ x3 < 65536 := by
  obtain ⟨cs, rfl, hs⟩ := okWide_arr Tryz.underlying24 hv
  obtain ⟨fuel, hf⟩ := h
  obtain ⟨x0, x1, x2, x3, e, hb⟩ := open_u4_el _ _ _ hf (by rw [cells_u4] at hs; simpa [Value.cells] using hs)
  obtain ⟨l⟩ := cs
  simp [Value.cells] at e
  subst e
  exact ⟨x0, x1, x2, x3, rfl, hb⟩
end
end Go.Proofs.YtfmbbfidjcgeiaaGreat
