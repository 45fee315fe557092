/- A part of the proofs of the laws of chapter 19: Cur, Pse. No condition beside sizes. -/
import Derived.Test.YtminnkihcohflaaMgR
namespace Go.Proofs.Ytminnkihcohflaa
open Go.RowKit Go.Lib Go.Maps Go.Shelf

section
variable {P : Program} {α : Type}
theorem setL_take_at (us xs : List Value) (s i k j : Nat) (hj : j + us.length ≤ s) (hk : k * s + s ≤ xs.length) : ((setL xs (k * s + j) us).drop (i * s)).take s = if i = k then setL ((xs.drop (i * s)).take s) j us else (xs.drop (i * s)).take s := by
  refine List.ext_getElem? fun m => ?_
  rw [List.getElem?_take, List.getElem?_drop, setL_get]
  by_cases hm : m < s
  · rw [if_pos hm]
    by_cases hik : i = k
    · subst hik
      rw [if_pos rfl, setL_get, List.length_take, List.length_drop, List.getElem?_take, if_pos hm, List.getElem?_drop]
      by_cases h : j ≤ m ∧ m < j + us.length
      · rw [if_pos (by omega), if_pos (by omega), show i * s + m - (i * s + j) = m - j by omega]
      · rw [if_neg (by omega), if_neg (by omega)]
    · rw [if_neg hik, List.getElem?_take, if_pos hm, List.getElem?_drop, if_neg]
      intro h
      rcases Nat.lt_or_gt_of_ne hik with h' | h'
      · have := Nat.mul_le_mul_right s (show i + 1 ≤ k from h'); rw [Nat.add_mul, Nat.one_mul] at this; omega
      · have := Nat.mul_le_mul_right s (show k + 1 ≤ i from h'); rw [Nat.add_mul, Nat.one_mul] at this; omega
  · rw [if_neg hm]
    split
    · rw [List.getElem?_eq_none]
      rw [setL_length, List.length_take]
      omega
    · rw [List.getElem?_take, if_neg hm]
/-- Some cells of one element are stored anew. -/
theorem Own.put_at {E : El P α} {w : World} {B g n c k j : Nat} {l : List α} {y : α} {us : List Value} (h : Own E w B (.slice (some ⟨g, 0, none⟩) n c) l) (hn : l.length = n) (hk : k < n) (hj : j + us.length ≤ E.size)
    (hx : ∀ x cs, l[k]? = some x → E.is w (fun m => some m = some g) x cs → E.is w (fun m => some m = some g) y (setL cs j us)) :
    Own E (w.setCells g (k * E.size + j) us) B (.slice (some ⟨g, 0, none⟩) n c) (l.set k y) ∧ w.grownBy (w.setCells g (k * E.size + j) us) (some g) := by
  obtain ⟨xs, h1, h2⟩ := h
  rw [hn] at h1
  obtain ⟨h3, h4⟩ := owns_setCells us w xs (k * E.size + j) h1
  have hK : Kept (fun m => some m = some g) w (w.setCells g (k * E.size + j) us) := .of_grown h4
  have hxl : xs.length = n * E.size := h1.1
  have hb : k * E.size + E.size ≤ xs.length := by
    have := Nat.mul_le_mul_right E.size (show k + 1 ≤ n from hk); rw [Nat.add_mul, Nat.one_mul] at this; omega
  refine ⟨⟨_, by rw [List.length_set, hn]; exact h3, fun i z hz => ?_⟩, h4⟩
  rw [setL_take_at us xs E.size i k j hj hb]
  by_cases hik : i = k
  · subst hik
    rw [if_pos rfl]
    rw [List.getElem?_set_self (by omega)] at hz
    cases hz
    have hl : l[i]? = some l[i] := List.getElem?_eq_getElem (by omega)
    exact E.kept (hx _ _ hl (h2 i _ hl)) hK
  · rw [if_neg hik]
    rw [List.getElem?_set_ne (Ne.symm hik)] at hz
    exact E.kept (h2 i z hz) hK
theorem Own.shape_pos {E : El P α} {w : World} {B : Nat} {v : Value} {l : List α} (h : Own E w B v l) (hp : 0 < l.length) : ∃ g c, v = .slice (some ⟨g, 0, none⟩) l.length c := by
  obtain ⟨xs, h1, _⟩ := h
  rcases h1.2 with ⟨_, h⟩ | ⟨g, cap, cur, e, _⟩
  · omega
  · exact ⟨g, cap, e⟩
end
/-- A version as it is when it was recorded at instant 1 and is current. -/
def curV (x : Ver) : Ver := { x with rlo := 1, rhi := 1099511627776 }
theorem ver_rec {w : World} {B g n c k : Nat} {l : List Ver} {x : Ver} (h : Own verE w B (.slice (some ⟨g, 0, none⟩) n c) l) (hn : l.length = n) (hk : l[k]? = some x) :
    Own verE ((w.setCell ⟨g, k * 6 + 4, none⟩ (.int .i64 1)).setCell ⟨g, k * 6 + 5, none⟩ (.int .i64 1099511627776)) B (.slice (some ⟨g, 0, none⟩) n c) (l.set k (curV x)) ∧
    w.grownBy ((w.setCell ⟨g, k * 6 + 4, none⟩ (.int .i64 1)).setCell ⟨g, k * 6 + 5, none⟩ (.int .i64 1099511627776)) (some g) := by
  have hk1 := (List.getElem?_eq_some_iff.1 hk).1
  refine Own.put_at (E := verE) (us := [.int .i64 1, .int .i64 1099511627776]) (j := 4) h hn (by omega) (by decide) fun y cs hy hcs => ?_
  rw [hk] at hy
  cases hy
  obtain ⟨v, rfl, hv⟩ := hcs
  exact ⟨v, rfl, hv⟩
theorem cur_step {l : List Ver} {k : Nat} {x : Ver} (hk : l[k]? = some x) : ((l.take k).map curV ++ l.drop k).set k (curV x) = (l.take (k + 1)).map curV ++ l.drop (k + 1) := by
  have hk1 := (List.getElem?_eq_some_iff.1 hk).1
  rw [drop_get hk, take_get hk, List.map_append, List.set_append_right _ _ (by rw [List.length_map, List.length_take]; omega)]
  rw [show k - ((l.take k).map curV).length = 0 by rw [List.length_map, List.length_take]; omega]
  simp
theorem cur_at {l : List Ver} {k : Nat} {x : Ver} (hk : l[k]? = some x) : ((l.take k).map curV ++ l.drop k)[k]? = some x := by
  have hk1 := (List.getElem?_eq_some_iff.1 hk).1
  rw [List.getElem?_append_right (by rw [List.length_map, List.length_take]; omega), drop_get hk, show k - ((l.take k).map curV).length = 0 by rw [List.length_map, List.length_take]; omega]
  rfl
theorem cur_len {l : List Ver} {k : Nat} : ((l.take k).map curV ++ l.drop k).length = l.length := by
  rw [List.length_append, List.length_map, List.length_take, List.length_drop]
  omega
def curL (xs : List U6) : List Ver := (versL 1 xs).map curV

set_option maxHeartbeats 4000000 in
set_option maxRecDepth 100000 in
theorem curV_any (v : Value) (l : List U6) (w : World) (hv : Sl u6E w free v l) (hok : ∀ x ∈ l, x.ok) :
    Calls Try.prog 32 #[v] w (RetOwn verE w (curL (l.take 10))) := by
  have CVS : Calls Try.prog 28 #[v, .int .i64 10, .int .i64 1] w (RetOwn verE w (versL 1 (l.take 10))) := versions_any v l 10 1 (by decide) (by decide) w hv hok
  unfold curL
  have hlen : (versL 1 (l.take 10)).length ≤ 10 := versL_take 1 l 10
  generalize versL 1 (l.take 10) = L at CVS hlen ⊢
  have HVS := Lib.hid CVS
  have HLEN := Lib.hid hlen
  clear CVS hlen hv hok
  go_enter Try.func32, Try.ntmps32
  go_wp2_with fail
  refine HVS.out.mono ?_
  rintro _ w1 ⟨vl, rfl, hl, hb1⟩
  obtain ⟨a, c, rfl⟩ := hl.shape
  obtain ⟨n, hn⟩ : ∃ n, n = L.length := ⟨_, rfl⟩
  rw [← hn] at hl ⊢
  have HN := Lib.hid hn
  have HL := Lib.hid hl
  have HB1 := Lib.hid hb1
  have hn10 : n ≤ 10 := by rw [hn]; exact HLEN.out
  clear hl hb1 HVS hn
  go_wp2_with fail
  go_loopw [9] (fun i wr => ∃ k : Nat, k ≤ n ∧ i = .int .i64 k ∧ Own verE wr w.heap.size (.slice a n c) ((L.take k).map curV ++ L.drop k) ∧ Hid (Below w.heap.size w wr)) (fun i _ => n - (intOf i).toNat)
  case atStart => exact ⟨0, Nat.zero_le _, rfl, HL.out, HB1⟩
  case round =>
    obtain ⟨k, hk, rfl, hO, HB⟩ := hrel
    obtain ⟨wo, rfl⟩ : ∃ wo : World, wo = wr := ⟨_, rfl⟩
    have hlen : ((L.take k).map curV ++ L.drop k).length = n := by rw [cur_len]; exact HN.out.symm
    by_cases hlt : k < n
    · obtain ⟨x, hx⟩ := lget_some L k (by rw [← HN.out]; exact hlt)
      have hs := hO.shape_pos (by omega)
      rw [hlen] at hs
      obtain ⟨g, c', e⟩ := hs
      cases e
      have hat := cur_at hx
      obtain ⟨cs, ⟨v', rfl, _⟩, hc⟩ := hO.at hat
      have p4 : wo.cell? ⟨g, k * 6 + 4, none⟩ = some (.int .i64 x.rlo) := hc 4 _ rfl
      have p5 : wo.cell? ⟨g, k * 6 + 5, none⟩ = some (.int .i64 x.rhi) := hc 5 _ rfl
      have f4 := hO.frozen hlen (k * 6 + 4)
      have f5 := hO.frozen hlen (k * 6 + 5)
      obtain ⟨hO2, hg2⟩ := ver_rec hO hlen hat
      rw [cur_step hx] at hO2
      have HO2 := Lib.hid hO2
      have HB2 : Hid (Below w.heap.size w ((wo.setCell ⟨g, k * 6 + 4, none⟩ (.int .i64 1)).setCell ⟨g, k * 6 + 5, none⟩ (.int .i64 1099511627776))) := (HB.out.setCell (p := ⟨g, k * 6 + 4, none⟩) (hO.lt g rfl).1 _).setCell (p := ⟨g, k * 6 + 5, none⟩) (hO.lt g rfl).1 _
      clear hO hO2 hg2 hc hat hx hlen
      go_wp2_with fail
      go_roundw
      case rel => exact ⟨k + 1, by omega, by go_num, HO2.out, HB2⟩
      case measure => simp [intOf]; omega
    · have HO : Hid (Own verE wo w.heap.size (.slice a n c) (L.map curV)) := by
        rw [List.take_of_length_le (by rw [← HN.out]; omega), List.drop_of_length_le (by rw [← HN.out]; omega), List.append_nil] at hO
        exact Lib.hid hO
      clear hO hlen
      go_wp2_with fail
      go_ret
      exact ⟨_, rfl, HO.out, HB.out⟩
end Go.Proofs.Ytminnkihcohflaa

namespace Go.Proofs.Ytminnkihcohflaa
open Go.RowKit Go.Lib

theorem affV_mem {plo phi : Int} {e : List GExp} {pred : Int} {L : List Ver} {v : Ver} (h : v ∈ affV plo phi e pred L) : v ∈ L ∧ v.rhi = 1099511627776 ∧ isOk v.lo v.hi plo phi = true := by
  obtain ⟨h1, h2⟩ := aff_ok _ _ _ _ _ _ h
  unfold keepV at h2
  simp only [Bool.and_eq_true, beq_iff_eq] at h2
  exact ⟨h1, h2.1.1, h2.1.2⟩
theorem affV_nodup {plo phi : Int} {e : List GExp} {pred : Int} {L : List Ver} (h : (L.map Ver.id).Nodup) : ((affV plo phi e pred L).map Ver.id).Nodup := by
  have h1 : ((affV plo phi e pred L).map Ver.id).Perm ((L.filter (keepV plo phi e pred)).map Ver.id) := (sortV_perm _).map _
  exact h1.nodup_iff.2 (h.sublist (List.filter_sublist.map _))
theorem affV_len {plo phi : Int} {e : List GExp} {pred : Int} (L : List Ver) : (affV plo phi e pred L).length ≤ L.length := by
  have h : (affV plo phi e pred L).length = (L.filter (keepV plo phi e pred)).length := (sortV_perm _).length_eq
  rw [h]
  exact List.length_filter_le _ _
/-- What the laws' versions are like. -/
structure Fit (L : List Ver) (n first : Int) : Prop where
  ids : (L.map Ver.id).Nodup
  lt : ∀ v ∈ L, v.id < first
  old : ∀ v ∈ L, v.rlo ≤ n
  days : ∀ v ∈ L, 0 ≤ v.lo ∧ v.lo < v.hi ∧ v.hi ≤ 1000000
theorem edit_e (plo phi : Int) (e : List GExp) (pred : Int) (chg : Option (List GVal → List GVal)) (L : List Ver) (n first : Int) (hL : Fit L n first) (hn : 0 ≤ n) (hn2 : n < 1099511627776) (hf : 1 ≤ first) (hf2 : first ≤ 1099511627776) :
    applyE L ((affV plo phi e pred L).map Ver.id) ((affV plo phi e pred L).flatMap (partsV plo phi chg)) n first = 0 := by
  have hbad : argBad L n first = false := by
    unfold argBad
    simp only [Bool.or_eq_false_iff, decide_eq_false_iff_not, Bool.not_eq_false', decide_eq_true_eq]
    refine ⟨⟨⟨⟨⟨by omega, by omega⟩, by omega⟩, by omega⟩, ?_⟩, hL.ids⟩
    rw [List.any_eq_false]
    intro v hv
    have := hL.lt v hv
    simp only [decide_eq_true_eq]
    omega
  have hok : okC L ((affV plo phi e pred L).map Ver.id) = true := by
    unfold okC
    rw [Bool.and_eq_true, List.all_eq_true, decide_eq_true_eq]
    refine ⟨fun id hid => ?_, affV_nodup hL.ids⟩
    obtain ⟨v, hv, rfl⟩ := List.mem_map.1 hid
    obtain ⟨h1, h2, _⟩ := affV_mem hv
    exact List.any_eq_true.2 ⟨v, h1, by simp [h2]⟩
  have hlate : lateC L ((affV plo phi e pred L).map Ver.id) n = false := by
    unfold lateC
    rw [List.any_eq_false]
    intro id _ hb
    obtain ⟨v, hv, hb⟩ := List.any_eq_true.1 hb
    simp only [Bool.and_eq_true, decide_eq_true_eq] at hb
    have := hL.old v hv
    omega
  have hdays : (((affV plo phi e pred L).flatMap (partsV plo phi chg)).any fun t => !pdays t.lo t.hi) = false := by
    rw [List.any_eq_false]
    intro t ht
    obtain ⟨v, hv, ht⟩ := List.mem_flatMap.1 ht
    obtain ⟨h1, _, h3⟩ := affV_mem hv
    obtain ⟨g1, g2, g3⟩ := hL.days v h1
    have := parts_days (chg := chg) g1 g2 g3 h3 t ht
    simp [this]
  unfold applyE
  rw [hbad, hok, hlate, hdays]
  rfl
theorem curL_mem {xs : List U6} {v : Ver} (h : v ∈ curL xs) : ∃ (i : Nat) (x : U6), xs[i]? = some x ∧ v = curV (verOf (1 + i) x) := by
  unfold curL at h
  obtain ⟨u, hu, rfl⟩ := List.mem_map.1 h
  obtain ⟨i, x, hi, rfl⟩ := versL_mem hu
  exact ⟨i, x, hi, rfl⟩
theorem curL_ids (xs : List U6) : (curL xs).map Ver.id = (versL 1 xs).map Ver.id := by
  unfold curL
  rw [List.map_map]
  rfl
theorem curL_length (xs : List U6) : (curL xs).length = xs.length := by unfold curL; rw [List.length_map, versL_length]
theorem curL_fit (xs : List U6) (n first : Int) (hn : 1 ≤ n) (hf : (xs.length : Int) < first) : Fit (curL xs) n first where
  ids := by rw [curL_ids]; exact versL_nodup 1 xs
  lt := by
    intro v hv
    obtain ⟨i, x, hi, rfl⟩ := curL_mem hv
    have := (List.getElem?_eq_some_iff.1 hi).1
    show 1 + (i : Int) < first
    omega
  old := by
    intro v hv
    obtain ⟨i, x, hi, rfl⟩ := curL_mem hv
    exact hn
  days := by
    intro v hv
    obtain ⟨i, x, hi, rfl⟩ := curL_mem hv
    obtain ⟨g1, _, g2, g3⟩ := gper_ok x.x0 x.x1
    exact ⟨g1, g2, g3⟩
theorem curL_rec {xs : List U6} : ∀ v ∈ curL xs, v.rlo = 1 ∧ v.rhi = 1099511627776 := by
  intro v hv
  obtain ⟨i, x, hi, rfl⟩ := curL_mem hv
  exact ⟨rfl, rfl⟩
theorem curL_n {xs : List U6} : ∀ x ∈ curL xs, ∀ g ∈ x.vals, In64 g.n := by
  intro v hv
  unfold curL at hv
  obtain ⟨u, hu, rfl⟩ := List.mem_map.1 hv
  exact verOf_n u hu
theorem curL_len {xs : List U6} : ∀ x ∈ curL xs, x.vals.length ≤ 1000 := by
  intro v hv
  unfold curL at hv
  obtain ⟨u, hu, rfl⟩ := List.mem_map.1 hv
  exact verOf_len u hu
theorem curL_id {xs : List U6} (hl : xs.length ≤ 1000) : ∀ x ∈ curL xs, In64 x.id := by
  intro v hv
  unfold curL at hv
  obtain ⟨u, hu, rfl⟩ := List.mem_map.1 hv
  exact verOf_id hl u hu
/-- At the instant of the versions: what is closed is dropped. -/
theorem keep_same {L : List Ver} (cl : List Int) (h : ∀ v ∈ L, v.rlo = 1) : L.flatMap (keepOne cl 1) = L.filter fun v => !cl.contains v.id := by
  induction L with
  | nil => rfl
  | cons v L ih =>
    rw [List.flatMap_cons, ih (fun u hu => h u (List.mem_cons_of_mem _ hu))]
    have h1 := h v (List.mem_cons_self ..)
    unfold keepOne
    by_cases hc : cl.contains v.id = true
    · rw [if_pos hc, if_pos (by simp [h1]), List.filter_cons_of_neg (by simp only [hc]; decide), List.nil_append]
    · rw [if_neg hc, List.filter_cons_of_pos (by simpa using hc)]
      rfl
theorem same_rec (cl : List Int) (ad : List Tup) (xs : List U6) : ∀ v ∈ applyL (curL xs) cl ad 1 100, v.rlo = 1 ∧ v.rhi = 1099511627776 := by
  intro v hv
  unfold applyL at hv
  rcases List.mem_append.1 hv with hv | hv
  · rw [keep_same cl (fun u hu => (curL_rec u hu).1)] at hv
    exact curL_rec v (List.mem_filter.1 hv).1
  · unfold newV at hv
    obtain ⟨i, hi, rfl⟩ := List.mem_mapIdx.1 hv
    exact ⟨rfl, rfl⟩
theorem closed_len {L : List Ver} {cl : List Int} (hnd : (L.map Ver.id).Nodup) (hcl : cl.Nodup) (hm : ∀ i ∈ cl, i ∈ L.map Ver.id) : (L.filter fun v => !cl.contains v.id).length + cl.length = L.length := by
  have h1 : ((L.filter fun v => cl.contains v.id).map Ver.id).Perm cl := by
    refine (List.perm_ext_iff_of_nodup (hnd.sublist (List.filter_sublist.map _)) hcl).2 fun i => ?_
    constructor
    · intro h
      obtain ⟨v, hv, rfl⟩ := List.mem_map.1 h
      simpa using (List.mem_filter.1 hv).2
    · intro h
      obtain ⟨v, hv, rfl⟩ := List.mem_map.1 (hm i h)
      exact List.mem_map.2 ⟨v, List.mem_filter.2 ⟨hv, by simpa using h⟩, rfl⟩
  have h2 := h1.length_eq
  rw [List.length_map] at h2
  rw [← h2]
  clear h1 h2 hnd hcl hm
  induction L with
  | nil => rfl
  | cons v L ih =>
    by_cases hc : cl.contains v.id = true
    · rw [List.filter_cons_of_neg (by simp only [hc]; decide), List.filter_cons_of_pos (p := fun v : Ver => cl.contains v.id) hc, List.length_cons, List.length_cons]
      omega
    · rw [List.filter_cons_of_pos (by simpa using hc), List.filter_cons_of_neg (p := fun v : Ver => cl.contains v.id) hc, List.length_cons, List.length_cons]
      omega
theorem same_len (plo phi : Int) (e : List GExp) (pred : Int) (ad : List Tup) (xs : List U6) :
    (applyL (curL xs) ((affV plo phi e pred (curL xs)).map Ver.id) ad 1 100).length + ((affV plo phi e pred (curL xs)).map Ver.id).length = xs.length + ad.length := by
  have hnd : ((curL xs).map Ver.id).Nodup := by rw [curL_ids]; exact versL_nodup 1 xs
  unfold applyL
  rw [keep_same _ (fun u hu => (curL_rec u hu).1), List.length_append, newV_length]
  have := closed_len (L := curL xs) (cl := (affV plo phi e pred (curL xs)).map Ver.id) hnd (affV_nodup hnd) (fun i hi => by
    obtain ⟨v, hv, rfl⟩ := List.mem_map.1 hi
    exact List.mem_map.2 ⟨v, (affV_mem hv).1, rfl⟩)
  rw [curL_length] at this
  omega
end Go.Proofs.Ytminnkihcohflaa
