/- A part of the proofs: Put, Wkc, LawTKeep. No condition beside sizes and tables that read as laid. -/
import Derived.Test.YtnfccpkmaebbiaaGreatDoorMgAa
import Derived.Test.YtnfccpkmaebbiaaGreatDoorMgAd
import Derived.Test.YtnfccpkmaebbiaaGreatDoorCards
import Derived.Test.YtnfccpkmaebbiaaGreatDoorTie
namespace Go.Proofs.YtnfccpkmaebbiaaGreatDoor
open Go.RowKit Go.Lib

section
variable {P : Program} {α : Type}
theorem setL_take_at (us xs : List Value) (s i k j : Nat) (hj : j + us.length ≤ s) (hk : k * s + s ≤ xs.length) : ((setL xs (k * s + j) us).drop (i * s)).take s = if i = k then setL ((xs.drop (i * s)).take s) j us else (xs.drop (i * s)).take s := by
  refine List.ext_getElem? fun m => ?_
  rw [List.getElem?_take, List.getElem?_drop, setL_get]
  by_cases hm : m < s
  · rw [if_pos hm]
    by_cases hik : i = k
    · subst hik
      rw [if_pos rfl, setL_get, List.length_take, List.length_drop, List.getElem?_take, if_pos hm, List.getElem?_drop]
      by_cases h : j ≤ m ∧ m < j + us.length
      · rw [if_pos (by omega), if_pos (by omega), show i * s + m - (i * s + j) = m - j by omega]
      · rw [if_neg (by omega), if_neg (by omega)]
    · rw [if_neg hik, List.getElem?_take, if_pos hm, List.getElem?_drop, if_neg]
      intro h
      rcases Nat.lt_or_gt_of_ne hik with h' | h'
      · have := Nat.mul_le_mul_right s (show i + 1 ≤ k from h'); rw [Nat.add_mul, Nat.one_mul] at this; omega
      · have := Nat.mul_le_mul_right s (show k + 1 ≤ i from h'); rw [Nat.add_mul, Nat.one_mul] at this; omega
  · rw [if_neg hm]
    split
    · rw [List.getElem?_eq_none]
      rw [setL_length, List.length_take]
      omega
    · rw [List.getElem?_take, if_neg hm]
/-- Some cells of one element are stored anew. -/
theorem Own.put_at {E : El P α} {w : World} {B g n c k j : Nat} {l : List α} {y : α} {us : List Value} (h : Own E w B (.slice (some ⟨g, 0, none⟩) n c) l) (hn : l.length = n) (hk : k < n) (hj : j + us.length ≤ E.size)
    (hx : ∀ x cs, l[k]? = some x → E.is w (fun m => some m = some g) x cs → E.is w (fun m => some m = some g) y (setL cs j us)) :
    Own E (w.setCells g (k * E.size + j) us) B (.slice (some ⟨g, 0, none⟩) n c) (l.set k y) ∧ w.grownBy (w.setCells g (k * E.size + j) us) (some g) := by
  obtain ⟨xs, h1, h2⟩ := h
  rw [hn] at h1
  obtain ⟨h3, h4⟩ := owns_setCells us w xs (k * E.size + j) h1
  have hK : Kept (fun m => some m = some g) w (w.setCells g (k * E.size + j) us) := .of_grown h4
  have hxl : xs.length = n * E.size := h1.1
  have hb : k * E.size + E.size ≤ xs.length := by
    have := Nat.mul_le_mul_right E.size (show k + 1 ≤ n from hk); rw [Nat.add_mul, Nat.one_mul] at this; omega
  refine ⟨⟨_, by rw [List.length_set, hn]; exact h3, fun i z hz => ?_⟩, h4⟩
  rw [setL_take_at us xs E.size i k j hj hb]
  by_cases hik : i = k
  · subst hik
    rw [if_pos rfl]
    rw [List.getElem?_set_self (by omega)] at hz
    cases hz
    have hl : l[i]? = some l[i] := List.getElem?_eq_getElem (by omega)
    exact E.kept (hx _ _ hl (h2 i _ hl)) hK
  · rw [if_neg hik]
    rw [List.getElem?_set_ne (Ne.symm hik)] at hz
    exact E.kept (h2 i z hz) hK
theorem Own.shape_pos {E : El P α} {w : World} {B : Nat} {v : Value} {l : List α} (h : Own E w B v l) (hp : 0 < l.length) : ∃ g c, v = .slice (some ⟨g, 0, none⟩) l.length c := by
  obtain ⟨xs, h1, _⟩ := h
  rcases h1.2 with ⟨_, h⟩ | ⟨g, cap, cur, e, _⟩
  · omega
  · exact ⟨g, cap, e⟩
end
end Go.Proofs.YtnfccpkmaebbiaaGreatDoor

namespace Go.Proofs.YtnfccpkmaebbiaaGreatDoor
open Go.RowKit Go.Lib

/-- The lineage of one element is stored anew. -/
theorem lin_put {w : World} {B g n c k : Nat} {l : List Tup} {x : Tup} {u : Value} {z : List Int} (h : Own tupE w B (.slice (some ⟨g, 0, none⟩) n c) l) (hn : l.length = n) (hk : l[k]? = some x) (hu : Sl intE w (fun m => some m = some g) u z) :
    Own tupE (w.setCell ⟨g, k * 4 + 3, none⟩ u) B (.slice (some ⟨g, 0, none⟩) n c) (l.set k { x with lin := z }) ∧ w.grownBy (w.setCell ⟨g, k * 4 + 3, none⟩ u) (some g) := by
  have hk1 := (List.getElem?_eq_some_iff.1 hk).1
  refine Own.put_at (E := tupE) (us := [u]) (j := 3) h hn (by omega) (show 3 + 1 ≤ 4 by decide) fun y cs hy hcs => ?_
  rw [hk] at hy
  cases hy
  obtain ⟨v, u0, rfl, h1, _⟩ := hcs
  exact ⟨v, u, rfl, h1, hu⟩
def chM (v : List GVal) (f g : Nat → List Int) (m k : Nat) : List Tup := chL v (fun i => if i < m then g i else f i) k
theorem chM_zero (v : List GVal) (f g : Nat → List Int) (k : Nat) : chM v f g 0 k = chL v f k := by
  unfold chM
  congr 1
theorem chM_all (v : List GVal) (f g : Nat → List Int) (k : Nat) : chM v f g k k = chL v g k := by
  unfold chM chL
  refine List.map_congr_left fun i hi => ?_
  have h := List.mem_range.1 hi
  simp [h]
theorem chM_at (v : List GVal) (f g : Nat → List Int) (m k : Nat) (h : m < k) : (chM v f g m k)[m]? = some ⟨v, 3 * (m : Int), 3 * (m : Int) + 3, f m⟩ := by
  unfold chM chL
  rw [List.getElem?_map, List.getElem?_range h]
  simp
theorem chM_set (v : List GVal) (f g : Nat → List Int) (m k : Nat) (h : m < k) : (chM v f g m k).set m ⟨v, 3 * (m : Int), 3 * (m : Int) + 3, g m⟩ = chM v f g (m + 1) k := by
  refine List.ext_getElem? fun i => ?_
  unfold chM chL
  rw [List.getElem?_set]
  by_cases him : m = i
  · subst him
    rw [if_pos rfl, if_pos (by simpa using h), List.getElem?_map, List.getElem?_range h]
    simp
  · rw [if_neg him, List.getElem?_map, List.getElem?_map]
    rcases Nat.lt_or_ge i k with hi | hi
    · rw [List.getElem?_range hi]
      simp only [Option.map_some]
      congr 2
      by_cases h1 : i < m
      · rw [if_pos h1, if_pos (by omega)]
      · rw [if_neg h1, if_neg (by omega)]
    · rw [List.getElem?_eq_none (by simpa using hi)]
      rfl
set_option maxHeartbeats 4000000 in
set_option maxRecDepth 100000 in
theorem tkeep_walk (x y nn : Nat) (w : World) (hx : x < 65536) (hy : y < 65536) (_hnn : nn < 256) (hT : Pow w) :
    Calls Tryz.prog 8 #[.int .u16 (x : Int), .int .u16 (y : Int), .int .u8 (nn : Int)] w fun e w' => e = .returned (.bool true) ∧ Below w.heap.size w w' := by
  have CV := fun W => Lib.hid (vals_any x y hx hy W)
  have hkey : ∀ (f : Nat → List Int) (k : Nat), (∀ i, i < k → (f i).length ≤ 1000 ∧ ∀ j ∈ f i, In64 j) → ∀ t ∈ chL [gval0 x, gval1 y] f k, Keyable t.row := fun f k h t ht => by
    obtain ⟨i, hi, rfl⟩ := chL_mem ht
    exact keyable_small x y (f i) (h i hi).1 (h i hi).2
  obtain ⟨V, hV⟩ : ∃ V, V = [gval0 x, gval1 y] := ⟨_, rfl⟩
  have hVl : V.length = 2 := by rw [hV]; rfl
  rw [← hV] at CV hkey
  have HKEY := Lib.hid hkey
  have HT := Lib.hid hT
  obtain ⟨m, hm⟩ : ∃ m : Nat, m = nn % 10 := ⟨_, rfl⟩
  have e1 : (nn : Int) % 10 = (m : Int) := by omega
  have e2 : IntKind.i64.wrap (m : Int) = m := IntWalk.i64_in _ (by omega)
  obtain ⟨n, hn⟩ : ∃ n : Nat, n = 1 + m := ⟨_, rfl⟩
  have e3 : (1 : Int) + (m : Int) = (n : Int) := by omega
  have e4 : IntKind.i64.wrap (n : Int) = n := IntWalk.i64_in _ (by omega)
  have hn1 : 1 ≤ n := by omega
  have hn2 : n ≤ 10 := by omega
  clear hkey hT hV hm hn hx hy
  go_enter Tryz.func8, Tryz.ntmps8
  go_wp2_with fail
  clear e1
  go_loopw [9, 7] (fun i o wr => ∃ k : Nat, k ≤ n ∧ i = .int .i64 k ∧ Own tupE wr w.heap.size o (chL V (fun i => [1 + (i : Int)]) k) ∧ Hid (Below w.heap.size w wr)) (fun i _ _ => n - (intOf i).toNat)
  case atStart => exact ⟨0, Nat.zero_le _, rfl, Own.nil _ _ _, Lib.hid (Below.refl _ _)⟩
  case round =>
    obtain ⟨k, hk, rfl, hO, HB⟩ := hrel
    obtain ⟨wo, rfl⟩ : ∃ wo : World, wo = wr := ⟨_, rfl⟩
    obtain ⟨oa, oc, rfl⟩ := hO.shape
    rw [chL_length] at hO ⊢
    obtain ⟨acc, hacc⟩ : ∃ acc, acc = chL V (fun i => [1 + (i : Int)]) k := ⟨_, rfl⟩
    rw [← hacc] at hO
    have hal : acc.length = k := by rw [hacc, chL_length]
    have HACC := Lib.hid hacc
    clear hacc
    by_cases hlt : k < n
    · have i1 : IntKind.i64.wrap (3 * (k : Int)) = 3 * (k : Int) := IntWalk.i64_in _ (by omega)
      have i2 : IntKind.i64.wrap (3 * (k : Int) + 3) = 3 * (k : Int) + 3 := IntWalk.i64_in _ (by omega)
      have i3 : IntKind.i64.wrap (1 + (k : Int)) = 1 + (k : Int) := IntWalk.i64_in _ (by omega)
      have HO := Lib.hid hO
      have hlt' : ∀ j, (Value.slice oa k oc).ownBlock = some j → w.heap.size ≤ j ∧ j < wo.heap.size := hO.lt
      have HAL := Lib.hid hal
      clear hO hal
      go_wp2_with fail
      refine (CV wo).out.mono ?_
      rintro _ w2 ⟨a2, c2, rfl, hvv, hb2⟩
      have HB2 := Lib.hid (below_keep HB.out hb2)
      have HO2 := Lib.hid (HO.out.below hb2)
      rw [hVl] at hvv ⊢
      have hba := below_alloc w2 (.cells #[.int .i64 (1 + (k : Int))] 3)
      have HIS : Hid (Els tupE (w2.alloc (.cells #[.int .i64 (1 + (k : Int))] 3)) (fun kk => some kk = (Value.slice oa k oc).ownBlock) [⟨V, 3 * (k : Int), 3 * (k : Int) + 3, [1 + (k : Int)]⟩] [.slice a2 2 c2, .int .i64 (3 * (k : Int)), .int .i64 (3 * (k : Int) + 3), .slice (some ⟨w2.heap.size, 0, none⟩) 1 1]) := by
        refine Els.one ⟨_, _, rfl, ((hvv.below hba).mono fun j _ hj => (hlt' j hj.symm).2), ?_⟩
        exact (Sl.of_block (n := 1) (m := 1) (World.alloc_heap_new w2 _) (Els.one rfl) (fun hj => by have := (hlt' _ hj.symm).2; have := hb2.size; omega) rfl (by simp) (by simp))
      have HBA := Lib.hid (below_keep HB2.out hba)
      have HOA := Lib.hid (HO2.out.below hba)
      clear hvv hb2 hba HO HB HO2 hlt'
      go_wp2_with (at_builtin; go_loud (refine wpList_push rfl (.tmp 22) (.tmp 36) 22 rfl tupE Tryz.underlying22 w.heap.size (.slice oa k oc) acc rfl HOA.out [⟨V, 3 * (k : Int), 3 * (k : Int) + 3, [1 + (k : Int)]⟩] #[.slice a2 2 c2, .int .i64 (3 * (k : Int)), .int .i64 (3 * (k : Int) + 3), .slice (some ⟨w2.heap.size, 0, none⟩) 1 1] HIS.out 1 1 rfl (congrArg (fun k => Value.slice (some ⟨k, 0, none⟩) 1 1) (World.size_alloc _ _).symm) (by decide) (by rw [HAL.out]; unfold maxLen; omega) (by rw [HAL.out]; show _ * 64 ≤ _; omega) HBA.out.size ?_); intro g cap w5 hP hPa)
      have hb5 := Lib.hid (HBA.out.trans hP.below)
      have hO5 := Lib.hid (hP.own' (n := k + 1) (by rw [List.length_append, HAL.out]; rfl))
      rw [HAL.out]
      rw [HACC.out, ← chL_succ] at hO5
      clear hP hPa
      go_wp2_with fail
      go_roundw
      case rel => exact ⟨k + 1, by omega, by go_num, hO5.out, hb5⟩
      case measure => simp [intOf]; omega
    · have hkn : k = n := by omega
      subst hkn
      have hnf := ch_nf V k hn2
      have HK1 := HKEY.out (fun i => [1 + (i : Int)]) k fun i hi => ⟨by simp, by intro j hj; simp at hj; subst hj; unfold In64; omega⟩
      have HK2 := Lib.hid (HKEY.out (fun _ => [1]) k fun i hi => ⟨by simp, by intro j hj; simp at hj; subst hj; decide⟩)
      have HC0 : acc = chM V (fun i => [1 + (i : Int)]) (fun _ => [1]) 0 k := by rw [HACC.out, chM_zero]
      rw [← HACC.out] at hnf HK1
      have HN1 := Lib.hid (normalize_any _ acc wo hO.sl (by omega) HK1 (HT.out.below HB.out))
      rw [hal] at HN1
      have HNF := Lib.hid hnf
      have HO := Lib.hid hO
      have HAL := Lib.hid hal
      have HCC := Lib.hid HC0
      clear hnf HK1 hO hal HC0 HKEY CV hVl
      go_wp2_with fail
      refine HN1.out.mono ?_
      rintro _ w3 ⟨S, hS, _, vS, rfl, hOS, hb3⟩
      obtain rfl : S = acc := hS.unique HNF.out
      obtain ⟨aS, cS, rfl⟩ := hOS.shape
      rw [HAL.out]
      have HO3 := Lib.hid (HO.out.below hb3)
      have HB3 := Lib.hid (below_keep HB.out hb3)
      rw [HCC.out] at HO3
      clear hOS hb3 hS HN1 HO HB HNF HCC HACC HAL
      go_wp2_with fail
      go_loopw [42] (fun i wr => ∃ j : Nat, j ≤ k ∧ i = .int .i64 j ∧ Own tupE wr w.heap.size (.slice oa k oc) (chM V (fun i => [1 + (i : Int)]) (fun _ => [1]) j k) ∧ Hid (Below w.heap.size w wr)) (fun i _ => k - (intOf i).toNat)
      case atStart => exact ⟨0, Nat.zero_le _, rfl, HO3.out, HB3⟩
      case round =>
        obtain ⟨j, hj, rfl, hO, HB⟩ := hrel
        obtain ⟨wp, rfl⟩ : ∃ wp : World, wp = wr := ⟨_, rfl⟩
        have hcl : (chM V (fun i => [1 + (i : Int)]) (fun _ => [1]) j k).length = k := by unfold chM; exact chL_length _ _ _
        by_cases hlt2 : j < k
        · have hs := hO.shape_pos (by omega)
          rw [hcl] at hs
          obtain ⟨g, c', e⟩ := hs
          cases e
          have hat := chM_at V (fun i => [1 + (i : Int)]) (fun _ => [1]) j k hlt2
          obtain ⟨cs, ⟨v', u', rfl, _⟩, hc⟩ := hO.at hat
          have p3 : wp.cell? ⟨g, j * 4 + 3, none⟩ = some u' := hc 3 _ rfl
          have f3 := hO.frozen hcl (j * 4 + 3)
          have hba := below_alloc wp (.cells #[.int .i64 1] 3)
          have f4 := (hba.frozen (World.block_lt_of_cell? _ _ p3)).trans f3
          have p4 := cell_keep hba p3
          have hgl := hO.lt g rfl
          obtain ⟨hO2, hg2⟩ := lin_put (u := .slice (some ⟨wp.heap.size, 0, none⟩) 1 1) (z := [1]) (hO.below hba) hcl hat (Sl.of_block (n := 1) (m := 1) (World.alloc_heap_new wp _) (Els.one rfl) (fun h => by cases h; omega) rfl (by simp) (by simp))
          rw [chM_set V (fun i => [1 + (i : Int)]) (fun _ => [1]) j k hlt2] at hO2
          have hsw := World.setCell_alloc_past (w := wp) (.cells #[.int .i64 1] 3) g (j * 4 + 3) (.slice (some ⟨wp.heap.size, 0, none⟩) 1 1) hgl.2
          have HB2 : Hid (Below w.heap.size w ((wp.alloc (.cells #[.int .i64 1] 3)).setCell ⟨g, j * 4 + 3, none⟩ (.slice (some ⟨wp.heap.size, 0, none⟩) 1 1))) := (below_keep HB.out hba).setCell (p := ⟨g, j * 4 + 3, none⟩) hgl.1 _
          rw [hsw] at hO2 HB2
          have HO2 := Lib.hid hO2
          clear hsw hO hO2 hg2 hc hat hcl hba p3 f3
          go_wp2_with fail
          go_roundw
          case rel => exact ⟨j + 1, by omega, by go_num, HO2.out, HB2⟩
          case measure => simp [intOf]; omega
        · have hjk : j = k := by omega
          subst hjk
          rw [chM_all] at hO
          have hnf := one_nf V j hn1 hn2
          have HN1 := Lib.hid (normalize_any _ _ wp hO.sl (by rw [chL_length]; omega) HK2.out (HT.out.below HB.out))
          rw [chL_length] at HN1
          have HNF := Lib.hid hnf
          have i1 : IntKind.i64.wrap (3 * (j : Int)) = 3 * (j : Int) := IntWalk.i64_in _ (by omega)
          clear hnf hO hcl
          go_wp2_with fail
          refine HN1.out.mono ?_
          rintro _ w5 ⟨S2, hS2, _, vS2, rfl, hOS2, hb5⟩
          obtain rfl : S2 = [⟨V, 0, 3 * (j : Int), [1]⟩] := hS2.unique HNF.out
          have hs := hOS2.shape_pos (by simp)
          obtain ⟨g, c', rfl⟩ := hs
          obtain ⟨cs, ⟨v', u', rfl, _⟩, hc⟩ := hOS2.at (k := 0) rfl
          have p0 : w5.cell? ⟨g, 0, none⟩ = some v' := hc 0 _ rfl
          have p1 : w5.cell? ⟨g, 1, none⟩ = some (.int .i64 0) := hc 1 _ rfl
          have p2 : w5.cell? ⟨g, 2, none⟩ = some (.int .i64 (3 * (j : Int))) := hc 2 _ rfl
          have HB5 := Lib.hid (below_keep HB.out hb5)
          have HAW := Lib.hid (awake10_any w5 (HT.out.below HB5.out))
          clear hb5 hS2 hOS2 hc HN1 HNF HK2
          go_wp2_with fail
          refine HAW.out.mono ?_
          rintro _ w6 ⟨rfl, hb6⟩
          have HB6 := Lib.hid (below_keep HB5.out hb6)
          have q1 := cell_keep hb6 p1
          have q2 := cell_keep hb6 p2
          clear hb6 HAW p0 p1 p2 HB5 HB
          go_wp2_with fail
          go_ret
          exact ⟨rfl, HB6.out⟩
end Go.Proofs.YtnfccpkmaebbiaaGreatDoor

namespace Go.Proofs.YtnfccpkmaebbiaaGreatDoor
open Go.ChangeShapes Go.WideShapes Go.ChangeAt Go.RowKit
open Go.ChangeMaps (open_string)

set_option maxRecDepth 100000 in
theorem tkeep_contract (H : Type) (enc : TypeId × Value → H) (W : World) (base : Nat) (args : Array Value) (ds gs : List (DataW H)) (before : List MemPlace)
    (hval : ∀ (j : Nat) t v, Tryz.f8.params[j]? = some t → args[j]? = some v → Value.okWide Tryz.prog W .any base t v)
    (hW : DataW.Whole enc Tryz.prog Tryz.f8.params.toList Rows.tupleKeepsChangesSpec.vars false W args.toList ds gs before) (hT : Pow W) :
    Calls Tryz.prog 8 args W fun e W' => ∃ v, e = .returned v ∧ Rows.tupleKeepsChangesSpec.post enc Tryz.prog Tryz.f8 false true false false W args v W' := by
  have hW' := hW
  obtain ⟨p, q, hA0, hV, rfl, hfz, hnd⟩ := hW
  have hA : DataW.TrodAll enc Tryz.prog W 0 (fun _ => true) true Tryz.f8.params.toList args.toList ds p := hA0
  rw [Tryz.params8] at hA hval
  obtain ⟨v0, vs0, d0, ds0, p0, q0, hargs, rfl, rfl, h0, r0⟩ := trodAll_cons hA
  obtain ⟨v1, vs1, d1, ds1, p1, q1, rfl, rfl, rfl, h1, r1⟩ := trodAll_cons r0
  obtain ⟨v2, vs2, d2, ds2, p2, q2, rfl, rfl, rfl, h2, r2⟩ := trodAll_cons r1
  obtain ⟨rfl, rfl, rfl⟩ := trodAll_nil r2
  obtain rfl : args = #[v0, v1, v2] := by cases args; simp_all
  obtain ⟨rfl, rfl⟩ := trodVars_none hV
  obtain ⟨z0, rfl, rfl, rfl, wz0⟩ := open_int Tryz.underlying29 (hval 0 29 v0 rfl rfl) h0; obtain ⟨x0, rfl, b0⟩ := u16_of wz0
  obtain ⟨z1, rfl, rfl, rfl, wz1⟩ := open_int Tryz.underlying29 (hval 1 29 v1 rfl rfl) h1; obtain ⟨x1, rfl, b1⟩ := u16_of wz1
  obtain ⟨z2, rfl, rfl, rfl, wz2⟩ := open_int Tryz.underlying5 (hval 2 5 v2 rfl rfl) h2; obtain ⟨x2, rfl, b2⟩ := u8_of wz2
  refine (tkeep_walk x0 x1 x2 W b0 b1 b2 hT).mono fun e W' ⟨he, hb⟩ => ⟨_, he, ?_⟩
  refine law_post rfl rfl (by intro t ht; rw [Tryz.params8] at ht; simp at ht; rcases ht with rfl | rfl <;> exact ⟨by kernel_rfl, of_decide_eq_true (by kernel_rfl)⟩) rfl hW' hb

theorem tkeep_reads (os : Os) {H : Type} (enc : TypeId × Value → H) : ∃ places, DataW.whole enc Tryz.prog ((laidWorld os).forCall (fun _ _ => 0) ⟨#[], #[.int .u16 0, .int .u16 0, .int .u8 0], []⟩).memory Tryz.f8.params.toList Rows.tupleKeepsChangesSpec.vars false (#[.int .u16 0, .int .u16 0, .int .u8 0] : Array Value).toList 8 = some ([.lit (.int .u16 0), .lit (.int .u16 0), .lit (.int .u8 0)], [], places) :=
  ⟨[], by kernel_rfl⟩

set_option maxRecDepth 100000 in
theorem tkeep_lifted (os : Os) (started : os.Started) (H : Type) (enc : TypeId × Value → H) (F : Stop.Interp) :
    ReturnsInHanded {} Tryz.checked os 8 .any ((OpenSpec.ofChange Rows.tupleKeepsChangesSpec).preRow enc Tryz.prog Tryz.f8 Rows.tupleKeepsChangesRow.domain false Rows.tupleKeepsChangesRow.laid) (((OpenSpec.ofChange Rows.tupleKeepsChangesSpec).at F).post enc Tryz.prog Tryz.f8 false true false false) := by
  obtain ⟨places, hx⟩ := tkeep_reads os enc
  refine returnsInHanded_of_row (C := Tryz.checked) (s := OpenSpec.ofChange Rows.tupleKeepsChangesSpec) own started (by kernel_rfl) Tryz.func8
    (witness_row_at (enc := enc) (C := Tryz.checked) false (laidWorld os) #[.int .u16 0, .int .u16 0, .int .u8 0] rfl (by kernel_rfl) (by kernel_rfl) (by kernel_rfl)
      (OpenSpec.preRow_of_cond 8 hx (by kernel_rfl) (fun k hk => by cases hk) (by kernel_rfl) (laid_met os _))) ?_
  intro W base args ds gs before hval hW _ hcond _ hlaid hsh _
  exact tkeep_contract H enc W base args ds gs before hval hW (pow_of_laid hlaid)

theorem tkeep_said : Rows.TupleKeepsChangesSaid :=
  OpenClaim.holds_of_cond 8 Tryz.f8 rfl rfl rfl rfl rfl rfl rfl ⟨rfl, rfl, rfl, rfl, rfl⟩ rfl rfl rfl rfl rfl (by kernel_rfl) Tryz.func8 (by kernel_rfl)
    (of_decide_eq_true (by kernel_rfl)) (by unfold Func.isWrapper; first | (rw [if_pos (by decide +kernel)]; kernel_rfl) | (rw [if_neg (by decide +kernel)]; exact ⟨rfl, rfl⟩))
    (fun os started H enc _ F => by rw [OpenClaim.pre_eq_preRow]; exact tkeep_lifted os started H enc F)

/-- No parameter wants a stand-in; the program's own looks are off. -/
theorem tkeep_plain (f : FuncId) (fn : Func) (hf : Tryz.pinned.checked.prog.funcNamed "annalist/annalistlaw10.TupleKeepsChanges" = some f) (hfn : Tryz.pinned.checked.prog.funcs[f]? = some fn) :
    false = Tryz.pinned.checked.prog.looks [] ∧ ∀ (j : Nat) t, fn.params[j]? = some t → Tryz.pinned.checked.prog.wantsStandIn t = false := by
  obtain rfl : f = 8 := Option.some.inj ((show Tryz.prog.funcNamed "annalist/annalistlaw10.TupleKeepsChanges" = some 8 by kernel_rfl).symm.trans hf) |>.symm
  obtain rfl : fn = Tryz.f8 := (Option.some.inj (Tryz.func8.symm.trans hfn)).symm
  refine ⟨by kernel_rfl, fun j t ht => ?_⟩
  rw [Tryz.params8] at ht
  have hm := Array.mem_of_getElem? ht
  simp at hm
  rcases hm with rfl | rfl
  · exact (show Tryz.prog.wantsStandIn 29 = false by kernel_rfl)
  · exact (show Tryz.prog.wantsStandIn 5 = false by kernel_rfl)

/-- The card. -/
theorem tkeep_card : Rows.TupleKeepsChangesCardSaid :=
  Claim7.holds_tied_plain_at .later [] _ _ _ _ tkeep_said (fun _ h => by cases h) (by kernel_rfl) (fun _ h => by cases h) tupleKeepsChanges_row_tie rfl ⟨rfl, rfl⟩ (by kernel_rfl) rfl tkeep_plain (by kernel_rfl)
end Go.Proofs.YtnfccpkmaebbiaaGreatDoor
