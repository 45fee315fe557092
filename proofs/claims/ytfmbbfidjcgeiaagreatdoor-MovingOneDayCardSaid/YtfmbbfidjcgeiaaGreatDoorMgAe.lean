/- A part of the proofs: Bnd, Mgl, ShSe, Lvp, Evs, Lvw, Put, Mov, Gro, ValP, ValQ, ValS, ShNum. No condition beside sizes and tables that read as laid. -/
import Derived.Test.YtfmbbfidjcgeiaaGreatDoorMgAd
import Derived.Test.YtfmbbfidjcgeiaaGreatDoorMgAb
import Derived.Shelf.SlLaysF0
import Derived.Test.YtfmbbfidjcgeiaaGreatDoorProg
import Derived.Test.YtfmbbfidjcgeiaaGreatDoorMgAc
import Derived.Deep.RegionLaw
import Derived.Lib.ParseIntBTie
import Derived.Lib.ItoaLen
import Derived.Lib.Replace
import Derived.Lib.SplitLaws
import Derived.Test.YtfmbbfidjcgeiaaGreatDoorMgAa
import Derived.Shelf.Strings.Builder1
import Derived.Shelf.Strings.Builder2
import Derived.Shelf.Small.Strs
import Derived.Shelf.Strings.BuilderF
import Derived.Shelf.Strings.BuilderK
import Derived.Shelf.Strconv.Itoa0
import Derived.Shelf.Strconv.Itoa1
import Derived.Shelf.LaysM
import Derived.Shelf.Strconv.Itoa2
import Derived.Shelf.Strconv.Itoa3
import Derived.Shelf.Strconv.Itoa4
import Derived.Shelf.Strconv.ParseIntEmpty
import Derived.Shelf.Strconv.Clone
import Derived.Shelf.Strconv.SyntaxError
import Derived.Shelf.LaysC
import Derived.Shelf.Strconv.ToError
import Derived.Shelf.Strconv.Lower
import Derived.Shelf.Strconv.ParseUint10
import Derived.Shelf.Strconv.ParseUint10Empty
import Derived.Shelf.Strconv.ParseUint10Any
import Derived.Shelf.Strconv.ParseInt10
import Derived.Shelf.Strconv.RangeError
import Derived.Shelf.Strconv.ToErrorRange
import Derived.Shelf.Strconv.ParseUintEmpty
import Derived.Shelf.Strconv.ParseUint10b64
import Derived.Shelf.Strconv.ParseUint10b32
import Derived.Shelf.Strconv.ParseUint10b16
import Derived.Shelf.Strconv.ParseUint10b8
import Derived.Shelf.Strconv.ParseUint10At
import Derived.Shelf.Strconv.ParseInt10At64
import Derived.Shelf.Strconv.ParseInt10At32
import Derived.Shelf.Strconv.ParseInt10At16
import Derived.Shelf.Strconv.ParseInt10At8
import Derived.Shelf.Strconv.ParseInt10All
import Derived.Shelf.Strconv.ParseIntPublic10
import Derived.Shelf.Strconv.ErrVarParseInt
import Derived.Shelf.Strings.Search1
import Derived.Shelf.Strings.Search2
import Derived.Shelf.Strings.Search3
import Derived.Shelf.Strings.Count
import Derived.Shelf.Strings.Shaped
import Derived.Shelf.Strings.Prefix
import Derived.Shelf.Strings.Split
import Derived.Shelf.Strings.Replace
import Derived.Shelf.Strings.SplitShaped
import Derived.Shelf.Unicode.DecodeSlow
namespace Go.Proofs.YtfmbbfidjcgeiaaGreatDoor
open Go.RowKit Go.Lib Go.Shelf Go.Sort

theorem sort_own (v : Value) (l : List Int) (B : Nat) (w : World) (h : Own intE w B v l) (hB : B ≤ w.heap.size) (hs : l.length ≤ 1000000000) :
    Calls Tryz.prog 42 #[v] w fun e w' => e = .returned (.tuple #[]) ∧ Own intE w' B v (srt l) ∧ Below B w w' := by
  have ho := h.ints
  rcases ho.2 with ⟨rfl, hz⟩ | ⟨gb, cap, cur, rfl, hbase, hgb, r1, r2, r3, r4⟩
  · have hzs : l = [] := List.eq_nil_of_length_eq_zero hz
    subst hzs
    refine (sh_slices_Sort_int_none none 0 w).mono ?_
    rintro e w' ⟨rfl, rfl⟩
    exact ⟨rfl, by simpa [srt] using h, Below.refl _ _⟩
  · have hH : Holds (Value.int .i64) w gb 0 l.toArray := holds_of_block_i hgb (by simpa [numCells] using r4)
    have hgl : gb < w.heap.size := (Array.getElem?_eq_some_iff.1 hgb).1
    refine (sh_slices_Sort_int gb 0 cap l w hH hgl (by omega)).mono ?_
    rintro e w' ⟨rfl, nn, os, rfl⟩
    have hlen : (srt l).length = l.length := List.length_mergeSort _
    refine ⟨rfl, Own.of_ints ?_, (Below.refl _ _).grown (grownBy_sorted_i _) hB (fun j hj => by cases hj; exact hbase)⟩
    have := ownsRow_sorted_i (e := 3) (n := nn) (os := os) (ts := srt l) hlen hbase hgb r1 r2 r3
    rw [hlen]; exact this
theorem compact_own (v : Value) (l : List Int) (B : Nat) (w : World) (h : Own intE w B v l) (hB : B ≤ w.heap.size) (hs : l.length ≤ 1000000000) :
    Calls Tryz.prog 43 #[v] w fun e w' => ∃ v', e = .returned v' ∧ Own intE w' B v' (Lib.compact l) ∧ Below B w w' := by
  have ho := h.ints
  rcases ho.2 with ⟨rfl, hz⟩ | ⟨gb, cap, cur, rfl, hbase, hgb, r1, r2, r3, r4⟩
  · have hzs : l = [] := List.eq_nil_of_length_eq_zero hz
    subst hzs
    refine (sh_slices_Compact_int_empty none 0 w).mono ?_
    rintro e w' ⟨rfl, rfl⟩
    exact ⟨_, rfl, h, Below.refl _ _⟩
  · have hH : Holds (Value.int .i64) w gb 0 l.toArray := holds_of_block_i hgb (by simpa [numCells] using r4)
    refine (sh_slices_Compact_int gb 0 cap l w hH (by omega) r1).mono ?_
    rintro e w' ⟨rfl, nn, rfl⟩
    have hle := Lib.compact_length_le l
    have hlen : (Lib.compact l ++ List.replicate (l.length - (Lib.compact l).length) 0).length = l.length := by simp; omega
    have ho' := ownsRow_sorted_i (e := 3) (n := nn) (os := #[]) hlen hbase hgb r1 r2 r3
    have hg : w.grownBy (grow (putRow (Value.int .i64) (Sort.ahead w nn) gb 0 (Lib.compact l ++ List.replicate (l.length - (Lib.compact l).length) 0).toArray) #[]) (some gb) := grownBy_sorted_i _
    rw [grow_empty] at ho' hg
    refine ⟨_, rfl, Own.of_ints ?_, (Below.refl _ _).grown hg hB (fun j hj => by cases hj; exact hbase)⟩
    rcases ho'.2 with ⟨e, _⟩ | ⟨g, cap', cur', e, q1, q2, q3, q4, q5, q6⟩
    · cases e
    · cases e
      refine ⟨by simp [numCells], .inr ⟨_, _, cur', rfl, q1, q2, by omega, q4, q5, ?_⟩⟩
      have h7 := congrArg (List.take (Lib.compact l).length) q6
      rw [List.take_take, Nat.mul_one, Nat.min_eq_left hle, List.map_append, List.take_left' (by simp)] at h7
      rw [Nat.mul_one]; exact h7

set_option maxHeartbeats 4000000 in
set_option maxRecDepth 100000 in
theorem bnds_any (v : Value) (l : List Tup) (w : World) (hv : Tups w v l) (hsz : l.length ≤ 100000000) :
    Calls Tryz.prog 18 #[v] w (RetOwn intE w (bnds l)) := by
  obtain ⟨a, c, rfl⟩ := hv.shape
  have HV := Lib.hid hv
  obtain ⟨n, hn⟩ : ∃ n, n = l.length := ⟨_, rfl⟩
  have HN := Lib.hid hn
  rw [← hn] at hsz HV ⊢
  clear hv hn
  go_enter Tryz.func18, Tryz.ntmps18
  go_wp2_with fail
  go_loopw [8, 3] (fun i o wr => ∃ k : Nat, k ≤ n ∧ i = .int .i64 k ∧ Own intE wr w.heap.size o (allEnds (l.take k)) ∧ Below w.heap.size w wr) (fun i _ _ => n - (intOf i).toNat)
  case atStart => exact ⟨0, Nat.zero_le _, rfl, Own.nil _ _ _, Below.refl _ _⟩
  case round =>
    obtain ⟨k, hk, rfl, hO, hB⟩ := hrel
    have hle : (allEnds (l.take k)).length ≤ n * 2 := by rw [HN.out]; exact allEnds_take_length l k
    by_cases hlt : k < n
    · obtain ⟨x, hx⟩ := lget_some l k (by rw [← HN.out]; exact hlt)
      obtain ⟨b, o, a3, n3, e3, m3, rfl, hv1, hu1, p0, p1, p2, p3⟩ := tups_at HV.out hx
      replace p0 := cell_keep hB p0
      replace p1 := cell_keep hB p1
      replace p2 := cell_keep hB p2
      replace p3 := cell_keep hB p3
      have HT : Hid (allEnds (l.take (k + 1)) = allEnds (l.take k) ++ ends x) := allEnds_snoc l k x hx
      obtain ⟨acc, hacc⟩ : ∃ acc, acc = allEnds (l.take k) := ⟨_, rfl⟩
      rw [← hacc] at HT hO hle
      obtain ⟨oa, oc, rfl⟩ := hO.shape
      clear hx hacc
      go_wp2_with fail
      refine (pvalid_any _ _ _).mono ?_
      rintro e w2 ⟨rfl, hb2⟩
      have hbx := box_kept (World.alloc_heap_new wr (.cells #[.slice a3 x.vals.length n3, .int .i64 x.lo, .int .i64 x.hi, .slice e3 x.lin.length m3] 48)) hb2
      have hB2 : Below wr.heap.size wr w2 := below_alloc2' hb2
      have hO2 := hO.below hB2
      have hB2' : Below w.heap.size w w2 := below_keep hB hB2
      clear hb2 p0 p1 p2 p3 hO hB2
      obtain ⟨⟨p0, p1, p2, p3⟩, f0, f1, f2, f3⟩ := box_four hbx
      clear hbx
      cases hval : pvalid x.lo x.hi
      · have HT' : Hid (allEnds (l.take (k + 1)) = acc) := by show _ = _; rw [HT.out, ends, hval]; simp
        clear hval
        go_wp2_with fail
        go_roundw
        case rel => exact ⟨k + 1, by omega, by go_num, by rw [HT'.out]; exact hO2, hB2'⟩
        case measure => simp [intOf]; omega
      · have HT' : Hid (allEnds (l.take (k + 1)) = acc ++ [x.lo, x.hi]) := by show _ = _; rw [HT.out, ends, hval, if_pos rfl]
        clear hval
        go_wp2_with (at_builtin; refine wpList_push rfl _ _ 36 rfl intE Tryz.underlying36 w.heap.size (.slice oa acc.length oc) acc rfl hO2 [x.lo, x.hi] #[.int .i64 x.lo, .int .i64 x.hi] (Els.cons (cs := [.int .i64 x.lo]) rfl (Els.one (cs := [.int .i64 x.hi]) rfl)) 2 2 rfl rfl (by decide) (by unfold maxLen; omega) (by show _ * 8 ≤ _; omega) hB2'.size ?_; intro g cap w5 hP hPa)
        go_roundw
        case rel => exact ⟨k + 1, by omega, by go_num, by rw [HT'.out]; exact hP.own' (by simp), hB2'.trans hP.below⟩
        case measure => simp [intOf]; omega
    · have HT : Hid (allEnds (l.take k) = allEnds l) := by show _ = _; rw [List.take_of_length_le (by rw [← HN.out]; omega)]
      rw [HT.out] at hO hle
      obtain ⟨oa, oc, rfl⟩ := hO.shape
      go_wp2_with fail
      refine (sort_own _ _ w.heap.size _ hO hB.size (by omega)).mono ?_
      rintro e w2 ⟨rfl, hO2, hb2⟩
      go_wp2_with fail
      have hl2 : (srt (allEnds l)).length = (allEnds l).length := List.length_mergeSort _
      refine (compact_own _ _ w.heap.size _ hO2 (Nat.le_trans hB.size hb2.size) (by omega)).mono ?_
      rintro e w3 ⟨v3, rfl, hO3, hb3⟩
      clear hl2
      obtain ⟨a4, c4, rfl⟩ := hO3.shape
      go_wp2_with fail
      go_ret
      exact ⟨_, rfl, hO3, (hB.trans hb2).trans hb3⟩

end Go.Proofs.YtfmbbfidjcgeiaaGreatDoor

namespace Go.Proofs.YtfmbbfidjcgeiaaGreatDoor
open Go.RowKit Go.Lib

theorem merge_srt (a b : List Int) : Lib.compact (srt (a ++ b)) = mergeL a b :=
  asc_unique (compact_asc (srt_sorted _)) (mergeL_asc a b) fun x => by rw [compact_mem, srt_mem, mergeL_mem, List.mem_append]
set_option maxHeartbeats 4000000 in
set_option maxRecDepth 100000 in
theorem bagMerge_any (v u : Value) (a b : List Int) (w : World) (hv : Sl intE w free v a) (hu : Sl intE w free u b) (hs : a.length + b.length ≤ 1000000) :
    Calls Tryz.prog 44 #[v, u] w (RetOwn intE w (mergeL a b)) := by
  obtain ⟨a1, c1, rfl⟩ := hv.shape
  obtain ⟨a2, c2, rfl⟩ := hu.shape
  have hb0 := below_alloc w (.cells #[.slice a1 a.length c1, .slice a2 b.length c2] 36)
  obtain ⟨q0, q1, _, _⟩ := box_two (World.alloc_heap_new w (.cells #[.slice a1 a.length c1, .slice a2 b.length c2] 36))
  have HC := Lib.hid (concatI_any w.heap.size _ _ a b _ q0 q1 (hv.below hb0) (hu.below hb0) hs)
  have HB0 := Lib.hid hb0
  have hl : (a ++ b).length ≤ 1000000 := by rw [List.length_append]; exact hs
  have HM := Lib.hid (merge_srt a b)
  generalize a ++ b = l at HC HM hl
  generalize a.length = n1 at HC HB0 ⊢
  generalize b.length = n2 at HC HB0 ⊢
  clear hv hu hb0 q0 q1 hs
  go_enter Tryz.func44, Tryz.ntmps44
  go_wp2_with fail
  refine HC.out.mono ?_
  rintro _ w2 ⟨v2, rfl, hO2, hb2⟩
  obtain ⟨a4, c4, rfl⟩ := hO2.shape
  have HS := Lib.hid (sort_own _ l _ w2 hO2 (by simpa using hb2.size) (by omega))
  have HB2 := Lib.hid (below_keep HB0.out hb2)
  have hz2 := hb2.size
  rw [World.size_alloc] at hz2
  clear hO2 hb2 HC HB0
  generalize l.length = n at HS ⊢
  go_wp2_with fail
  refine HS.out.mono ?_
  rintro _ w3 ⟨rfl, hO3, hb3⟩
  have hl3 : (srt l).length = l.length := List.length_mergeSort _
  have HB3 := Lib.hid (HB2.out.trans (hb3.mono (by simp)))
  have HK := Lib.hid (compact_own _ (srt l) w.heap.size w3 (hO3.mono (by simp)) HB3.out.size (by omega))
  rw [HM.out] at HK
  clear hO3 hb3 hl3 HS
  go_wp2_with fail
  refine HK.out.mono ?_
  rintro _ w4 ⟨v4, rfl, hO4, hb4⟩
  obtain ⟨a5, c5, rfl⟩ := hO4.shape
  have HO4 := Lib.hid hO4
  have HB4 := Lib.hid (HB3.out.trans hb4)
  clear hO4 hb4 HK
  generalize (mergeL a b).length = m at HO4 ⊢
  go_wp2_with fail
  go_ret
  exact ⟨_, rfl, HO4.out, HB4.out⟩
end Go.Proofs.YtfmbbfidjcgeiaaGreatDoor

namespace Go.Proofs.YtfmbbfidjcgeiaaGreatDoor
open Go.Shelf
def sh_sortEvs_ren : Go.Shelf.Ren := ⟨fun | 6 => 75 | 15 => 64 | 14 => 114 | 28 => 92 | 29 => 93 | 20 => 138 | 21 => 139 | 22 => 140 | 23 => 141 | 24 => 142 | 25 => 143 | 26 => 144 | 27 => 145 | 46 => 155 | 47 => 126 | 48 => 127 | 49 => 156 | 50 => 157 | 57 => 159 | n => n, fun | 22 => 142 | 24 => 144 | 25 => 146 | 3 => 3 | 39 => 133 | 0 => 0 | 53 => 163 | 55 => 113 | 4 => 4 | 46 => 156 | 45 => 155 | 50 => 160 | 5 => 5 | 9 => 9 | 66 => 191 | 70 => 195 | 76 => 210 | 77 => 211 | n => n, fun | n => n⟩
theorem sh_sortEvs : Go.Proofs.SlLaysF0.n6 Tryz.prog sh_sortEvs_ren := {
  mixed := by kernel_rfl
  f6 := ⟨Tryz.f75.name, by decide, Tryz.func75.trans (congrArg some (by kernel_rfl))⟩
  f14 := ⟨Tryz.f114.name, by decide, Tryz.func114.trans (congrArg some (by kernel_rfl))⟩
  f15 := Tryz.func64.trans (congrArg some (by kernel_rfl))
  f20 := ⟨Tryz.f138.name, by decide, Tryz.func138.trans (congrArg some (by kernel_rfl))⟩
  f21 := ⟨Tryz.f139.name, by decide, Tryz.func139.trans (congrArg some (by kernel_rfl))⟩
  f22 := ⟨Tryz.f140.name, by decide, Tryz.func140.trans (congrArg some (by kernel_rfl))⟩
  f23 := ⟨Tryz.f141.name, by decide, Tryz.func141.trans (congrArg some (by kernel_rfl))⟩
  f24 := ⟨Tryz.f142.name, by decide, Tryz.func142.trans (congrArg some (by kernel_rfl))⟩
  f25 := ⟨Tryz.f143.name, by decide, Tryz.func143.trans (congrArg some (by kernel_rfl))⟩
  f26 := ⟨Tryz.f144.name, by decide, Tryz.func144.trans (congrArg some (by kernel_rfl))⟩
  f27 := ⟨Tryz.f145.name, by decide, Tryz.func145.trans (congrArg some (by kernel_rfl))⟩
  f28 := Tryz.func92.trans (congrArg some (by kernel_rfl))
  f29 := Tryz.func93.trans (congrArg some (by kernel_rfl))
  f46 := ⟨Tryz.f155.name, by decide, Tryz.func155.trans (congrArg some (by kernel_rfl))⟩
  f47 := Tryz.func126.trans (congrArg some (by kernel_rfl))
  f48 := Tryz.func127.trans (congrArg some (by kernel_rfl))
  f49 := ⟨Tryz.f156.name, by decide, Tryz.func156.trans (congrArg some (by kernel_rfl))⟩
  f50 := ⟨Tryz.f157.name, by decide, Tryz.func157.trans (congrArg some (by kernel_rfl))⟩
  f57 := ⟨Tryz.f159.name, by decide, Tryz.func159.trans (congrArg some (by kernel_rfl))⟩
  t0 := Tryz.underlying0
  a0 := Tryz.isAgg0
  z0 := Tryz.sizeOf0
  v0 := Tryz.zeroValue0
  t3 := Tryz.underlying3
  a3 := Tryz.isAgg3
  z3 := Tryz.sizeOf3
  v3 := Tryz.zeroValue3
  t4 := Tryz.underlying4
  a4 := Tryz.isAgg4
  z4 := Tryz.sizeOf4
  v4 := Tryz.zeroValue4
  t5 := Tryz.underlying5
  a5 := Tryz.isAgg5
  z5 := Tryz.sizeOf5
  v5 := Tryz.zeroValue5
  t9 := Tryz.underlying9
  a9 := Tryz.isAgg9
  z9 := Tryz.sizeOf9
  v9 := Tryz.zeroValue9
  t22 := Tryz.underlying142
  a22 := Tryz.isAgg142
  z22 := Tryz.sizeOf142
  v22 := Tryz.zeroValue142
  t25 := Tryz.underlying146
  a25 := Tryz.isAgg146
  z25 := Tryz.sizeOf146
  v25 := Tryz.zeroValue146
  t39 := Tryz.underlying133
  a39 := Tryz.isAgg133
  z39 := Tryz.sizeOf133
  v39 := Tryz.zeroValue133
  t45 := Tryz.underlying155
  a45 := Tryz.isAgg155
  z45 := Tryz.sizeOf155
  v45 := Tryz.zeroValue155
  t46 := Tryz.underlying156
  a46 := Tryz.isAgg156
  z46 := Tryz.sizeOf156
  v46 := Tryz.zeroValue156
  t50 := Tryz.underlying160
  a50 := Tryz.isAgg160
  z50 := Tryz.sizeOf160
  v50 := Tryz.zeroValue160
  t53 := Tryz.underlying163
  a53 := Tryz.isAgg163
  z53 := Tryz.sizeOf163
  v53 := Tryz.zeroValue163
  t55 := Tryz.underlying113
  a55 := Tryz.isAgg113
  z55 := Tryz.sizeOf113
  v55 := Tryz.zeroValue113
  t66 := Tryz.underlying191
  a66 := Tryz.isAgg191
  z66 := Tryz.sizeOf191
  v66 := Tryz.zeroValue191
  t70 := Tryz.underlying195
  a70 := Tryz.isAgg195
  z70 := Tryz.sizeOf195
  v70 := Tryz.zeroValue195
  t76 := Tryz.underlying210
  a76 := Tryz.isAgg210
  z76 := Tryz.sizeOf210
  v76 := Tryz.zeroValue210
  t77 := Tryz.underlying211
  a77 := Tryz.isAgg211
  z77 := Tryz.sizeOf211
  v77 := Tryz.zeroValue211 }
end Go.Proofs.YtfmbbfidjcgeiaaGreatDoor

namespace Go.Proofs.YtfmbbfidjcgeiaaGreatDoor
open Go.RowKit

/-- How many periods hold at t. -/
def cntP (ps : List (Int × Int)) (t : Int) : Nat := ps.countP fun p => pincl p.1 p.2 t
/-- Two periods are apart (they do not touch), or one lies in the other. -/
def LamP (p q : Int × Int) : Prop := p.2 < q.1 ∨ q.2 < p.1 ∨ (p.1 ≤ q.1 ∧ q.2 ≤ p.2) ∨ (q.1 ≤ p.1 ∧ p.2 ≤ q.2)
theorem LamP.symm {p q : Int × Int} (h : LamP p q) : LamP q p := by unfold LamP at *; omega
/-- M are the levels of ps. -/
structure LevOf (ps M : List (Int × Int)) : Prop where
  valid : ∀ p ∈ M, pvalid p.1 p.2 = true
  lam : M.Pairwise LamP
  cnt : ∀ t, cntP M t = cntP ps t
/-- The number of open levels that started by t. -/
def opn (open' : List Int) (t : Int) : Nat := open'.countP fun o => decide (o ≤ t)
theorem opn_all {l : List Int} {t : Int} (h : ∀ o ∈ l, o ≤ t) : opn l t = l.length := by unfold opn; rw [List.countP_eq_length]; intro o ho; simpa using h o ho
theorem cnt_none {l : List (Int × Int)} {t : Int} (h : ∀ p ∈ l, p.2 ≤ t) : cntP l t = 0 := by
  unfold cntP
  rw [List.countP_eq_zero]
  intro p hp hi
  have := (pincl_iff.1 hi).2.2
  have := h p hp
  omega
/-- What holds of the open levels and of the periods made so far, up to X. -/
structure LvI (c : Int → Nat) (X : Int) (open' : List Int) (out : List (Int × Int)) : Prop where
  lam : out.Pairwise LamP
  val : ∀ p ∈ out, pvalid p.1 p.2 = true ∧ p.2 ≤ X
  bnd : ∀ o ∈ open', 0 ≤ o ∧ o ≤ X
  srt : open'.Pairwise (· ≤ ·)
  rel : ∀ p ∈ out, ∀ o ∈ open', p.2 < o ∨ o ≤ p.1
  cnt : ∀ t, t < X → cntP out t + opn open' t = c t
theorem LvI.start {c : Int → Nat} (h : ∀ t, t < 0 → c t = 0) : LvI c (-1) [] [] :=
  ⟨.nil, by simp, by simp, .nil, by simp, fun t ht => by rw [h t (by omega)]; rfl⟩
theorem LvI.raise {c : Int → Nat} {X Y : Int} {open' : List Int} {out : List (Int × Int)} (h : LvI c X open' out) (hXY : X < Y) (hc : ∀ t, X ≤ t → t < Y → c t = open'.length) :
    LvI c Y open' out ∧ (∀ o ∈ open', o < Y) ∧ ∀ p ∈ out, p.2 < Y := by
  refine ⟨⟨h.lam, fun p hp => ⟨(h.val p hp).1, by have := (h.val p hp).2; omega⟩, fun o ho => ⟨(h.bnd o ho).1, by have := (h.bnd o ho).2; omega⟩, h.srt, h.rel, fun t ht => ?_⟩, fun o ho => by have := (h.bnd o ho).2; omega, fun p hp => by have := (h.val p hp).2; omega⟩
  by_cases h1 : t < X
  · exact h.cnt t h1
  · rw [cnt_none (fun p hp => by have := (h.val p hp).2; omega), opn_all (fun o ho => by have := (h.bnd o ho).2; omega), hc t (by omega) ht, Nat.zero_add]
theorem LvI.pop {c : Int → Nat} {X o : Int} {open' : List Int} {out : List (Int × Int)} (h : LvI c X (open' ++ [o]) out) (ho : o < X) (hX : X ≤ 1099511627776) : LvI c X open' (out ++ [(o, X)]) := by
  have ho0 := (h.bnd o (by simp)).1
  have hv : pvalid o X = true := pvalid_iff.2 ⟨ho0, ho, hX⟩
  refine ⟨?_, ?_, fun x hx => h.bnd x (by simp [hx]), (List.pairwise_append.1 h.srt).1, ?_, fun t ht => ?_⟩
  · rw [List.pairwise_append]
    refine ⟨h.lam, by simp, fun p hp q hq => ?_⟩
    simp at hq
    subst hq
    have h1 := (h.val p hp).2
    have h2 := h.rel p hp o (by simp)
    unfold LamP
    dsimp only
    omega
  · intro p hp
    rw [List.mem_append] at hp
    rcases hp with hp | hp
    · exact h.val p hp
    · simp at hp; subst hp; exact ⟨hv, Int.le_refl _⟩
  · intro p hp x hx
    rw [List.mem_append] at hp
    rcases hp with hp | hp
    · exact h.rel p hp x (by simp [hx])
    · simp at hp
      subst hp
      exact .inr ((List.pairwise_append.1 h.srt).2.2 x hx o (by simp))
  · have h1 := h.cnt t ht
    unfold cntP opn at h1 ⊢
    rw [List.countP_append] at h1 ⊢
    have e : List.countP (fun p : Int × Int => pincl p.1 p.2 t) [(o, X)] = List.countP (fun o => decide (o ≤ t)) [o] := by
      rw [List.countP_singleton, List.countP_singleton]
      dsimp only
      have : pincl o X t = decide (o ≤ t) := by
        rw [Bool.eq_iff_iff, pincl_iff, decide_eq_true_eq]
        exact ⟨fun h => h.2.1, fun h => ⟨hv, h, ht⟩⟩
      rw [this]
    omega
theorem LvI.push {c : Int → Nat} {X : Int} {open' : List Int} {out : List (Int × Int)} (h : LvI c X open' out) (h0 : 0 ≤ X) (hp : ∀ p ∈ out, p.2 < X) : LvI c X (open' ++ [X]) out := by
  refine ⟨h.lam, h.val, fun o ho => ?_, ?_, fun p hp' o ho => ?_, fun t ht => ?_⟩
  · rw [List.mem_append] at ho
    rcases ho with ho | ho
    · exact h.bnd o ho
    · simp at ho; subst ho; exact ⟨h0, Int.le_refl _⟩
  · rw [List.pairwise_append]
    refine ⟨h.srt, by simp, fun a ha b hb => ?_⟩
    simp at hb
    subst hb
    exact (h.bnd a ha).2
  · rw [List.mem_append] at ho
    rcases ho with ho | ho
    · exact h.rel p hp' o ho
    · simp at ho; subst ho; exact .inl (hp p hp')
  · have h1 := h.cnt t ht
    unfold opn at h1 ⊢
    rw [List.countP_append, List.countP_singleton]
    have : decide (X ≤ t) = false := by simp; omega
    rw [this]
    simpa using h1

/-- The events of some periods: a start counts 1, an end -1. -/
def evsOf (ps : List (Int × Int)) : List (Int × Int) := ps.flatMap fun p => [(p.1, 1), (p.2, -1)]
def sumE (es : List (Int × Int)) : Int := (es.map (·.2)).sum
theorem sumE_append (a b : List (Int × Int)) : sumE (a ++ b) = sumE a + sumE b := by unfold sumE; rw [List.map_append, List.sum_append]
theorem sumE_cons (x : Int × Int) (b : List (Int × Int)) : sumE (x :: b) = x.2 + sumE b := rfl
theorem sumE_perm {a b : List (Int × Int)} (h : a.Perm b) : sumE a = sumE b := by
  induction h with
  | nil => rfl
  | cons x _ ih => rw [sumE_cons, sumE_cons, ih]
  | swap x y l => rw [sumE_cons, sumE_cons, sumE_cons, sumE_cons]; omega
  | trans _ _ ih1 ih2 => rw [ih1, ih2]
theorem sumE_upto (ps : List (Int × Int)) (hv : ∀ p ∈ ps, pvalid p.1 p.2 = true) (t : Int) : sumE ((evsOf ps).filter fun e => decide (e.1 ≤ t)) = cntP ps t := by
  induction ps with
  | nil => rfl
  | cons p ps ih =>
    have h1 := ih fun x hx => hv x (.tail _ hx)
    have h2 := hv p (.head _)
    obtain ⟨_, h3, _⟩ := pvalid_iff.1 h2
    have e : evsOf (p :: ps) = (p.1, 1) :: (p.2, -1) :: evsOf ps := rfl
    have ec : cntP (p :: ps) t = cntP ps t + if pincl p.1 p.2 t = true then 1 else 0 := by unfold cntP; rw [List.countP_cons]
    rw [e, ec, List.filter_cons, List.filter_cons]
    dsimp only
    by_cases hi : pincl p.1 p.2 t = true
    · obtain ⟨_, h4, h5⟩ := pincl_iff.1 hi
      rw [if_pos hi, if_pos (by simpa using h4), if_neg (by simp; omega), sumE_cons, h1]
      dsimp only
      omega
    · have h6 : ¬ (p.1 ≤ t ∧ t < p.2) := fun h => hi (pincl_iff.2 ⟨h2, h⟩)
      rw [if_neg hi]
      by_cases h7 : p.1 ≤ t
      · rw [if_pos (by simpa using h7), if_pos (by simp; omega), sumE_cons, sumE_cons, h1]
        dsimp only
        omega
      · rw [if_neg (by simpa using h7), if_neg (by simp; omega), h1]
        omega
theorem sumE_all (ps : List (Int × Int)) : sumE (evsOf ps) = 0 := by
  induction ps with
  | nil => rfl
  | cons p ps ih => show sumE ((p.1, 1) :: (p.2, -1) :: evsOf ps) = 0; rw [sumE_cons, sumE_cons, ih]; rfl
/-- The sum of the events up to a place that parts them from the later ones. -/
theorem sumE_cut {ps es a b : List (Int × Int)} (hp : es.Perm (evsOf ps)) (hv : ∀ p ∈ ps, pvalid p.1 p.2 = true) (e : es = a ++ b) {t : Int} (ha : ∀ x ∈ a, x.1 ≤ t) (hb : ∀ x ∈ b, t < x.1) : sumE a = cntP ps t := by
  rw [← sumE_upto ps hv t, ← sumE_perm (hp.filter _), e, List.filter_append, List.filter_eq_self.2 (fun x hx => by simpa using ha x hx), List.filter_eq_nil_iff.2 (fun x hx => by have := hb x hx; simp; omega), List.append_nil]
theorem evs_range {ps : List (Int × Int)} (hv : ∀ p ∈ ps, pvalid p.1 p.2 = true) : ∀ e ∈ evsOf ps, 0 ≤ e.1 ∧ e.1 ≤ 1099511627776 ∧ (e.2 = 1 ∨ e.2 = -1) := by
  intro e he
  unfold evsOf at he
  rw [List.mem_flatMap] at he
  obtain ⟨p, hp, he⟩ := he
  obtain ⟨h1, h2, h3⟩ := pvalid_iff.1 (hv p hp)
  simp at he
  rcases he with rfl | rfl
  · exact ⟨h1, by dsimp only; omega, .inl rfl⟩
  · exact ⟨by dsimp only; omega, h3, .inr rfl⟩
theorem cnt_below {ps : List (Int × Int)} (hv : ∀ p ∈ ps, pvalid p.1 p.2 = true) {t : Int} (ht : t < 0) : cntP ps t = 0 := by
  unfold cntP
  rw [List.countP_eq_zero]
  intro p hp hi
  have := (pincl_iff.1 hi).2.1
  have := (pvalid_iff.1 (hv p hp)).1
  omega
theorem evs_length (ps : List (Int × Int)) : (evsOf ps).length = 2 * ps.length := by
  induction ps with
  | nil => rfl
  | cons p ps ih => show ((p.1, 1) :: (p.2, -1) :: evsOf ps).length = _; rw [List.length_cons, List.length_cons, ih, List.length_cons]; omega
/-- The end: nothing is open any more, and what was made are the levels. -/
theorem LvI.done {ps es open' out : List _} {X : Int} (h : LvI (cntP ps) X open' out) (hp : es.Perm (evsOf ps)) (hv : ∀ p ∈ ps, pvalid p.1 p.2 = true) (hX : ∀ e ∈ es, e.1 ≤ X) (hs : (open'.length : Int) = sumE es) : LevOf ps out := by
  have h0 : open'.length = 0 := by rw [sumE_perm hp, sumE_all] at hs; omega
  have h1 := List.eq_nil_of_length_eq_zero h0
  subst h1
  refine ⟨fun p hp => (h.val p hp).1, h.lam, fun t => ?_⟩
  by_cases ht : t < X
  · have := h.cnt t ht
    simpa [opn] using this
  · rw [cnt_none (fun p hp => by have := (h.val p hp).2; omega)]
    have := sumE_cut (a := es) (b := []) hp hv (by simp) (t := t) (fun x hx => by have := hX x hx; omega) (by simp)
    rw [sumE_perm hp, sumE_all] at this
    omega
/-- The levels of a row's periods, as tuples of that row. -/
theorem lev_rows {ps M : List (Int × Int)} (h : LevOf ps M) (r : GRow) : Lev (M.map fun p => (⟨r.vals, p.1, p.2, r.lin⟩ : Tup)) ∧ ∀ t, atDay (M.map fun p => (⟨r.vals, p.1, p.2, r.lin⟩ : Tup)) t = List.replicate (cntP ps t) r := by
  refine ⟨⟨fun x hx => ?_, ?_⟩, fun t => ?_⟩
  · obtain ⟨p, hp, rfl⟩ := List.mem_map.1 hx
    exact h.valid p hp
  · rw [List.pairwise_map]
    exact h.lam.imp (fun {a b} (h : LamP a b) => fun _ => h)
  · rw [← h.cnt t]
    clear h
    induction M with
    | nil => rfl
    | cons p M ih =>
      have ec : cntP (p :: M) t = cntP M t + if pincl p.1 p.2 t = true then 1 else 0 := by unfold cntP; rw [List.countP_cons]
      rw [List.map_cons, atDay_cons, ih, ec]
      dsimp only
      split
      · rw [List.replicate_succ]; rfl
      · rfl
/-- What holds between two groups of events: k of them are done, up to X. -/
structure LvS (ps es : List (Int × Int)) (k : Nat) (X : Int) (ol : List Int) (M : List (Int × Int)) : Prop where
  inv : LvI (cntP ps) X ol M
  depth : (ol.length : Int) = sumE (es.take k)
  old : ∀ e ∈ es.take k, e.1 ≤ X
  new : ∀ e ∈ es.drop k, X < e.1
  size : 2 * M.length + ol.length ≤ k
/-- The sorted events of some periods. -/
structure EvOf (ps es : List (Int × Int)) : Prop where
  valid : ∀ p ∈ ps, pvalid p.1 p.2 = true
  perm : es.Perm (evsOf ps)
  sorted : es.Pairwise fun x y => x.1 ≤ y.1
theorem EvOf.range {ps es : List (Int × Int)} (h : EvOf ps es) : ∀ e ∈ es, 0 ≤ e.1 ∧ e.1 ≤ 1099511627776 ∧ (e.2 = 1 ∨ e.2 = -1) := fun e he => evs_range h.valid e (h.perm.mem_iff.1 he)
theorem LvS.start {ps es : List (Int × Int)} (h : EvOf ps es) : LvS ps es 0 (-1) [] [] :=
  ⟨LvI.start fun _ ht => cnt_below h.valid ht, rfl, by simp, fun e he => by have := (h.range e (by simpa using he)).1; omega, Nat.le_refl _⟩
theorem sumE_bound {es : List (Int × Int)} (h : ∀ e ∈ es, e.2 = 1 ∨ e.2 = -1) : -(es.length : Int) ≤ sumE es ∧ sumE es ≤ es.length := by
  induction es with
  | nil => exact ⟨Int.le_refl _, Int.le_refl _⟩
  | cons x es ih =>
    have := ih fun e he => h e (.tail _ he)
    have := h x (.head _)
    rw [sumE_cons, List.length_cons]
    omega
theorem sumE_take {ps es : List (Int × Int)} (h : EvOf ps es) (j : Nat) : -(es.length : Int) ≤ sumE (es.take j) ∧ sumE (es.take j) ≤ es.length := by
  have h1 := sumE_bound (es := es.take j) fun e he => (h.range e (List.mem_of_mem_take he)).2.2
  have h2 : (es.take j).length ≤ es.length := by rw [List.length_take]; omega
  omega
theorem sumE_step {es : List (Int × Int)} {j : Nat} {x : Int × Int} (hx : es[j]? = some x) : sumE (es.take (j + 1)) = sumE (es.take j) + x.2 := by
  rw [take_get hx, sumE_append, sumE_cons]
  show _ + (x.2 + 0) = _
  omega
/-- A group of events at one place: from the k-th to the j-th. -/
structure LvG (ps es : List (Int × Int)) (k j : Nat) (A : Int) : Prop where
  le : k ≤ j
  at' : ∀ i e, k ≤ i → i < j → es[i]? = some e → e.1 = A
theorem LvG.start (ps es : List (Int × Int)) (k : Nat) (A : Int) : LvG ps es k k A := ⟨Nat.le_refl _, fun i e h1 h2 => by omega⟩
theorem LvG.more {ps es : List (Int × Int)} {k j : Nat} {A : Int} (h : LvG ps es k j A) {x : Int × Int} (hx : es[j]? = some x) (hA : x.1 = A) : LvG ps es k (j + 1) A :=
  ⟨by have := h.le; omega, fun i e h1 h2 he => by
    by_cases hi : i < j
    · exact h.at' i e h1 hi he
    · have : i = j := by omega
      subst this
      rw [hx] at he
      cases he
      exact hA⟩
theorem LvG.first {ps es : List (Int × Int)} {k j : Nat} {A : Int} (h : LvG ps es k j A) {x : Int × Int} (hx : es[k]? = some x) (hA : x.1 = A) (hne : ∀ y, es[j]? = some y → y.1 ≠ A) (hk : k < es.length) : k < j := by
  rcases Nat.lt_or_ge k j with h1 | h1
  · exact h1
  · have := h.le
    have e : j = k := by omega
    subst e
    exact absurd hA (hne x hx)
/-- The end of a group. -/
theorem LvS.group {ps es : List (Int × Int)} (h : EvOf ps es) {k j : Nat} {X A : Int} {ol : List Int} {M : List (Int × Int)} (hs : LvS ps es k X ol M) (hg : LvG ps es k j A) {x : Int × Int} (hx : es[k]? = some x) (hA : x.1 = A) (hj : j ≤ es.length) (hne : ∀ y, es[j]? = some y → y.1 ≠ A) :
    LvI (cntP ps) A ol M ∧ (∀ o ∈ ol, o < A) ∧ (∀ p ∈ M, p.2 < A) ∧ sumE (es.take j) = cntP ps A ∧ (∀ e ∈ es.take j, e.1 ≤ A) ∧ (∀ e ∈ es.drop j, A < e.1) ∧ 2 * (M.length : Int) + cntP ps A ≤ j ∧ 2 * (M.length : Int) + 2 * ol.length ≤ j + cntP ps A ∧ 0 ≤ A ∧ A ≤ 1099511627776 ∧ k < j := by
  have hk : k < es.length := (List.getElem?_eq_some_iff.1 hx).1
  have hkj := hg.first hx hA hne hk
  have hr := h.range x (List.mem_of_getElem? hx)
  have hsrt := List.pairwise_iff_getElem.1 h.sorted
  obtain ⟨hk', hxe⟩ := List.getElem?_eq_some_iff.1 hx
  have hdk : ∀ e ∈ es.drop k, A ≤ e.1 := fun e he => by
    obtain ⟨i, hi, rfl⟩ := List.getElem_of_mem he
    rw [List.getElem_drop, ← hA, ← hxe]
    have hi' : k + i < es.length := by rw [List.length_drop] at hi; omega
    rcases Nat.eq_zero_or_pos i with h0 | h0
    · subst h0; exact Int.le_refl _
    · exact hsrt k (k + i) hk' hi' (by omega)
  have hXA : X < A := by rw [← hA]; exact hs.new x (by rw [drop_get hx]; exact .head _)
  obtain ⟨h1, h2, h3⟩ := hs.inv.raise hXA fun t ht1 ht2 => by
    have h4 := sumE_cut h.perm h.valid (List.take_append_drop k es).symm (t := t) (fun e he => by have := hs.old e he; omega) (fun e he => by have := hdk e he; omega)
    have h5 := hs.depth
    omega
  have hold : ∀ e ∈ es.take j, e.1 ≤ A := fun e he => by
    obtain ⟨i, hi, rfl⟩ := List.getElem_of_mem he
    rw [List.getElem_take]
    have hi' : i < j ∧ i < es.length := by rw [List.length_take] at hi; omega
    by_cases hik : i < k
    · have := hs.old es[i] (by rw [List.mem_take_iff_getElem]; exact ⟨i, by omega, rfl⟩)
      omega
    · have := hg.at' i _ (by omega) hi'.1 (List.getElem?_eq_getElem hi'.2)
      omega
  have hnew : ∀ e ∈ es.drop j, A < e.1 := fun e he => by
    obtain ⟨i, hi, rfl⟩ := List.getElem_of_mem he
    rw [List.getElem_drop]
    have hi' : j + i < es.length := by rw [List.length_drop] at hi; omega
    have hj' : j < es.length := by omega
    have hjA := hne _ (List.getElem?_eq_getElem hj')
    have hjk := hsrt k j hk' hj' hkj
    rw [hxe, hA] at hjk
    rcases Nat.eq_zero_or_pos i with h0 | h0
    · subst h0; show A < es[j].1; omega
    · have := hsrt j (j + i) hj' hi' (by omega); omega
  have hsum := sumE_cut h.perm h.valid (List.take_append_drop j es).symm hold hnew
  have hdiff : -((j - k : Nat) : Int) ≤ sumE (es.take j) - sumE (es.take k) ∧ sumE (es.take j) - sumE (es.take k) ≤ (j - k : Nat) := by
    have e : es.take j = es.take k ++ (es.take j).drop k := by
      have := List.take_append_drop k (es.take j)
      rw [List.take_take, Nat.min_eq_left hg.le] at this
      exact this.symm
    have hb := sumE_bound (es := (es.take j).drop k) fun e he => (h.range e (List.mem_of_mem_take (List.mem_of_mem_drop he))).2.2
    rw [e, sumE_append]
    have hl : ((es.take j).drop k).length ≤ j - k := by rw [List.length_drop, List.length_take]; omega
    omega
  have hd := hs.depth
  have hz := hs.size
  refine ⟨h1, h2, h3, hsum, hold, hnew, ?_, ?_, by omega, by omega, hkj⟩ <;> omega
theorem LvS.next {ps es : List (Int × Int)} {j d : Nat} {A : Int} {ol : List Int} {M : List (Int × Int)} (hi : LvI (cntP ps) A ol M) (hs : sumE (es.take j) = d) (ho : ∀ e ∈ es.take j, e.1 ≤ A) (hn : ∀ e ∈ es.drop j, A < e.1) (hl : ol.length = d) (hz : 2 * (M.length : Int) + d ≤ j) : LvS ps es j A ol M :=
  ⟨hi, by rw [hs, hl], ho, hn, by omega⟩
theorem LvS.done {ps es : List (Int × Int)} (h : EvOf ps es) {k : Nat} {X : Int} {ol : List Int} {M : List (Int × Int)} (hs : LvS ps es k X ol M) (hk : k = es.length) : LevOf ps M ∧ M.length ≤ ps.length := by
  subst hk
  have e : es.take es.length = es := List.take_of_length_le (Nat.le_refl _)
  refine ⟨hs.inv.done h.perm h.valid (fun x hx => hs.old x (by rw [e]; exact hx)) (by have := hs.depth; rw [e] at this; exact this), ?_⟩
  have h1 := hs.size
  have h2 := h.perm.length_eq
  rw [evs_length] at h2
  omega
end Go.Proofs.YtfmbbfidjcgeiaaGreatDoor

namespace Go.Proofs.YtfmbbfidjcgeiaaGreatDoor
open Go.RowKit Go.Lib Go.Shelf Go.Sort

section
variable {P : Program} {α : Type}
theorem Own.shrink {E : El P α} {w : World} {B g n c k : Nat} {l : List α} (h : Own E w B (.slice (some ⟨g, 0, none⟩) n c) l) (hn : l.length = n) (hk : k ≤ n) : Own E w B (.slice (some ⟨g, 0, none⟩) k c) (l.take k) := by
  obtain ⟨xs, ⟨h0, h1⟩, h2⟩ := h
  subst hn
  rcases h1 with ⟨h1, _⟩ | ⟨g', cap, cur, e, hg, hh, hc, hm, hs, ht⟩
  · cases h1
  cases e
  have hlk : (l.take k).length = k := by rw [List.length_take]; omega
  have hle : k * E.size ≤ l.length * E.size := Nat.mul_le_mul_right _ hk
  refine ⟨xs.take (k * E.size), ⟨by rw [List.length_take, h0, hlk]; omega, .inr ⟨g, c, cur, by rw [hlk], hg, hh, by rw [hlk]; omega, hm, hs, by rw [hlk, ← ht, List.take_take, Nat.min_eq_left hle]⟩⟩, fun i x hx => ?_⟩
  rw [List.getElem?_take] at hx
  split at hx
  · rename_i hik
    have hle2 : (i + 1) * E.size ≤ k * E.size := Nat.mul_le_mul_right _ hik
    rw [Nat.add_mul, Nat.one_mul] at hle2
    have := h2 i x hx
    rw [List.drop_take, List.take_take, Nat.min_eq_left (by omega)]
    exact this
  · cases hx
end
theorem per_info : (Tryz.prog.info? 46).map (fun i => (i.zero, i.size, i.bytes)) = some (some (.agg #[.int .i64 0, .int .i64 0]), 2, 16) := by kernel_rfl
theorem ev_info : (Tryz.prog.info? 144).map (fun i => (i.zero, i.size, i.bytes)) = some (some (.agg #[.int .i64 0, .int .i64 0]), 2, 16) := by kernel_rfl
/-- Periods. -/
def perE : El Tryz.prog (Int × Int) := El.flat 46 2 16 (by decide) (info_mk per_info rfl) (fun x => [.int .i64 x.1, .int .i64 x.2]) (fun _ => rfl) (by intro x u hu; simp at hu; rcases hu with rfl | rfl <;> rfl)
/-- Events. -/
def evE : El Tryz.prog (Int × Int) := El.flat 144 2 16 (by decide) (info_mk ev_info rfl) (fun x => [.int .i64 x.1, .int .i64 x.2]) (fun _ => rfl) (by intro x u hu; simp at hu; rcases hu with rfl | rfl <;> rfl)
theorem pers_at {w : World} {G : Nat → Prop} {a : Option Addr} {n c k : Nat} {l : List (Int × Int)} {x : Int × Int} (h : Sl perE w G (.slice a n c) l) (hk : l[k]? = some x) :
    ∃ b o, a = some ⟨b, o, none⟩ ∧ w.cell? ⟨b, o + k * 2, none⟩ = some (.int .i64 x.1) ∧ w.cell? ⟨b, o + k * 2 + 1, none⟩ = some (.int .i64 x.2) := by
  obtain ⟨b, o, cs, ha, rfl, hc⟩ := Sl.at h hk
  exact ⟨b, o, ha, hc 0 _ rfl, hc 1 _ rfl⟩
theorem evs_at {w : World} {B g n c k : Nat} {l : List (Int × Int)} {x : Int × Int} (h : Own evE w B (.slice (some ⟨g, 0, none⟩) n c) l) (hk : l[k]? = some x) :
    w.cell? ⟨g, k * 2, none⟩ = some (.int .i64 x.1) ∧ w.cell? ⟨g, k * 2 + 1, none⟩ = some (.int .i64 x.2) := by
  obtain ⟨cs, rfl, hc⟩ := Own.at h hk
  exact ⟨hc 0 _ rfl, hc 1 _ rfl⟩
theorem box_two' {w : World} {g : Nat} {x y : Value} {e : TypeId} (h : w.heap[g]? = some (.cells #[x, y] e (0, 0))) : w.cell? ⟨g, 0, none⟩ = some x ∧ w.cell? ⟨g, 1, none⟩ = some y := by
  constructor <;> simp [World.cell?, h]
set_option maxHeartbeats 1000000 in
theorem evCmp_g (a b : Int × Int) (w : World) : Calls Tryz.prog 76 #[.agg #[.int .i64 a.1, .int .i64 a.2], .agg #[.int .i64 b.1, .int .i64 b.2]] w fun e w' => e = .returned (.int .i64 (cmpI a.1 b.1)) ∧ Grew w w' := by
  obtain ⟨a1, a2⟩ := a
  obtain ⟨b1, b2⟩ := b
  dsimp only
  have HC := fun W => Lib.hid (cmpInt_any a1 b1 W)
  generalize cmpI a1 b1 = r at HC ⊢
  have hB0 := grew_alloc2 w (.cells #[.int .i64 a1, .int .i64 a2] 144) (.cells #[.int .i64 b1, .int .i64 b2] 144)
  obtain ⟨d0, d1⟩ := box_two' (heap_alloc_old' w (.cells #[.int .i64 a1, .int .i64 a2] 144) (.cells #[.int .i64 b1, .int .i64 b2] 144))
  obtain ⟨e0, e1⟩ := box_two' (heap_alloc_new' w (.cells #[.int .i64 a1, .int .i64 a2] 144) (.cells #[.int .i64 b1, .int .i64 b2] 144))
  have HB := Lib.hid hB0
  clear hB0
  go_enter Tryz.func76, Tryz.ntmps76
  go_wp2_with fail
  refine (HC _).out.mono ?_
  rintro _ w2 ⟨rfl, rfl⟩
  go_wp2_with fail
  go_ret
  exact ⟨rfl, HB.out⟩
theorem swo_ev {β : Type} (f : β → Int × Int) : SWO (ltOf fun x y : β => cmpI (f x).1 (f y).1) where
  irrefl x := by
    show decide (cmpI (f x).1 (f x).1 < 0) = false
    rw [cmpI_zero.2 rfl]
    rfl
  trans x y z h1 h2 := by
    have h := sgn_int (f x).1 (f y).1 (f z).1
    have h1' : decide (cmpI (f x).1 (f y).1 < 0) = true := h1
    have h2' : decide (cmpI (f y).1 (f z).1 < 0) = true := h2
    show decide (cmpI (f x).1 (f z).1 < 0) = true
    unfold Sgn3 at h
    rw [decide_eq_true_eq] at h1' h2' ⊢
    omega
  ntrans x y z h1 h2 := by
    have h := sgn_int (f z).1 (f y).1 (f x).1
    rw [cmpI_swap (f y).1 (f z).1, cmpI_swap (f x).1 (f y).1, cmpI_swap (f x).1 (f z).1] at h
    have h1' : decide (cmpI (f x).1 (f y).1 < 0) = false := h1
    have h2' : decide (cmpI (f y).1 (f z).1 < 0) = false := h2
    show decide (cmpI (f x).1 (f z).1 < 0) = false
    unfold Sgn3 at h
    rw [decide_eq_false_iff_not] at h1' h2' ⊢
    omega
theorem cmpI_lt {a b : Int} : cmpI a b < 0 ↔ a < b := by unfold cmpI; split <;> (try split) <;> omega
theorem sortEvs_any (v : Value) (l : List (Int × Int)) (B : Nat) (w : World) (hO : Own evE w B v l) (hl : l.length ≤ 1000000) :
    Calls Tryz.prog 75 #[v, .func (.func 76) #[] #[]] w fun e w' => e = .returned (.tuple #[]) ∧ ∃ l' : List (Int × Int), l'.Perm l ∧ l'.Pairwise (fun x y => x.1 ≤ y.1) ∧ Own evE w' B v l' ∧ Kept (fun k => some k = v.ownBlock) w w' ∧ RowKit.Below B w w' := by
  rcases Nat.eq_zero_or_pos l.length with h0 | hpos
  · have hl0 : l = [] := List.eq_nil_of_length_eq_zero h0
    subst hl0
    obtain ⟨a, c, rfl⟩ := hO.shape
    refine (AnyF.slices_SortFunc_none sh_sortEvs a c _ w).mono ?_
    rintro _ w' ⟨rfl, rfl⟩
    exact ⟨rfl, [], .refl _, .nil, hO, ⟨Nat.le_refl _, fun _ _ _ => rfl⟩, .refl _ _⟩
  · obtain ⟨g, c, rfl⟩ := Own.shape_lt hO hpos
    have hgl := (hO.lt g rfl).2
    refine (own_sorted (fun x y => cmpI x.1 y.1) hO rfl hpos fun d hd hH hK => ?_).mono ?_
    · have eg : ∀ args w, (callFunc 76 args).run Tryz.prog w = .ok (.enter 76 args) w := enters_of Tryz.func76 (by kernel_rfl) rfl
      have hcmp : CmpLays Tryz.prog 76 #[] (Cel.cells (E := evE) (w := w) (g := g)) 2 (fun x y => cmpI x.val.1 y.val.1) g 0 d.size w := fun m os dk hdk x y => by
        have e1 : x.cells = [.int .i64 x.val.1, .int .i64 x.val.2] := x.is
        have e2 : y.cells = [.int .i64 y.val.1, .int .i64 y.val.2] := y.is
        rw [e1, e2]
        exact evCmp_g x.val y.val _
      have := AnyQ.slices_SortFunc sh_sortEvs 2 (fun w => Tryz.isAgg144 w) (fun w => Tryz.sizeOf144 w) (Cel.cells (E := evE) (w := w) (g := g)) Cel.len Cel.one (fun x y => cmpI x.val.1 y.val.1) (swo_ev Cel.val) 76 #[] g 0 c d w eg hcmp hH hgl (by omega)
      have e : Value.slice (some ⟨g, 0, none⟩) d.size c = .slice (some ⟨g, 0, none⟩) l.length c := by rw [hd]
      rw [e] at this
      exact this
    · rintro _ w' ⟨rfl, l', hp, hs, hO', hk, hb⟩
      refine ⟨rfl, l', hp, hs.imp (by intro x y h; rw [cmpI_lt] at h; omega), hO', ?_, hb⟩
      refine ⟨hk.1, fun k hk1 hk2 => hk.2 k hk1 (fun e => hk2 ?_)⟩
      cases e; rfl
end Go.Proofs.YtfmbbfidjcgeiaaGreatDoor

namespace Go.Proofs.YtfmbbfidjcgeiaaGreatDoor
open Go.RowKit Go.Lib

section
variable {P : Program} {α β : Type}
/-- Elements that lead nowhere. -/
def El.Flat (E : El P α) : Prop := ∀ {w w' : World} {G G' : Nat → Prop} {x : α} {cs : List Value}, E.is w G x cs → E.is w' G' x cs
/-- Two rows lie in two blocks. -/
def Apart (v u : Value) : Prop := ∀ k, v.ownBlock = some k → u.ownBlock ≠ some k
theorem Apart.symm {v u : Value} (h : Apart v u) : Apart u v := fun k hk e => h k e hk
theorem Own.kept_flat {E : El P α} (hF : E.Flat) {w w' : World} {G : Nat → Prop} {B : Nat} {v : Value} {l : List α} (h : Own E w B v l) (hk : Kept G w w') (hG : ∀ k, v.ownBlock = some k → ¬ G k) : Own E w' B v l := by
  obtain ⟨xs, ⟨h0, h1⟩, h2⟩ := h
  refine ⟨xs, ⟨h0, ?_⟩, fun i x hx => hF (h2 i x hx)⟩
  rcases h1 with h1 | ⟨g, cap, cur, e, hg, hh, r⟩
  · exact .inl h1
  · exact .inr ⟨g, cap, cur, e, hg, by rw [hk.2 g (Array.getElem?_eq_some_iff.1 hh).1 (hG g (by rw [e]; rfl))]; exact hh, r⟩
theorem Pushed.apart {E : El P α} {B : Nat} {w0 w' : World} {v u : Value} {l : List α} {g cap n : Nat} (h : Pushed E B w0 w' v l g cap) (ha : Apart v u) (hu : ∀ k, u.ownBlock = some k → k < w0.heap.size) : Apart (.slice (some ⟨g, 0, none⟩) n cap) u := by
  intro k hk e
  have hk' : some g = some k := hk
  cases hk'
  rcases h.place with h1 | h1
  · exact ha g h1 e
  · have := hu g e; omega
theorem Pushed.keep {E : El P α} {F : El P β} (hF : F.Flat) {B B' : Nat} {w0 w' : World} {v u : Value} {l : List α} {m : List β} {g cap : Nat} (h : Pushed E B w0 w' v l g cap) (ha : Apart v u) (hO : Own F w0 B' u m) : Own F w' B' u m :=
  hO.kept_flat hF h.kept fun k hk e => ha k e.symm hk
end
theorem perE_flat : perE.Flat (P := Tryz.prog) := fun h => h
theorem evE_flat : evE.Flat (P := Tryz.prog) := fun h => h
theorem intE_flat : intE.Flat (P := Tryz.prog) := fun h => h
def slLen : Value → Nat
  | .slice _ n _ => n
  | _ => 0
theorem apart_none (u : Value) : Apart (.slice none 0 0) u := fun k hk => by cases hk
theorem evsOf_snoc (l : List (Int × Int)) (x : Int × Int) : evsOf (l ++ [x]) = evsOf l ++ [(x.1, 1), (x.2, -1)] := by unfold evsOf; rw [List.flatMap_append]; rfl
set_option maxHeartbeats 8000000 in
set_option maxRecDepth 100000 in
theorem levels_any (v : Value) (ps : List (Int × Int)) (w : World) (hv : Sl perE w free v ps) (hl : ps.length ≤ 100000) (hval : ∀ p ∈ ps, pvalid p.1 p.2 = true) :
    Calls Tryz.prog 46 #[v] w fun e w' => ∃ M, LevOf ps M ∧ M.length ≤ ps.length ∧ RetOwn perE w M e w' := by
  obtain ⟨a, c, rfl⟩ := hv.shape
  have HV := Lib.hid hv
  have HVAL := Lib.hid hval
  obtain ⟨n, hn⟩ : ∃ n, n = ps.length := ⟨_, rfl⟩
  have HN := Lib.hid hn
  rw [← hn] at hl HV ⊢
  clear hv hval hn
  go_enter Tryz.func46, Tryz.ntmps46
  go_wp2_with fail
  go_loopw [13, 3] (fun i o wr => ∃ k : Nat, k ≤ n ∧ i = .int .i64 k ∧ Own evE wr w.heap.size o (evsOf (ps.take k)) ∧ Hid (Below w.heap.size w wr)) (fun i _ _ => n - (RowKit.intOf i).toNat)
  case atStart => exact ⟨0, Nat.zero_le _, rfl, Own.nil _ _ _, Lib.hid (.refl _ _)⟩
  case round =>
    obtain ⟨k, hk, rfl, hO, HB⟩ := hrel
    obtain ⟨wo, rfl⟩ : ∃ wo : World, wo = wr := ⟨_, rfl⟩
    by_cases hlt : k < n
    · obtain ⟨x, hx⟩ := lget_some ps k (by rw [← HN.out]; exact hlt)
      obtain ⟨b, o, rfl, p0, p1⟩ := pers_at (HV.out.below HB.out) hx
      have HT : Hid (evsOf (ps.take (k + 1)) = evsOf (ps.take k) ++ [(x.1, 1), (x.2, -1)]) := by show _ = _; rw [take_get hx, evsOf_snoc]
      have hlk : (evsOf (ps.take k)).length = 2 * k := by rw [evs_length, List.length_take, ← HN.out, Nat.min_eq_left hk]
      obtain ⟨lk, hlke⟩ : ∃ lk, lk = evsOf (ps.take k) := ⟨_, rfl⟩
      rw [← hlke] at hO HT hlk
      obtain ⟨ao, co, rfl⟩ := hO.shape
      obtain ⟨x1, x2⟩ := x
      dsimp only at p0 p1 HT
      have HLK := Lib.hid hlk
      have HB1 : Hid (Below w.heap.size w (wo.alloc (.cells #[.int .i64 x1, .int .i64 x2] 46))) := Lib.hid (below_alloc_keep HB.out)
      have HO1 := Lib.hid (hO.below (below_alloc wo (.cells #[.int .i64 x1, .int .i64 x2] 46)))
      have HIS : Hid (Els evE (wo.alloc (.cells #[.int .i64 x1, .int .i64 x2] 46)) (fun j => some j = (Value.slice ao lk.length co).ownBlock) [(x1, 1), (x2, -1)] [.int .i64 x1, .int .i64 1, .int .i64 x2, .int .i64 (-1)]) := Lib.hid (Els.cons (cs := [.int .i64 x1, .int .i64 1]) rfl (Els.one (cs := [.int .i64 x2, .int .i64 (-1)]) rfl))
      clear hx hO hlk hlke
      go_wp2_with (at_builtin; go_loud (refine wpList_push rfl (.tmp 17) (.tmp 24) 142 rfl evE Tryz.underlying142 w.heap.size (.slice ao lk.length co) lk rfl HO1.out [(x1, 1), (x2, -1)] #[.int .i64 x1, .int .i64 1, .int .i64 x2, .int .i64 (-1)] HIS.out 2 2 rfl (congrArg (fun k => Value.slice (some ⟨k, 0, none⟩) 2 2) (World.size_alloc _ _).symm) (by decide) (by have := HLK.out; unfold maxLen; omega) (by have := HLK.out; show _ * 16 ≤ _; omega) HB1.out.size ?_); intro g cap w5 hP hPa)
      go_roundw
      case rel => exact ⟨k + 1, by omega, by go_num, by rw [HT.out]; exact hP.own' (by simp), Lib.hid (HB1.out.trans hP.below)⟩
      case measure => simp [RowKit.intOf]; omega
    · have hkk : ps.take k = ps := List.take_of_length_le (by rw [← HN.out]; omega)
      rw [hkk] at hO
      have hlen : (evsOf ps).length = 2 * n := by rw [evs_length, ← HN.out]
      have HSR := Lib.hid (sortEvs_any _ _ w.heap.size wo hO (by omega))
      obtain ⟨ae, ce, rfl⟩ := hO.shape
      rw [hlen] at HSR ⊢
      have HLEN := Lib.hid hlen
      clear hO hkk hlen
      go_wp2_with fail
      refine HSR.out.mono ?_
      rintro _ w2 ⟨rfl, es, hp, hs, hE, _, hb2⟩
      have HEV : Hid (EvOf ps es) := Lib.hid ⟨HVAL.out, hp, hs⟩
      have hel : es.length = 2 * n := by rw [hp.length_eq]; exact HLEN.out
      have HEL := Lib.hid hel
      have HB2 := Lib.hid (HB.out.trans hb2)
      have HE := Lib.hid hE
      clear hp hs hE hb2 hel HSR
      go_wp2_with fail
      go_loopw [8, 6, 7] (fun s8 s6 s7 wr => ∃ (k : Nat) (X : Int) (ol : List Int) (M : List (Int × Int)), k ≤ 2 * n ∧ s8 = .int .i64 k ∧ Hid (LvS ps es k X ol M) ∧ Own intE wr w.heap.size s6 ol ∧ Own perE wr w.heap.size s7 M ∧ Own evE wr w.heap.size (.slice ae (2 * n) ce) es ∧ Apart (.slice ae (2 * n) ce) s6 ∧ Apart (.slice ae (2 * n) ce) s7 ∧ Apart s6 s7 ∧ Hid (Below w.heap.size w wr)) (fun i _ _ _ => 2 * n - (RowKit.intOf i).toNat)
      case atStart => exact ⟨0, -1, [], [], Nat.zero_le _, rfl, Lib.hid (LvS.start HEV.out), Own.nil _ _ _, Own.nil _ _ _, HE.out, (apart_none _).symm, (apart_none _).symm, apart_none _, HB2⟩
      case round =>
        obtain ⟨k, X, ol, M, hk, rfl, HS, hO6, hO7, hOE, hA6, hA7, hA67, HB3⟩ := hrel
        obtain ⟨wo, rfl⟩ : ∃ wo : World, wo = wr := ⟨_, rfl⟩
        by_cases hlt : k < 2 * n
        · obtain ⟨x, hx⟩ := lget_some es k (by rw [HEL.out]; exact hlt)
          obtain ⟨ge, rfl⟩ : ∃ ge, ae = some ⟨ge, 0, none⟩ := by
            obtain ⟨g, c', e⟩ := Own.shape_lt hOE (by rw [HEL.out]; omega)
            injection e with h1
            exact ⟨_, h1⟩
          obtain ⟨p0, p1⟩ := evs_at hOE hx
          obtain ⟨a6, c6, rfl⟩ := hO6.shape
          obtain ⟨a7, c7, rfl⟩ := hO7.shape
          have HX := Lib.hid hx
          have HOE := Lib.hid hOE
          have HO6 := Lib.hid hO6
          have HO7 := Lib.hid hO7
          have HA6 := Lib.hid hA6
          have HA7 := Lib.hid hA7
          have HA67 := Lib.hid hA67
          have HD0 : Hid (Value.int .i64 (ol.length : Int) = .int .i64 (sumE (es.take k))) := Lib.hid (by rw [HS.out.depth])
          obtain ⟨A, D⟩ := x
          dsimp only at p0 p1
          clear hx hOE hO6 hO7 hA6 hA7 hA67
          go_wp2_with fail
          go_loop [8, 10] (fun s8 s10 => ∃ j : Nat, k ≤ j ∧ j ≤ 2 * n ∧ s8 = .int .i64 j ∧ s10 = .int .i64 (sumE (es.take j)) ∧ Hid (LvG ps es k j A)) (fun s8 _ => 2 * n - (RowKit.intOf s8).toNat)
          case atStart => exact ⟨k, Nat.le_refl _, hk, rfl, HD0.out, Lib.hid (LvG.start _ _ _ _)⟩
          case round =>
            obtain ⟨j, hkj, hj, rfl, rfl, HG⟩ := hrel
            by_cases hc : ∃ y, es[j]? = some y ∧ y.1 = A
            · obtain ⟨⟨y1, y2⟩, hy, hyA⟩ := hc
              dsimp only at hyA
              subst hyA
              have hjl : j < 2 * n := by rw [← HEL.out]; exact (List.getElem?_eq_some_iff.1 hy).1
              obtain ⟨q0, q1⟩ := evs_at HOE.out hy
              dsimp only at q0 q1
              have hb := sumE_take HEV.out j
              rw [HEL.out] at hb
              have hy2 := (HEV.out.range _ (List.mem_of_getElem? hy)).2.2
              dsimp only at hy2
              have HSM := Lib.hid (sumE_step hy)
              have HG2 := Lib.hid (HG.out.more hy rfl)
              obtain ⟨s, hs⟩ : ∃ s, s = sumE (es.take j) := ⟨_, rfl⟩
              rw [← hs] at hb HSM ⊢
              have hyy : (y1 == y1) = true := by simp
              have hb1 : -200000 ≤ s := by omega
              have hb2 : s ≤ 200000 := by omega
              have hb3 : -1 ≤ y2 := by omega
              have hb4 : y2 ≤ 1 := by omega
              clear hy hs hb hy2
              go_wp2_with fail
              go_round
              case rel => exact ⟨j + 1, by omega, by omega, by go_num, by rw [HSM.out], HG2⟩
              case measure => simp [RowKit.intOf]; omega
            · have HNE : Hid (∀ y, es[j]? = some y → y.1 ≠ A) := Lib.hid (fun y hy e => hc ⟨y, hy, e⟩)
              clear hc
              obtain ⟨h1, h2, h3, h4, h5, h6, h7, h8, h9, h10, h11⟩ := HS.out.group HEV.out HG.out HX.out rfl (by rw [HEL.out]; exact hj) HNE.out
              obtain ⟨d, hd⟩ : ∃ d, d = cntP ps A := ⟨_, rfl⟩
              rw [← hd] at h4 h7 h8
              rw [h4]
              have HI := Lib.hid h1
              have HLO := Lib.hid h2
              have HHI := Lib.hid h3
              have HSUM := Lib.hid h4
              have HOLD := Lib.hid h5
              have HNEW := Lib.hid h6
              clear h1 h2 h3 h4 h5 h6 hd
              rcases Nat.lt_or_ge j (2 * n) with hjl | hjl
              all_goals first
                | (have hjl2 : j < es.length := Nat.lt_of_lt_of_eq hjl HEL.out.symm
                   obtain ⟨⟨y1, y2⟩, hy⟩ := lget_some es j hjl2
                   obtain ⟨q0, q1⟩ := evs_at HOE.out hy
                   have hyA := HNE.out _ hy
                   dsimp only at q0 q1 hyA
                   have hyb : (y1 == A) = false := by simpa using hyA
                   clear hy hyA hjl2
                   go_wp2_with fail)
                | go_wp2_with fail
              all_goals (
                go_loopw [6, 7] (fun s6 s7 wr => ∃ (o2 : List Int) (M2 : List (Int × Int)), Own intE wr w.heap.size s6 o2 ∧ Own perE wr w.heap.size s7 M2 ∧ Own evE wr w.heap.size (.slice (some ⟨ge, 0, none⟩) (2 * n) ce) es ∧ Hid (Apart (.slice (some ⟨ge, 0, none⟩) (2 * n) ce) s6) ∧ Hid (Apart (.slice (some ⟨ge, 0, none⟩) (2 * n) ce) s7) ∧ Hid (Apart s6 s7) ∧ Hid (LvI (cntP ps) A o2 M2) ∧ Hid (∀ o ∈ o2, o < A) ∧ Hid (o2.length < d → ∀ p ∈ M2, p.2 < A) ∧ 2 * M2.length + d ≤ j ∧ 2 * M2.length + 2 * o2.length ≤ j + d ∧ Hid (Below w.heap.size w wr)) (fun s6 _ _ => slLen s6)
                case atStart => exact ⟨ol, M, HO6.out, HO7.out, HOE.out, HA6, HA7, HA67, HI, HLO, Lib.hid (fun _ => HHI.out), by omega, by omega, HB3⟩
                case round =>
                  obtain ⟨o2, M2, hO6, hO7, hOE, HA6, HA7, HA67, HI, HLO, HHI, hz1, hz2, HB4⟩ := hrel
                  obtain ⟨wx, rfl⟩ : ∃ wx : World, wx = wr := ⟨_, rfl⟩
                  by_cases hgt : d < o2.length
                  · obtain ⟨q, hq⟩ : ∃ q, o2.length = q + 1 := ⟨o2.length - 1, by omega⟩
                    obtain ⟨o, ho⟩ := lget_some o2 q (by omega)
                    have ho2 : o2 = o2.take q ++ [o] := by rw [← take_get ho, List.take_of_length_le (by omega)]
                    obtain ⟨g6, c6, rfl⟩ := Own.shape_lt hO6 (by omega)
                    obtain ⟨a7, c7, rfl⟩ := hO7.shape
                    obtain ⟨b, of, eb, p6⟩ := ints_at' hO6.sl ho
                    cases eb
                    rw [Nat.zero_add] at p6
                    have HOX : Hid (o < A) := Lib.hid (HLO.out o (List.mem_of_getElem? ho))
                    have HI2 : Hid (LvI (cntP ps) A (o2.take q) (M2 ++ [(o, A)])) := Lib.hid (LvI.pop (by rw [← ho2]; exact HI.out) HOX.out h10)
                    have HLO2 : Hid (∀ o ∈ o2.take q, o < A) := Lib.hid (fun z hz => HLO.out z (List.mem_of_mem_take hz))
                    have htl : (o2.take q).length = q := by rw [List.length_take]; omega
                    have HTL := Lib.hid htl
                    rw [hq] at hO6 HA6 HA67 hgt hz2 ⊢
                    have HQ := Lib.hid hq
                    have HO6 := Lib.hid hO6
                    have HO7 := Lib.hid hO7
                    have HOE := Lib.hid hOE
                    have hcap : q + 1 ≤ c6 := Sl.cap (HO6.out).sl
                    clear ho ho2 htl hO6 hO7 hOE hq HI HLO HHI
                    go_wp2_with (at_builtin; refine wpList_push rfl (.tmp 66) (.tmp 75) 106 rfl perE Tryz.underlying106 w.heap.size (.slice a7 M2.length c7) M2 rfl HO7.out [(o, A)] #[.int .i64 o, .int .i64 A] (Els.one rfl) 1 1 rfl rfl (by decide) (by unfold maxLen; omega) (by show _ * 16 ≤ _; omega) HB4.out.size ?_; intro g cap w5 hP hPa)
                    go_roundw
                    case rel => exact ⟨o2.take q, M2 ++ [(o, A)], (hP.keep intE_flat HA67.out.symm HO6.out).shrink HQ.out (Nat.le_succ _), hP.own' (by simp), hP.keep evE_flat HA7.out.symm HOE.out, Lib.hid (fun z hz e => HA6.out z hz e), Lib.hid ((hP.apart HA7.out.symm (fun z hz => (HOE.out.lt z hz).2)).symm), Lib.hid ((hP.apart HA67.out.symm (fun z hz => (HO6.out.lt z hz).2)).symm), HI2, HLO2, Lib.hid (fun h => absurd h (by rw [HTL.out]; omega)), by simp; omega, by rw [HTL.out]; simp; omega, Lib.hid (HB4.out.trans hP.below)⟩
                    case measure => simp [slLen]
                  · obtain ⟨a7, c7, rfl⟩ := hO7.shape
                    obtain ⟨a6, c6, rfl⟩ := hO6.shape
                    have HO6 := Lib.hid hO6
                    have HO7 := Lib.hid hO7
                    have HOE := Lib.hid hOE
                    clear hO6 hO7 hOE HLO
                    go_wp2_with fail
                    go_loopw [6] (fun s6 wr => ∃ o3 : List Int, Own intE wr w.heap.size s6 o3 ∧ Own perE wr w.heap.size (.slice a7 M2.length c7) M2 ∧ Own evE wr w.heap.size (.slice (some ⟨ge, 0, none⟩) (2 * n) ce) es ∧ Hid (Apart (.slice (some ⟨ge, 0, none⟩) (2 * n) ce) s6) ∧ Hid (Apart s6 (.slice a7 M2.length c7)) ∧ Hid (LvI (cntP ps) A o3 M2) ∧ Hid (o3.length < d → ∀ p ∈ M2, p.2 < A) ∧ o3.length ≤ d ∧ Hid (Below w.heap.size w wr)) (fun s6 _ => d - slLen s6)
                    case atStart => exact ⟨o2, HO6.out, HO7.out, HOE.out, HA6, HA67, HI, HHI, by omega, HB4⟩
                    case round =>
                      obtain ⟨o3, hO6, hO7, hOE, HA6, HA67, HI, HHI, hz3, HB5⟩ := hrel
                      obtain ⟨wy, rfl⟩ : ∃ wy : World, wy = wr := ⟨_, rfl⟩
                      obtain ⟨a6, c6, rfl⟩ := hO6.shape
                      have HO6 := Lib.hid hO6
                      have HO7 := Lib.hid hO7
                      have HOE := Lib.hid hOE
                      clear hO6 hO7 hOE
                      by_cases hlt3 : o3.length < d
                      · have HHI3 := Lib.hid (HHI.out hlt3)
                        have HI3 := Lib.hid (HI.out.push h9 HHI3.out)
                        go_wp2_with (at_builtin; refine wpList_push rfl (.tmp 86) (.tmp 88) 36 rfl intE Tryz.underlying36 w.heap.size (.slice a6 o3.length c6) o3 rfl HO6.out [A] #[.int .i64 A] (Els.one rfl) 1 1 rfl rfl (by decide) (by unfold maxLen; omega) (by show _ * 8 ≤ _; omega) HB5.out.size ?_; intro g cap w5 hP hPa)
                        go_roundw
                        case rel => exact ⟨o3 ++ [A], hP.own' (by simp), hP.keep perE_flat HA67.out HO7.out, hP.keep evE_flat HA6.out.symm HOE.out, Lib.hid ((hP.apart HA6.out.symm (fun z hz => (HOE.out.lt z hz).2)).symm), Lib.hid (hP.apart HA67.out (fun z hz => (HO7.out.lt z hz).2)), HI3, Lib.hid (fun _ => HHI3.out), by simp; omega, Lib.hid (HB5.out.trans hP.below)⟩
                        case measure => simp [slLen]; omega
                      · have HNX : Hid (LvS ps es j A o3 M2) := Lib.hid (LvS.next HI.out HSUM.out HOLD.out HNEW.out (by omega) (by omega))
                        go_wp2_with fail
                        go_roundw
                        case rel => exact ⟨j, A, o3, M2, hj, rfl, HNX, HO6.out, HO7.out, HOE.out, HA6.out, by assumption, HA67.out, HB5⟩
                        case measure => simp [RowKit.intOf]; omega)
        · have hk2 : k = 2 * n := by omega
          subst hk2
          have HDN : Hid (LevOf ps M ∧ M.length ≤ ps.length) := Lib.hid (HS.out.done HEV.out HEL.out.symm)
          obtain ⟨a7, c7, rfl⟩ := hO7.shape
          have HO7 := Lib.hid hO7
          clear hO6 hO7 hOE hA6 hA7 hA67
          go_wp2_with fail
          go_ret
          exact ⟨M, HDN.out.1, by rw [HN.out]; exact HDN.out.2, _, rfl, HO7.out, HB3.out⟩
end Go.Proofs.YtfmbbfidjcgeiaaGreatDoor

namespace Go.Proofs.YtfmbbfidjcgeiaaGreatDoor
open Go.RowKit Go.Lib

section
variable {P : Program} {α : Type}
theorem setL_take_at (us xs : List Value) (s i k j : Nat) (hj : j + us.length ≤ s) (hk : k * s + s ≤ xs.length) : ((setL xs (k * s + j) us).drop (i * s)).take s = if i = k then setL ((xs.drop (i * s)).take s) j us else (xs.drop (i * s)).take s := by
  refine List.ext_getElem? fun m => ?_
  rw [List.getElem?_take, List.getElem?_drop, setL_get]
  by_cases hm : m < s
  · rw [if_pos hm]
    by_cases hik : i = k
    · subst hik
      rw [if_pos rfl, setL_get, List.length_take, List.length_drop, List.getElem?_take, if_pos hm, List.getElem?_drop]
      by_cases h : j ≤ m ∧ m < j + us.length
      · rw [if_pos (by omega), if_pos (by omega), show i * s + m - (i * s + j) = m - j by omega]
      · rw [if_neg (by omega), if_neg (by omega)]
    · rw [if_neg hik, List.getElem?_take, if_pos hm, List.getElem?_drop, if_neg]
      intro h
      rcases Nat.lt_or_gt_of_ne hik with h' | h'
      · have := Nat.mul_le_mul_right s (show i + 1 ≤ k from h'); rw [Nat.add_mul, Nat.one_mul] at this; omega
      · have := Nat.mul_le_mul_right s (show k + 1 ≤ i from h'); rw [Nat.add_mul, Nat.one_mul] at this; omega
  · rw [if_neg hm]
    split
    · rw [List.getElem?_eq_none]
      rw [setL_length, List.length_take]
      omega
    · rw [List.getElem?_take, if_neg hm]
/-- Some cells of one element are stored anew. -/
theorem Own.put_at {E : El P α} {w : World} {B g n c k j : Nat} {l : List α} {y : α} {us : List Value} (h : Own E w B (.slice (some ⟨g, 0, none⟩) n c) l) (hn : l.length = n) (hk : k < n) (hj : j + us.length ≤ E.size)
    (hx : ∀ x cs, l[k]? = some x → E.is w (fun m => some m = some g) x cs → E.is w (fun m => some m = some g) y (setL cs j us)) :
    Own E (w.setCells g (k * E.size + j) us) B (.slice (some ⟨g, 0, none⟩) n c) (l.set k y) ∧ w.grownBy (w.setCells g (k * E.size + j) us) (some g) := by
  obtain ⟨xs, h1, h2⟩ := h
  rw [hn] at h1
  obtain ⟨h3, h4⟩ := owns_setCells us w xs (k * E.size + j) h1
  have hK : Kept (fun m => some m = some g) w (w.setCells g (k * E.size + j) us) := .of_grown h4
  have hxl : xs.length = n * E.size := h1.1
  have hb : k * E.size + E.size ≤ xs.length := by
    have := Nat.mul_le_mul_right E.size (show k + 1 ≤ n from hk); rw [Nat.add_mul, Nat.one_mul] at this; omega
  refine ⟨⟨_, by rw [List.length_set, hn]; exact h3, fun i z hz => ?_⟩, h4⟩
  rw [setL_take_at us xs E.size i k j hj hb]
  by_cases hik : i = k
  · subst hik
    rw [if_pos rfl]
    rw [List.getElem?_set_self (by omega)] at hz
    cases hz
    have hl : l[i]? = some l[i] := List.getElem?_eq_getElem (by omega)
    exact E.kept (hx _ _ hl (h2 i _ hl)) hK
  · rw [if_neg hik]
    rw [List.getElem?_set_ne (Ne.symm hik)] at hz
    exact E.kept (h2 i z hz) hK
theorem Own.shape_pos {E : El P α} {w : World} {B : Nat} {v : Value} {l : List α} (h : Own E w B v l) (hp : 0 < l.length) : ∃ g c, v = .slice (some ⟨g, 0, none⟩) l.length c := by
  obtain ⟨xs, h1, _⟩ := h
  rcases h1.2 with ⟨_, h⟩ | ⟨g, cap, cur, e, _⟩
  · omega
  · exact ⟨g, cap, e⟩
end
end Go.Proofs.YtfmbbfidjcgeiaaGreatDoor

namespace Go.Proofs.YtfmbbfidjcgeiaaGreatDoor
open Go.RowKit Go.Lib

def stpOf (s : Stp) : List Value := [.int .i64 s.lo, .int .i64 s.hi, .int .i64 s.v.kind, .int .i64 s.v.n, .string s.v.s]
theorem stp_info : (Tryz.prog.info? 75).map (fun i => (i.zero, i.size, i.bytes)) = some (some (.agg #[.int .i64 0, .int .i64 0, .int .i64 0, .int .i64 0, .string ⟨#[]⟩]), 5, 48) := by kernel_rfl
def stpE : El Tryz.prog Stp := El.flat 75 5 48 (by decide) (info_mk stp_info rfl) stpOf (fun _ => rfl) (by intro x u hu; simp [stpOf] at hu; rcases hu with rfl | rfl | rfl | rfl | rfl <;> rfl)
theorem stp_at {w : World} {B g n c k : Nat} {l : List Stp} {s : Stp} (h : Own stpE w B (.slice (some ⟨g, 0, none⟩) n c) l) (hk : l[k]? = some s) :
    w.cell? ⟨g, k * 5, none⟩ = some (.int .i64 s.lo) ∧ w.cell? ⟨g, k * 5 + 1, none⟩ = some (.int .i64 s.hi) ∧ w.cell? ⟨g, k * 5 + 2, none⟩ = some (.int .i64 s.v.kind) ∧ w.cell? ⟨g, k * 5 + 3, none⟩ = some (.int .i64 s.v.n) ∧ w.cell? ⟨g, k * 5 + 4, none⟩ = some (.string s.v.s) := by
  obtain ⟨b, o, cs, ha, rfl, hc⟩ := h.sl.at hk
  cases ha
  have h0 := hc 0 _ rfl
  have h1 := hc 1 _ rfl
  have h2 := hc 2 _ rfl
  have h3 := hc 3 _ rfl
  have h4 := hc 4 _ rfl
  simp only [Nat.zero_add, Nat.add_zero, show stpE.size = 5 from rfl] at h0 h1 h2 h3 h4
  exact ⟨h0, h1, h2, h3, h4⟩
/-- A row that has just been made of a literal. -/
theorem own_lit {P : Program} {α : Type} {E : El P α} {w : World} {l : List α} {c : Array Value} {n : Nat} (h : Els E w (fun k => some k = some w.heap.size) l c.toList) (hn : l.length = n) (hp : n ≤ maxLen) : Own E (w.alloc (.cells c E.ty)) w.heap.size (.slice (some ⟨w.heap.size, 0, none⟩) n n) l := by
  subst hn
  have hl := h.1
  refine ⟨c.toList, ⟨hl, .inr ⟨w.heap.size, l.length, c, rfl, Nat.le_refl _, World.alloc_heap_new _ _, Nat.le_refl _, hp, by simpa using hl, by rw [List.take_of_length_le (by rw [hl]; exact Nat.le_refl _)]⟩⟩, fun i x hx => E.below (h.2 i x hx) (below_alloc _ _)⟩
theorem Own.keptE {P : Program} {α : Type} {E : El P α} {w w' : World} {B : Nat} {v : Value} {l : List α} (h : Own E w B v l) (hb : Below w.heap.size w w') : Own E w' B v l := h.below hb
theorem holdL_snoc {m : List Tup} {k : Nat} {x : Tup} {d : Int} (h : m[k]? = some x) : holdL (m.take (k + 1)) d = holdL (m.take k) d ++ if pincl x.lo x.hi d = true then [x] else [] := by
  unfold holdL
  rw [take_get h, List.filter_append]
  by_cases e : pincl x.lo x.hi d = true <;> simp [e]
theorem holdL_len (m : List Tup) (k : Nat) (d : Int) : (holdL (m.take k) d).length ≤ m.length := by
  unfold holdL
  refine Nat.le_trans (List.length_filter_le _ _) ?_
  rw [List.length_take]; omega
theorem mvPts_len (m : List Tup) : (mvPts m).length ≤ (m.length + 1) * 2 := by
  have := bnds_length (allT :: m)
  rw [List.length_cons] at this
  exact this
/-- While a step is appended: what stays. -/
structure MovS (w : World) (bv b ox oy : Nat) (x y : Int) (v : GVal) (W : World) : Prop where
  val : BoxV W bv v
  cx : W.cell? ⟨b, ox, none⟩ = some (.int .i64 x)
  cy : W.cell? ⟨b, oy, none⟩ = some (.int .i64 y)
section
variable {w W W' : World} {bv b ox oy : Nat} {x y : Int} {v : GVal}
theorem MovS.below (h : MovS w bv b ox oy x y v W) (hb : Below W.heap.size W W') : MovS w bv b ox oy x y v W' := ⟨h.val.below hb, cell_keep hb h.cx, cell_keep hb h.cy⟩
theorem MovS.drew (h : MovS w bv b ox oy x y v W) : MovS w bv b ox oy x y v W.drew := h.below (Below.refl _ _).drew
theorem MovS.facts (h : MovS w bv b ox oy x y v W) : W.cell? ⟨b, ox, none⟩ = some (.int .i64 x) ∧ W.cell? ⟨b, oy, none⟩ = some (.int .i64 y) ∧ W.cell? ⟨bv, 0, none⟩ = some (.int .i64 v.kind) ∧ W.cell? ⟨bv, 1, none⟩ = some (.int .i64 v.n) ∧ W.cell? ⟨bv, 2, none⟩ = some (.string v.s) :=
  ⟨h.cx, h.cy, h.val.cells.1.1, h.val.cells.1.2.1, h.val.cells.1.2.2⟩
theorem MovS.push {B g cap : Nat} {u : Value} {l : List Stp} (h : MovS w bv b ox oy x y v W) (hP : Pushed stpE B W W' u l g cap) (hn : some b ≠ u.ownBlock ∧ some bv ≠ u.ownBlock) : MovS w bv b ox oy x y v W' :=
  ⟨hP.block hn.2 h.val, hP.cell hn.1 h.cx, hP.cell hn.1 h.cy⟩
end
set_option maxHeartbeats 8000000 in
set_option maxRecDepth 100000 in
theorem moving_any (v ve : Value) (l : List Tup) (e : List GExp) (arg days kind : Int) (w : World) (hv : Tups w v l) (hve : Sl expE w free ve e) (hl : l.length ≤ 1000) (he : e.length ≤ 1000) (hc : ∀ x ∈ e, In64 x.c.n) (h64 : ∀ t ∈ l, ∀ x ∈ t.vals, In64 x.n) :
    Calls Tryz.prog 10 #[v, ve, .int .i64 arg, .int .i64 days, .int .i64 kind] w (RetOwn stpE w (movL l e arg days kind)) := by
  have HX := Lib.hid (extend_any v l (clampD days) (clampD_pos days) w hv (by omega))
  obtain ⟨ext, hext⟩ : ∃ ext, ext = extL (clampD days) l := ⟨_, rfl⟩
  have hel : ext.length ≤ 1000 := by rw [hext]; exact Nat.le_trans (extL_len _ _) hl
  have he64 : ∀ t ∈ ext, ∀ x ∈ t.vals, In64 x.n := by
    rw [hext]
    intro t ht x hx
    obtain ⟨s, hs, e, _⟩ := extL_from ht
    exact h64 s hs x (by rw [e]; exact hx)
  have hres : movL l e arg days kind = stepsL (mvPts ext) fun p => aggT e arg kind (holdL ext p) := by rw [hext]; rfl
  obtain ⟨res, hres2⟩ : ∃ res, res = movL l e arg days kind := ⟨_, rfl⟩
  rw [← hres2] at hres ⊢
  rw [← hext] at HX
  have HRES := Lib.hid hres
  have HE64 := Lib.hid he64
  have HEXL := Lib.hid hve
  have HC := Lib.hid hc
  have HPL := Lib.hid (mvPts_len ext)
  obtain ⟨D, hD⟩ : ∃ D, D = clampD days := ⟨_, rfl⟩
  have HDD : Hid (min (max days 1) 1000000 = D) := Lib.hid (by rw [hD]; rfl)
  rw [← hD] at HX
  clear hv hve hc h64 hext he64 hres hres2 hD
  go_enter Tryz.func10, Tryz.ntmps10
  go_wp2_with fail
  rw [HDD.out]
  refine HX.out.mono ?_
  rintro _ w1 ⟨vx, rfl, hO1, hb1⟩
  obtain ⟨ax, cx, rfl⟩ := hO1.shape
  obtain ⟨m, hm⟩ : ∃ m, m = ext.length := ⟨_, rfl⟩
  have HM := Lib.hid hm
  have hS1 := hO1.sl
  rw [← hm] at hS1 hel ⊢
  have HS1 := Lib.hid hS1
  have HB1 := Lib.hid hb1
  clear hO1 hb1 HX hm hS1
  go_wp2_with (at_builtin; refine wpList_join rfl (.tmp 27) (.tmp 28) 24 rfl tupE Tryz.underlying24 w1.heap.size (.slice (some ⟨w1.heap.size, 0, none⟩) 1 1) (.slice ax m cx) [allT] ext rfl rfl (own_lit (Els.one ⟨_, _, rfl, Sl.nil _ _ _ _ _, Sl.nil _ _ _ _ _⟩) rfl (by decide)) (((HS1.out.old (Nat.le_refl _)).below (below_alloc _ _)).mono (fun j _ hj => by cases hj; exact Nat.le_refl _)) (by rw [← HM.out]; unfold maxLen; simp; omega) (by rw [← HM.out]; show _ * 64 ≤ _; simp; omega) (by simp) (m + 1) (by rw [← HM.out]; simp; omega) ?_; intro aj cj w2 hJ)
  have HBN := Lib.hid (bnds_any _ ([allT] ++ ext) w2 hJ.own.sl (by simp; rw [← HM.out]; omega))
  have hb2 : Below w1.heap.size w1 w2 := (below_alloc _ _).trans hJ.below
  have HB2 : Hid (Below w.heap.size w w2) := Lib.hid (below_keep HB1.out hb2)
  have HS2 := Lib.hid (HS1.out.below hb2)
  clear hJ hb2 HS1
  go_wp2_with fail
  refine HBN.out.mono ?_
  rintro _ w3 ⟨vp, rfl, hO3, hb3⟩
  have hO3' : Own intE w3 w2.heap.size vp (mvPts ext) := hO3
  obtain ⟨pts, hpts⟩ : ∃ pts, pts = mvPts ext := ⟨_, rfl⟩
  rw [← hpts] at hO3' HRES HPL
  obtain ⟨ap, cp, rfl⟩ := hO3'.shape
  obtain ⟨np, hnp⟩ : ∃ np, np = pts.length := ⟨_, rfl⟩
  have HNP := Lib.hid hnp
  have hS := hO3'.sl
  rw [← hnp] at hS ⊢
  have hnpl : np ≤ 2002 := by have := HPL.out; rw [← hnp, ← HM.out] at this; omega
  have HP3 := Lib.hid hS
  have HS3 := Lib.hid (HS2.out.below hb3)
  have HB3 := Lib.hid (below_keep HB2.out hb3)
  have HE3 := Lib.hid (HEXL.out.below HB3.out)
  have HPT := Lib.hid hpts
  clear hO3 hO3' hb3 hS hnp hpts HBN HS2 HB2 HB1 HEXL HPL
  go_wp2_with fail
  go_loopw [14, 13] (fun i o wr => ∃ k : Nat, (k + 1 ≤ np ∨ (np = 0 ∧ k = 0)) ∧ i = .int .i64 ((k : Int) + 1) ∧ Own stpE wr w3.heap.size o (stepsTo pts (fun p => aggT e arg kind (holdL ext p)) k) ∧ Hid (Below w3.heap.size w3 wr)) (fun i _ _ => np - (intOf i).toNat)
  case atStart => exact ⟨0, by omega, rfl, Own.nil _ _ _, Lib.hid (.refl _ _)⟩
  case round =>
    obtain ⟨k, hk, rfl, hO, HB⟩ := hrel
    obtain ⟨wo, rfl⟩ : ∃ wo : World, wo = wr := ⟨_, rfl⟩
    by_cases hlt : k + 1 < np
    · obtain ⟨x, hx⟩ := lget_some pts k (by rw [← HNP.out]; omega)
      obtain ⟨y, hy⟩ := lget_some pts (k + 1) (by rw [← HNP.out]; omega)
      obtain ⟨b, o, rfl, cx0'⟩ := ints_at' HP3.out hx
      obtain ⟨_, _, e0, cy0'⟩ := ints_at' HP3.out hy
      cases e0
      have hbw3 : b < w3.heap.size := World.block_lt_of_cell? _ _ cx0'
      have cx0 := cell_keep HB.out cx0'
      have cy0 := cell_keep HB.out cy0'
      have HST : Hid (stepsTo pts (fun p => aggT e arg kind (holdL ext p)) (k + 1) = putStep (stepsTo pts (fun p => aggT e arg kind (holdL ext p)) k) ⟨x, y, aggT e arg kind (holdL ext x)⟩) := Lib.hid (by rw [stepsTo, hx, hy]; rfl)
      have HLN := Lib.hid (stepsTo_len pts (fun p => aggT e arg kind (holdL ext p)) k)
      obtain ⟨ls, hls⟩ : ∃ ls, ls = stepsTo pts (fun p => aggT e arg kind (holdL ext p)) k := ⟨_, rfl⟩
      rw [← hls] at hO HST HLN
      obtain ⟨ao, co, rfl⟩ := hO.shape
      have HO := Lib.hid hO
      have HOL := Lib.hid hO.lt
      have HX0 := Lib.hid cx0
      have HY0 := Lib.hid cy0
      have hw1 : IntKind.i64.wrap ((k : Int) + 1 - 1) = (k : Int) := by rw [IntWalk.i64_in _ (by omega)]; omega
      have hkI : (k : Int) + 1 < (np : Int) := by omega
      have hkN : k < np := by omega
      have hk0 : 0 ≤ (k : Int) + 1 := by omega
      have hkI2 : (k : Int) < (np : Int) := by omega
      have hw2 : IntKind.i64.wrap (k : Int) = (k : Int) := by rw [IntWalk.i64_in _ (by omega)]
      clear hx hy hls hO cx0 cy0 hk cx0' cy0'
      go_wp2_with fail
      go_loopw [39, 15] (fun i o wr => ∃ j : Nat, j ≤ m ∧ i = .int .i64 (j : Int) ∧ Own valsE wr wo.heap.size o ((holdL (ext.take j) x).map Tup.vals) ∧ Hid (Below wo.heap.size wo wr)) (fun i _ _ => m - (intOf i).toNat)
      case atStart => exact ⟨0, Nat.zero_le _, rfl, Own.nil _ _ _, Lib.hid (.refl _ _)⟩
      case round =>
        obtain ⟨j, hj, rfl, hOm, HBi⟩ := hrel
        obtain ⟨wi, rfl⟩ : ∃ wi : World, wi = wr := ⟨_, rfl⟩
        by_cases hjt : j < m
        · obtain ⟨t, ht⟩ := lget_some ext j (by rw [← HM.out]; exact hjt)
          obtain ⟨bt, ot, a1, n1, e1, m1, rfl, hvv, hll, p0, p1, p2, p3⟩ := tups_at (HS3.out.below HB.out) ht
          replace p0 := cell_keep HBi.out p0
          replace p1 := cell_keep HBi.out p1
          replace p2 := cell_keep HBi.out p2
          replace p3 := cell_keep HBi.out p3
          have cx1 := cell_keep HBi.out HX0.out
          have HT := Lib.hid (holdL_snoc (d := x) ht)
          have HLM := Lib.hid (holdL_len ext j x)
          obtain ⟨lk, hlk⟩ : ∃ lk, lk = holdL (ext.take j) x := ⟨_, rfl⟩
          rw [← hlk] at hOm HT HLM
          have hlm : lk.length ≤ 1000 := by have := HLM.out; rw [← HM.out] at this; omega
          obtain ⟨lv, hlv⟩ : ∃ lv, lv = lk.map Tup.vals := ⟨_, rfl⟩
          have hlvl : lv.length = lk.length := by rw [hlv, List.length_map]
          rw [← hlv] at hOm
          obtain ⟨am, cm, rfl⟩ := hOm.shape
          obtain ⟨xv, xlo, xhi, xl⟩ := t
          dsimp only at p0 p1 p2 p3 hvv hll HT
          have HI := fun W => Lib.hid (incl_any xlo xhi x W)
          generalize pincl xlo xhi x = q at HI HT
          have hg := World.alloc_heap_new wi (.cells #[.slice a1 xv.length n1, .int .i64 xlo, .int .i64 xhi, .slice e1 xl.length m1] 48)
          obtain ⟨⟨d0, d1, d2, d3⟩, _⟩ := box_four hg
          have hB1 : Below wo.heap.size wo (wi.alloc (.cells #[.slice a1 xv.length n1, .int .i64 xlo, .int .i64 xhi, .slice e1 xl.length m1] 48)) := below_alloc_keep HBi.out
          have cx2 := cell_alloc (o := .cells #[.slice a1 xv.length n1, .int .i64 xlo, .int .i64 xhi, .slice e1 xl.length m1] 48) cx1
          have HOM := Lib.hid (hOm.below (below_alloc wi (.cells #[.slice a1 xv.length n1, .int .i64 xlo, .int .i64 xhi, .slice e1 xl.length m1] 48)))
          have HVV := Lib.hid hvv
          have HLV := Lib.hid hlv
          have HLVL := Lib.hid hlvl
          clear ht hvv hll hlk hOm cx1 hg hlv hlvl
          go_upto_region 11 with fail
          obtain ⟨wa, hwa⟩ : ∃ wa, wa = wi.alloc (.cells #[.slice a1 xv.length n1, .int .i64 xlo, .int .i64 xhi, .slice e1 xl.length m1] 48) := ⟨_, rfl⟩
          rw [← hwa] at d0 d1 d2 d3 hB1 cx2 HOM ⊢
          have HWA := Lib.hid (below_alloc wi (.cells #[.slice a1 xv.length n1, .int .i64 xlo, .int .i64 xhi, .slice e1 xl.length m1] 48))
          rw [← hwa] at HWA
          clear hwa p0 p1 p2 p3
          have hO' := HOM.out
          go_region_held3 (fun W => Below wo.heap.size wo W ∧ W.cell? ⟨wi.heap.size, 0, none⟩ = some (.slice a1 xv.length n1) ∧ W.cell? ⟨wi.heap.size, 1, none⟩ = some (.int .i64 xlo) ∧ W.cell? ⟨wi.heap.size, 2, none⟩ = some (.int .i64 xhi) ∧ W.cell? ⟨b, o + k, none⟩ = some (.int .i64 x) ∧ Own valsE W wo.heap.size (.slice am lv.length cm) lv)
            ((go_split_ands; refine ⟨?_, ?_, ?_, ?_, ?_, ?_⟩ <;> (first | with_reducible assumption | with_reducible exact Below.drew (by assumption) | with_reducible exact cell_drew (by assumption) | with_reducible exact Own.drew (by assumption) | with_reducible exact below_keep (by assumption) (by assumption) | with_reducible exact cell_keep (by assumption) (by assumption) | with_reducible exact Own.below (by assumption) (by assumption))))
            (first | ((with_reducible refine (HI _).out.mono ?_); rintro _ w4 ⟨rfl, hb4⟩))
          go_split_ands
          have HB4 : Hid (Below wo.heap.size wo w4) := Lib.hid (by with_reducible assumption)
          have HO4 : Hid (Own valsE w4 wo.heap.size (.slice am lv.length cm) lv) := Lib.hid (by with_reducible assumption)
          have k0 : w4.cell? ⟨wi.heap.size, 0, none⟩ = some (.slice a1 xv.length n1) := by with_reducible assumption
          clear hb4 hO' hB1 d0 d1 d2 d3 cx2 HOM HI HWA HBi
          cases q
          · have HT' : Hid (lv = (holdL (ext.take (j + 1)) x).map Tup.vals) := Lib.hid (by rw [HT.out, if_neg (by decide), List.append_nil]; exact HLV.out)
            go_wp2_with fail
            go_roundw
            case rel => exact ⟨j + 1, by omega, by go_num, by rw [← HT'.out]; exact HO4.out, HB4⟩
            case measure => simp [intOf]; omega
          · have HT' : Hid (lv ++ [xv] = (holdL (ext.take (j + 1)) x).map Tup.vals) := Lib.hid (by rw [HT.out, if_pos rfl, List.map_append, ← HLV.out]; rfl)
            have hlv2 : lv.length ≤ 1000 := by have := HLVL.out; omega
            have HIS : Hid (Els valsE w4 (fun j => some j = (Value.slice am lv.length cm).ownBlock) [xv] [.slice a1 xv.length n1]) := Lib.hid (Els.one ⟨_, rfl, ((HVV.out.old (Nat.le_refl _)).below HB4.out).mono (fun j _ hj => (HO4.out.lt j hj.symm).1)⟩)
            go_wp2_with (at_builtin; refine wpList_push rfl (.tmp 51) (.tmp 54) 77 rfl valsE Tryz.underlying77 wo.heap.size (.slice am lv.length cm) lv rfl HO4.out [xv] #[.slice a1 xv.length n1] HIS.out 1 1 rfl rfl (by decide) (by unfold maxLen; omega) (by show _ * 24 ≤ _; omega) HB4.out.size ?_; intro g cap w5 hP hPa)
            go_roundw
            case rel => exact ⟨j + 1, by omega, by go_num, by rw [← HT'.out]; exact hP.own' (by simp), Lib.hid (HB4.out.trans hP.below)⟩
            case measure => simp [intOf]; omega
        · have hjm : ext.take j = ext := List.take_of_length_le (by rw [← HM.out]; omega)
          rw [hjm] at hOm
          have hml : (holdL ext x).length ≤ 1000 := by have := holdL_len ext j x; rw [hjm, ← HM.out] at this; omega
          have HAG := Lib.hid (aggr_any ve _ e kind arg ((holdL ext x).map Tup.vals) wi ((HE3.out.below HB.out).below HBi.out) hOm.sl he (by rw [List.length_map]; omega) HC.out (fun r hr z hz => by
            obtain ⟨t, ht, rfl⟩ := List.mem_map.1 hr
            exact HE64.out t (List.mem_filter.1 ht).1 z hz))
          have hag : aggP kind (argsL e arg ((holdL ext x).map Tup.vals)) = aggT e arg kind (holdL ext x) := by unfold aggT argsL; rw [List.map_map]; rfl
          rw [hag] at HAG
          generalize aggT e arg kind (holdL ext x) = av at HAG HST
          obtain ⟨am, cm, rfl⟩ := hOm.shape
          have HOi := Lib.hid (HO.out.below HBi.out)
          have HBi2 := Lib.hid (below_keep HB.out HBi.out)
          have HXi := Lib.hid (cell_keep HBi.out HX0.out)
          have HYi := Lib.hid (cell_keep HBi.out HY0.out)
          obtain ⟨mm, hmm⟩ : ∃ mm, mm = ((holdL ext x).map Tup.vals).length := ⟨_, rfl⟩
          rw [← hmm] at HAG ⊢
          clear hOm hjm hag hml hmm
          obtain ⟨vk, vn, vs⟩ := av
          unfold aggG at HAG
          dsimp only at HAG
          go_wp2_with fail
          refine HAG.out.mono ?_
          rintro _ w6 ⟨rfl, hb6⟩
          have HO6 := Lib.hid (HOi.out.below hb6)
          have HB6 := Lib.hid (below_keep HBi2.out hb6)
          have hzo6 : wo.heap.size ≤ w6.heap.size := Nat.le_trans HBi.out.size hb6.size
          have cx6 := cell_keep hb6 HXi.out
          have cy6 := cell_keep hb6 HYi.out
          clear hb6 HAG HOi HBi2 HXi HYi HX0 HY0 HBi HO
          go_upto_region 16 with fail
          have hbv := World.alloc_heap_new w6 (.cells #[.int .i64 vk, .int .i64 vn, .string vs] 40)
          have hb7 := below_alloc w6 (.cells #[.int .i64 vk, .int .i64 vn, .string vs] 40)
          obtain ⟨w7, hw7⟩ : ∃ w7, w7 = w6.alloc (.cells #[.int .i64 vk, .int .i64 vn, .string vs] 40) := ⟨_, rfl⟩
          obtain ⟨bv, hbvv⟩ : ∃ bv, bv = w6.heap.size := ⟨_, rfl⟩
          rw [← hw7] at hbv hb7 ⊢
          rw [← hbvv] at hbv ⊢
          have HO7 := Lib.hid (HO6.out.below hb7)
          have HB7 := Lib.hid (below_keep HB6.out hb7)
          have HX7 := Lib.hid (cell_keep hb7 cx6)
          have HY7 := Lib.hid (cell_keep hb7 cy6)
          have HBV : Hid (BoxV w7 bv ⟨vk, vn, vs⟩) := Lib.hid hbv
          have hbvw : bv < w7.heap.size := BoxV.lt HBV.out
          have hbvo : wo.heap.size ≤ bv := by omega
          clear hbv hb7 hw7 hbvv HO6 HB6 cx6 cy6 hzo6
          go_cut [77] (fun s77 wx => ∃ qb : Bool, s77 = .bool qb ∧ Hid (qb = true → ∃ i z, ls = i ++ [z] ∧ cmpG z.v ⟨vk, vn, vs⟩ = 0) ∧ Hid (qb = false → putStep ls ⟨x, y, ⟨vk, vn, vs⟩⟩ = ls ++ [⟨x, y, ⟨vk, vn, vs⟩⟩]) ∧ Hid (Below w7.heap.size w7 wx))
          case first =>
            rcases List.eq_nil_or_concat ls with hle | ⟨ini, z, hle⟩
            · subst hle
              have HQ1 : Hid (putStep [] ⟨x, y, ⟨vk, vn, vs⟩⟩ = [] ++ [⟨x, y, ⟨vk, vn, vs⟩⟩]) := Lib.hid rfl
              refine wp_region_held_drew (S := fun W => Below w7.heap.size w7 W) (by kernel_rfl) ((Below.refl _ _).drew) (fun hHeld => ?_)
              refine take_y (i := 0) (d := some 65) (v := ?_) rfl rfl (by kernel_rfl) (by kernel_rfl) (by kernel_rfl) (fun _ _ _ h => h) (by assumption) ?_ ?_
              rotate_left
              · intro oi ho
                simp only [List.getElem?_toArray, List.getElem?_cons_zero, Option.some.injEq] at ho
                subst ho
                intro w hSw
                skip
                go_simp
                (try with_reducible rfl)
              (try simp only [Act.put, List.setIfInBounds_toArray, List.set_cons_zero, List.set_cons_succ])
              refine take_y (i := 1) (d := some 66) (v := ?_) rfl rfl (by kernel_rfl) (by kernel_rfl) (by kernel_rfl) (fun _ _ _ h => h) (by assumption) ?_ ?_
              rotate_left
              · intro oi ho
                simp only [List.getElem?_toArray, List.getElem?_cons_succ, List.getElem?_cons_zero, Option.some.injEq] at ho
                subst ho
                intro w hSw
                skip
                go_simp
                (try with_reducible rfl)
              (try simp only [Act.put, List.setIfInBounds_toArray, List.set_cons_zero, List.set_cons_succ])
              refine take_y (i := 2) (d := some 67) (v := ?_) rfl rfl (by kernel_rfl) (by kernel_rfl) (by kernel_rfl) (fun _ _ _ h => h) (by assumption) ?_ ?_
              rotate_left
              · intro oi ho
                simp only [List.getElem?_toArray, List.getElem?_cons_succ, List.getElem?_cons_zero, Option.some.injEq] at ho
                subst ho
                intro w hSw
                skip
                go_simp
                (try with_reducible rfl)
              (try simp only [Act.put, List.setIfInBounds_toArray, List.set_cons_zero, List.set_cons_succ])
              refine take_n (i := 3) (d := some 68) rfl rfl (by kernel_rfl) (by kernel_rfl) (by kernel_rfl) (fun _ _ _ h => h) (by assumption) ?_
              (try simp only [Act.put, List.setIfInBounds_toArray, List.set_cons_zero, List.set_cons_succ])
              refine take_n (i := 4) (d := some 69) rfl rfl (by kernel_rfl) (by kernel_rfl) (by kernel_rfl) (fun _ _ _ h => h) (by assumption) ?_
              (try simp only [Act.put, List.setIfInBounds_toArray, List.set_cons_zero, List.set_cons_succ])
              refine take_n (i := 5) (d := some 70) rfl rfl (by kernel_rfl) (by kernel_rfl) (by kernel_rfl) (fun _ _ _ h => h) (by assumption) ?_
              (try simp only [Act.put, List.setIfInBounds_toArray, List.set_cons_zero, List.set_cons_succ])
              refine take_n (i := 6) (d := some 71) rfl rfl (by kernel_rfl) (by kernel_rfl) (by kernel_rfl) (fun _ _ _ h => h) (by assumption) ?_
              (try simp only [Act.put, List.setIfInBounds_toArray, List.set_cons_zero, List.set_cons_succ])
              refine take_n (i := 7) (d := some 72) rfl rfl (by kernel_rfl) (by kernel_rfl) (by kernel_rfl) (fun _ _ _ h => h) (by assumption) ?_
              (try simp only [Act.put, List.setIfInBounds_toArray, List.set_cons_zero, List.set_cons_succ])
              refine take_n (i := 8) (d := some 73) rfl rfl (by kernel_rfl) (by kernel_rfl) (by kernel_rfl) (fun _ _ _ h => h) (by assumption) ?_
              (try simp only [Act.put, List.setIfInBounds_toArray, List.set_cons_zero, List.set_cons_succ])
              refine take_n (i := 9) (d := some 74) rfl rfl (by kernel_rfl) (by kernel_rfl) (by kernel_rfl) (fun _ _ _ h => h) (by assumption) ?_
              (try simp only [Act.put, List.setIfInBounds_toArray, List.set_cons_zero, List.set_cons_succ])
              refine take_n (i := 10) (d := some 75) rfl rfl (by kernel_rfl) (by kernel_rfl) (by kernel_rfl) (fun _ _ _ h => h) (by assumption) ?_
              (try simp only [Act.put, List.setIfInBounds_toArray, List.set_cons_zero, List.set_cons_succ])
              refine take_n (i := 11) (d := some 76) rfl rfl (by kernel_rfl) (by kernel_rfl) (by kernel_rfl) (fun _ _ _ h => h) (by assumption) ?_
              (try simp only [Act.put, List.setIfInBounds_toArray, List.set_cons_zero, List.set_cons_succ])
              refine take_y (i := 12) (d := some 77) (v := ?_) rfl rfl (by kernel_rfl) (by kernel_rfl) (by kernel_rfl) (fun _ _ _ h => h) (by assumption) ?_ ?_
              rotate_left
              · intro oi ho
                simp only [List.getElem?_toArray, List.getElem?_cons_succ, List.getElem?_cons_zero, Option.some.injEq] at ho
                subst ho
                intro w hSw
                skip
                go_simp
                (try with_reducible rfl)
              (try simp only [Act.put, List.setIfInBounds_toArray, List.set_cons_zero, List.set_cons_succ])
              refine wpAnyH_done (by kernel_rfl) ?_ _
              go_wp2_with fail
              go_meet
              exact ⟨false, rfl, Lib.hid (fun h => by cases h), Lib.hid (fun _ => HQ1.out), Lib.hid (by assumption)⟩
            · have hll : ls.length = ini.length + 1 := by rw [hle]; simp
              have hlz : ls[ini.length]? = some z := by rw [hle]; simp
              have hla : ls.getLast? = some z := by rw [hle]; simp
              obtain ⟨t, ht⟩ : ∃ t, t = ini.length := ⟨_, rfl⟩
              rw [← ht] at hll hlz
              have hlnn : ls.length ≤ 2002 := by have := HLN.out; omega
              have HLE : Hid (ls = ini ++ [z]) := Lib.hid (by rw [hle, List.concat_eq_append])
              obtain ⟨nl, hnl⟩ : ∃ nl, nl = ls.length := ⟨_, rfl⟩
              have HNL := Lib.hid hnl
              have HO' := HO7.out
              rw [← hnl] at hll hlnn HO' ⊢
              obtain ⟨gq, cq, hsh⟩ := HO'.shape_pos (by omega)
              rw [← hnl] at hsh
              cases hsh
              obtain ⟨_, _, s2, s3, s4⟩ := stp_at HO' hlz
              obtain ⟨⟨v0, v1, v2⟩, _⟩ := HBV.out.cells
              have HPS := @putStep_same ls z ⟨x, y, ⟨vk, vn, vs⟩⟩ hla
              have HPN := @putStep_new ls z ⟨x, y, ⟨vk, vn, vs⟩⟩ hla
              have HCM := fun W => Lib.hid (valCmp_any z.v ⟨vk, vn, vs⟩ W)
              dsimp only at HPS HPN
              generalize hr : cmpG z.v ⟨vk, vn, vs⟩ = r at HCM HPS HPN
              have HR := Lib.hid hr
              have HPN2 := Lib.hid HPN
              obtain ⟨zlo, zhi, zk, zn, zs⟩ := z
              unfold aggG at HCM
              dsimp only at HCM s2 s3 s4
              have hw3 : IntKind.i64.wrap ((nl : Int) - 1) = (t : Int) := by rw [IntWalk.i64_in _ (by omega)]; omega
              have ht1 : (t : Int) < (nl : Int) := by omega
              have ht2 : t < nl := by omega
              have hn1 : (nl : Int) > 0 := by omega
              have hn2 : 0 < nl := by omega
              have hn3 : 0 < (nl : Int) := by omega
              clear hle hll hlz hla hnl HO' hr HPS HPN ht
              go_region_held3 (fun W => Below w7.heap.size w7 W ∧ W.cell? ⟨gq, t * 5 + 2, none⟩ = some (.int .i64 zk) ∧ W.cell? ⟨gq, t * 5 + 3, none⟩ = some (.int .i64 zn) ∧ W.cell? ⟨gq, t * 5 + 4, none⟩ = some (.string zs) ∧ W.cell? ⟨bv, 0, none⟩ = some (.int .i64 vk) ∧ W.cell? ⟨bv, 1, none⟩ = some (.int .i64 vn) ∧ W.cell? ⟨bv, 2, none⟩ = some (.string vs))
                ((go_split_ands; refine ⟨?_, ?_, ?_, ?_, ?_, ?_, ?_⟩ <;> (first | with_reducible assumption | with_reducible exact (Below.refl _ _).drew | with_reducible exact Below.drew (by assumption) | with_reducible exact cell_drew (by assumption) | with_reducible exact below_keep (by assumption) (by assumption) | with_reducible exact cell_keep (by assumption) (by assumption))))
                (first | ((with_reducible refine (HCM _).out.mono ?_); rintro _ w8 ⟨rfl, hb8⟩))
              go_split_ands
              have HBF : Hid (Below w7.heap.size w7 w8) := Lib.hid (by with_reducible assumption)
              clear hw3 ht1 ht2 hn1 hn2 hn3 s2 s3 s4 v0 v1 v2 hb8 HCM
              go_wp2_with fail
              have hnl := HNL.out
              subst hnl
              go_meet
              exact ⟨_, rfl, Lib.hid (fun h => ⟨ini, ⟨zlo, zhi, ⟨zk, zn, zs⟩⟩, HLE.out, by dsimp only; rw [HR.out]; simpa using h⟩), Lib.hid (fun h => HPN2.out (by simpa using h)), HBF⟩
          case rest =>
            obtain ⟨qb, rfl, HT, HF, HBC⟩ := hcut
            have HOc := Lib.hid (HO7.out.below HBC.out)
            have HBc := Lib.hid (below_keep HB7.out HBC.out)
            have HXc := Lib.hid (cell_keep HBC.out HX7.out)
            have HYc := Lib.hid (cell_keep HBC.out HY7.out)
            have HVc := Lib.hid (HBV.out.below HBC.out)
            obtain ⟨w8, rfl⟩ : ∃ w8 : World, w8 = wc := ⟨_, rfl⟩
            clear HO7 HB7 HX7 HY7 HBV HBC
            cases qb
            · have HST2 : Hid (stepsTo pts (fun p => aggT e arg kind (holdL ext p)) (k + 1) = ls ++ [⟨x, y, ⟨vk, vn, vs⟩⟩]) := Lib.hid (by rw [HST.out]; exact HF.out rfl)
              have hlnn : ls.length ≤ 2002 := by have := HLN.out; omega
              have HO8 := HOc
              have HW8 : Hid (w3.heap.size ≤ w8.drew.heap.size) := Lib.hid HBc.out.size
              have HS0 : Hid (MovS w8 bv b (o + k) (o + (k + 1)) x y ⟨vk, vn, vs⟩ w8) := Lib.hid ⟨HVc.out, HXc.out, HYc.out⟩
              have HNE : Hid (some b ≠ (Value.slice ao ls.length co).ownBlock ∧ some bv ≠ (Value.slice ao ls.length co).ownBlock) := Lib.hid ⟨fun e => by have := (HOL.out b e.symm).1; omega, fun e => by have := (HOL.out bv e.symm).2; omega⟩
              clear HOc HXc HYc HVc HST HT HF
              go_upto_region 18 with fail
              refine wp_region_held_drew (S := MovS w8 bv b (o + k) (o + (k + 1)) x y ⟨vk, vn, vs⟩) (by kernel_rfl) HS0.out.drew (fun hHeld => ?_)
              refine take_y (i := 0) (d := some 88) (v := ?_) rfl rfl (by kernel_rfl) (by kernel_rfl) (by kernel_rfl) (fun _ _ _ h => h) (by assumption) ?_ ?_
              rotate_left
              · intro oi ho
                simp only [List.getElem?_toArray, List.getElem?_cons_zero, Option.some.injEq] at ho
                subst ho
                intro w hSw
                obtain ⟨e0, e1, e2, e3, e4⟩ := hSw.facts
                go_simp
                (try with_reducible rfl)
              (try simp only [Act.put, List.setIfInBounds_toArray, List.set_cons_zero, List.set_cons_succ])
              refine take_y (i := 1) (d := some 89) (v := ?_) rfl rfl (by kernel_rfl) (by kernel_rfl) (by kernel_rfl) (fun _ _ _ h => h) (by assumption) ?_ ?_
              rotate_left
              · intro oi ho
                simp only [List.getElem?_toArray, List.getElem?_cons_succ, List.getElem?_cons_zero, Option.some.injEq] at ho
                subst ho
                intro w hSw
                obtain ⟨e0, e1, e2, e3, e4⟩ := hSw.facts
                go_simp
                (try with_reducible rfl)
              (try simp only [Act.put, List.setIfInBounds_toArray, List.set_cons_zero, List.set_cons_succ])
              refine take_y (i := 2) (d := some 90) (v := ?_) rfl rfl (by kernel_rfl) (by kernel_rfl) (by kernel_rfl) (fun _ _ _ h => h) (by assumption) ?_ ?_
              rotate_left
              · intro oi ho
                simp only [List.getElem?_toArray, List.getElem?_cons_succ, List.getElem?_cons_zero, Option.some.injEq] at ho
                subst ho
                intro w hSw
                obtain ⟨e0, e1, e2, e3, e4⟩ := hSw.facts
                go_simp
                (try with_reducible rfl)
              (try simp only [Act.put, List.setIfInBounds_toArray, List.set_cons_zero, List.set_cons_succ])
              refine take_y (i := 3) (d := some 91) (v := ?_) rfl rfl (by kernel_rfl) (by kernel_rfl) (by kernel_rfl) (fun _ _ _ h => h) (by assumption) ?_ ?_
              rotate_left
              · intro oi ho
                simp only [List.getElem?_toArray, List.getElem?_cons_succ, List.getElem?_cons_zero, Option.some.injEq] at ho
                subst ho
                intro w hSw
                obtain ⟨e0, e1, e2, e3, e4⟩ := hSw.facts
                go_simp
                (try with_reducible rfl)
              (try simp only [Act.put, List.setIfInBounds_toArray, List.set_cons_zero, List.set_cons_succ])
              refine take_y (i := 4) (d := some 92) (v := ?_) rfl rfl (by kernel_rfl) (by kernel_rfl) (by kernel_rfl) (fun _ _ _ h => h) (by assumption) ?_ ?_
              rotate_left
              · intro oi ho
                simp only [List.getElem?_toArray, List.getElem?_cons_succ, List.getElem?_cons_zero, Option.some.injEq] at ho
                subst ho
                intro w hSw
                obtain ⟨e0, e1, e2, e3, e4⟩ := hSw.facts
                go_simp
                (try with_reducible rfl)
              (try simp only [Act.put, List.setIfInBounds_toArray, List.set_cons_zero, List.set_cons_succ])
              refine take_y (i := 5) (d := some 93) (v := ?_) rfl rfl (by kernel_rfl) (by kernel_rfl) (by kernel_rfl) (fun _ _ _ h => h) (by assumption) ?_ ?_
              rotate_left
              · intro oi ho
                simp only [List.getElem?_toArray, List.getElem?_cons_succ, List.getElem?_cons_zero, Option.some.injEq] at ho
                subst ho
                intro w hSw
                obtain ⟨e0, e1, e2, e3, e4⟩ := hSw.facts
                go_simp
                (try with_reducible rfl)
              (try simp only [Act.put, List.setIfInBounds_toArray, List.set_cons_zero, List.set_cons_succ])
              refine take_y (i := 6) (d := some 94) (v := ?_) rfl rfl (by kernel_rfl) (by kernel_rfl) (by kernel_rfl) (fun _ _ _ h => h) (by assumption) ?_ ?_
              rotate_left
              · intro oi ho
                simp only [List.getElem?_toArray, List.getElem?_cons_succ, List.getElem?_cons_zero, Option.some.injEq] at ho
                subst ho
                intro w hSw
                obtain ⟨e0, e1, e2, e3, e4⟩ := hSw.facts
                go_simp
                (try with_reducible rfl)
              (try simp only [Act.put, List.setIfInBounds_toArray, List.set_cons_zero, List.set_cons_succ])
              refine take_y (i := 7) (d := some 95) (v := ?_) rfl rfl (by kernel_rfl) (by kernel_rfl) (by kernel_rfl) (fun _ _ _ h => h) (by assumption) ?_ ?_
              rotate_left
              · intro oi ho
                simp only [List.getElem?_toArray, List.getElem?_cons_succ, List.getElem?_cons_zero, Option.some.injEq] at ho
                subst ho
                intro w hSw
                obtain ⟨e0, e1, e2, e3, e4⟩ := hSw.facts
                go_simp
                (try with_reducible rfl)
              (try simp only [Act.put, List.setIfInBounds_toArray, List.set_cons_zero, List.set_cons_succ])
              refine take_y (i := 8) (d := some 96) (v := ?_) rfl rfl (by kernel_rfl) (by kernel_rfl) (by kernel_rfl) (fun _ _ _ h => h) (by assumption) ?_ ?_
              rotate_left
              · intro oi ho
                simp only [List.getElem?_toArray, List.getElem?_cons_succ, List.getElem?_cons_zero, Option.some.injEq] at ho
                subst ho
                intro w hSw
                obtain ⟨e0, e1, e2, e3, e4⟩ := hSw.facts
                go_simp
                (try with_reducible rfl)
              (try simp only [Act.put, List.setIfInBounds_toArray, List.set_cons_zero, List.set_cons_succ])
              refine take_y (i := 9) (d := some 97) (v := ?_) rfl rfl (by kernel_rfl) (by kernel_rfl) (by kernel_rfl) (fun _ _ _ h => h) (by assumption) ?_ ?_
              rotate_left
              · intro oi ho
                simp only [List.getElem?_toArray, List.getElem?_cons_succ, List.getElem?_cons_zero, Option.some.injEq] at ho
                subst ho
                intro w hSw
                obtain ⟨e0, e1, e2, e3, e4⟩ := hSw.facts
                go_simp
                (try with_reducible rfl)
              (try simp only [Act.put, List.setIfInBounds_toArray, List.set_cons_zero, List.set_cons_succ])
              refine take_y (i := 10) (d := some 98) (v := ?_) rfl rfl (by kernel_rfl) (by kernel_rfl) (by kernel_rfl) (fun _ _ _ h => h) (by assumption) ?_ ?_
              rotate_left
              · intro oi ho
                simp only [List.getElem?_toArray, List.getElem?_cons_succ, List.getElem?_cons_zero, Option.some.injEq] at ho
                subst ho
                intro w hSw
                obtain ⟨e0, e1, e2, e3, e4⟩ := hSw.facts
                go_simp
                (try with_reducible rfl)
              (try simp only [Act.put, List.setIfInBounds_toArray, List.set_cons_zero, List.set_cons_succ])
              refine take_y (i := 11) (d := some 99) (v := ?_) rfl rfl (by kernel_rfl) (by kernel_rfl) (by kernel_rfl) (fun _ _ _ h => h) (by assumption) ?_ ?_
              rotate_left
              · intro oi ho
                simp only [List.getElem?_toArray, List.getElem?_cons_succ, List.getElem?_cons_zero, Option.some.injEq] at ho
                subst ho
                intro w hSw
                obtain ⟨e0, e1, e2, e3, e4⟩ := hSw.facts
                go_simp
                (try with_reducible rfl)
              (try simp only [Act.put, List.setIfInBounds_toArray, List.set_cons_zero, List.set_cons_succ])
              refine take_y (i := 12) (d := some 100) (v := ?_) rfl rfl (by kernel_rfl) (by kernel_rfl) (by kernel_rfl) (fun _ _ _ h => h) (by assumption) ?_ ?_
              rotate_left
              · intro oi ho
                simp only [List.getElem?_toArray, List.getElem?_cons_succ, List.getElem?_cons_zero, Option.some.injEq] at ho
                subst ho
                intro w hSw
                obtain ⟨e0, e1, e2, e3, e4⟩ := hSw.facts
                go_simp
                (try with_reducible rfl)
              (try simp only [Act.put, List.setIfInBounds_toArray, List.set_cons_zero, List.set_cons_succ])
              refine wpAnyH_ready (rs := [13]) (by kernel_rfl) (by simp) ?_
              refine AllReadyH.cons rfl (fun K hK => ?_) AllReadyH.nil
              go_simp
              refine hK.out _ _ ?_ (fun hHeld => ?_)
              · exact hHeld.below (below_alloc _ _)
              clear hK K
              (try simp only [Act.put, List.setIfInBounds_toArray, List.set_cons_zero, List.set_cons_succ])
              refine wpAnyH_ready (rs := [14]) (by kernel_rfl) (by simp) ?_
              refine AllReadyH.cons rfl (fun K hK => ?_) AllReadyH.nil
              refine (step_push rfl (.tmp 88) (.tmp 101) 42 rfl stpE Tryz.underlying42 w3.heap.size (.slice ao ls.length co) ls rfl HO8.out.drew [⟨x, y, ⟨vk, vn, vs⟩⟩] #[.int .i64 x, .int .i64 y, .int .i64 vk, .int .i64 vn, .string vs] (Els.one rfl) 1 1 rfl rfl (by decide) (by unfold maxLen; omega) (by show _ * 48 ≤ _; omega) HW8.out ?_)
              intro g cap w9 hP hPa
              refine hK.out _ _ ?_ (fun hHeld => ?_)
              · exact HS0.out.drew.push hP HNE.out
              clear hK K
              (try simp only [Act.put, List.setIfInBounds_toArray])
              refine take_y (i := 15) (d := some 13) (v := ?_) rfl rfl (by kernel_rfl) (by kernel_rfl) (by kernel_rfl) (fun _ _ _ h => h) (by assumption) ?_ ?_
              rotate_left
              · intro oi ho
                simp only [List.getElem?_toArray, List.getElem?_cons_succ, List.getElem?_cons_zero, Option.some.injEq] at ho
                subst ho
                intro w hSw
                skip
                go_simp
                (try with_reducible rfl)
              (try simp only [Act.put])
              refine wpAnyH_done (by kernel_rfl) ?_ _
              have HOF := Lib.hid (hP.own' (n := ls.length + 1) (by simp))
              have HBF : Hid (Below w3.heap.size w3 w9) := Lib.hid ((HBc.out.drew).trans hP.below)
              clear hP hPa hHeld
              go_wp2_with fail
              go_roundw
              case rel => exact ⟨k + 1, by omega, by go_num, by rw [HST2.out]; exact HOF.out, HBF⟩
              case measure => simp [intOf]; omega
            · obtain ⟨ini, z, hle, hz⟩ := HT.out rfl
              have hll : ls.length = ini.length + 1 := by rw [hle]; simp
              have hlz : ls[ini.length]? = some z := by rw [hle]; simp
              have hla : ls.getLast? = some z := by rw [hle]; simp
              have hdl : ls.dropLast = ini := by rw [hle]; simp
              have hset : ls.set ini.length ⟨z.lo, y, z.v⟩ = ini ++ [⟨z.lo, y, z.v⟩] := by rw [hle]; simp
              have HST2 : Hid (stepsTo pts (fun p => aggT e arg kind (holdL ext p)) (k + 1) = ini ++ [⟨z.lo, y, z.v⟩]) := Lib.hid (by rw [HST.out, putStep_same hla hz, hdl])
              obtain ⟨t, ht⟩ : ∃ t, t = ini.length := ⟨_, rfl⟩
              rw [← ht] at hll hlz hset
              have hlnn : ls.length ≤ 2002 := by have := HLN.out; omega
              have hoo := HOc.out
              obtain ⟨nl, hnl⟩ : ∃ nl, nl = ls.length := ⟨_, rfl⟩
              rw [← hnl] at hll hlnn hoo ⊢
              obtain ⟨gq, cq, hsh⟩ := hoo.shape_pos (by omega)
              rw [← hnl] at hsh
              cases hsh
              obtain ⟨s0, s1, _, _, _⟩ := stp_at hoo hlz
              have hput := (hoo.put_at (E := stpE) (k := t) (j := 1) (us := [.int .i64 y]) (y := ⟨z.lo, y, z.v⟩) hnl.symm (by omega) (by show 1 + 1 ≤ 5; decide) (fun x0 cs hx0 hcs => by
                rw [hlz] at hx0
                cases hx0
                cases hcs
                rfl)).1
              rw [hset] at hput
              have hput2 : Own stpE (w8.setCell ⟨gq, t * 5 + 1, none⟩ (.int .i64 y)) w3.heap.size (.slice (some ⟨gq, 0, none⟩) nl co) (ini ++ [⟨z.lo, y, z.v⟩]) := hput
              have hg3 : w3.heap.size ≤ gq := (HOL.out gq rfl).1
              have hgz : gq < w8.heap.size := World.block_lt_of_cell? _ _ s1
              have hfz : w8.frozen? ⟨gq, t * 5 + 1, none⟩ = false := hoo.frozen hnl.symm _
              have HPUT := Lib.hid hput2
              have HBS : Hid (Below w3.heap.size w3 (w8.setCell ⟨gq, t * 5 + 1, none⟩ (.int .i64 y))) := Lib.hid (HBc.out.setCell hg3 _)
              have hn1 : (nl : Int) - 1 = (t : Int) := by omega
              have ht1 : (t : Int) < (nl : Int) := by omega
              have ht2 : t < nl := by omega
              have cyc := HYc.out
              clear hle hz hll hlz hla hdl hset hnl hoo hput hput2 HOc HST HT HF ht
              go_wp2_with fail
              refine ⟨⟨k + 1, by omega, congrArg (Value.int .i64) (by omega), ?_, HBS⟩, ?_⟩
              · rw [HST2.out]
                exact HPUT.out
              · simp [intOf]; omega
    · have hkn : np = 0 ∨ k = np - 1 := by omega
      have HRS : Hid (stepsTo pts (fun p => aggT e arg kind (holdL ext p)) k = res) := Lib.hid (by
        rw [HRES.out]
        unfold stepsL
        rw [← HNP.out]
        rcases hkn with h | h
        · rw [show k = np - 1 by omega]
        · rw [h])
      rw [HRS.out] at hO
      obtain ⟨ao, co, rfl⟩ := hO.shape
      have HO := Lib.hid (hO.mono HB3.out.size)
      have hlt2 : ¬ ((k : Int) + 1 < (np : Int)) := by omega
      clear hO hkn HRS hk
      go_wp2_with fail
      go_ret
      exact ⟨_, rfl, HO.out, HB3.out.trans (HB.out.mono HB3.out.size)⟩
end Go.Proofs.YtfmbbfidjcgeiaaGreatDoor

namespace Go.Proofs.YtfmbbfidjcgeiaaGreatDoor
open Go.RowKit Go.Lib

theorem Own.elseG {P : Program} {α : Type} {E : El P α} {D G : Nat → Prop} {w w' : World} {B : Nat} {v : Value} {l : List α} (h : Own (E.avoid D) w B v l) (hk : Kept G w w') (hG : ∀ k, G k → D k) (hv : ∀ k, v.ownBlock = some k → ¬ G k) : Own (E.avoid D) w' B v l := by
  obtain ⟨xs, h1, h2⟩ := h
  refine ⟨xs, ⟨h1.1, h1.2.imp id ?_⟩, fun i x hx => E.kept (h2 i x hx) ⟨hk.1, fun k h3 h4 => hk.2 k h3 (fun h5 => h4 (.inr (hG k h5)))⟩⟩
  rintro ⟨g, cap, cur, rfl, hg, hh, r⟩
  exact ⟨g, cap, cur, rfl, hg, (hk.2 g (Array.getElem?_eq_some_iff.1 hh).1 (hv g rfl)).trans hh, r⟩
theorem box_set08 {w : World} {g : Nat} {x y z : Value} {e : TypeId} (h : w.heap[g]? = some (.cells #[x, y] e (0, 0))) : (w.setCell ⟨g, 0, none⟩ z).heap[g]? = some (.cells #[z, y] e (0, 0)) := by
  simp [World.setCell, Array.getElem?_modify, h]
theorem valE_flat8 : valE.Flat (P := Tryz.prog) := fun h => h
theorem intE_flat8 : intE.Flat (P := Tryz.prog) := fun h => h
/-- The lineages of the tuples that hold. -/
def linsOf (l : List Tup) (t : Int) : List Int := (holdL l t).flatMap Tup.lin
theorem linsOf_snoc {l : List Tup} {k : Nat} {t : Tup} {d : Int} (h : l[k]? = some t) : linsOf (l.take (k + 1)) d = linsOf (l.take k) d ++ if pincl t.lo t.hi d = true then t.lin else [] := by
  unfold linsOf
  rw [holdL_snoc h, List.flatMap_append]
  congr 1
  split
  · simp
  · rfl
theorem linsOf_len {t : Int} : ∀ {l : List Tup}, (∀ x ∈ l, x.lin.length ≤ 100) → (linsOf l t).length ≤ 100 * l.length
  | [], _ => by simp [linsOf, holdL]
  | x :: l, h => by
    have h1 := linsOf_len (t := t) (l := l) fun y hy => h y (List.mem_cons_of_mem _ hy)
    have h2 := h x (List.mem_cons_self ..)
    unfold linsOf holdL at *
    rw [List.filter_cons, List.length_cons]
    split
    · rw [List.flatMap_cons, List.length_append]; omega
    · omega
set_option maxHeartbeats 8000000 in
set_option maxRecDepth 100000 in
theorem row_any (pg ba ca : Nat) (ve vm : Value) (e : List GExp) (kind : Int) (l : List Tup) (t : Int) (ak : Option Addr) (ck : Nat) (w : World)
    (hbox : w.heap[pg]? = some (.cells #[ve, .slice (some ⟨ba, 0, none⟩) 1 ca] 56 (0, 0))) (ha0 : w.cell? ⟨ba, 0, none⟩ = some (.int .i64 kind)) (ha1 : w.cell? ⟨ba, 1, none⟩ = some (.int .i64 0))
    (hve : Sl expE w free ve e) (he : e.length ≤ 1000) (hc : ∀ x ∈ e, In64 x.c.n) (hm : Tups w vm l) (hl : l.length ≤ 1000) (h64 : ∀ x ∈ l, ∀ g ∈ x.vals, In64 g.n) (hlin : ∀ x ∈ l, x.lin.length ≤ 100) :
    Calls Tryz.prog 19 #[.pointer (some ⟨pg, 0, none⟩), .slice ak 0 ck, vm, .int .i64 t] w fun e' w' =>
      ∃ v u b, e' = .returned (.tuple #[.agg #[v, u], .bool b]) ∧ Own valE w' w.heap.size v [aggT e 0 kind (holdL l t)] ∧ Own intE w' w.heap.size u (mergeL (linsOf l t) []) ∧ Below w.heap.size w w' := by
  obtain ⟨a, c, rfl⟩ := hm.shape
  obtain ⟨ae, ce, rfl⟩ := hve.shape
  have h63 := hm.1
  have HV := Lib.hid hm
  obtain ⟨n, hn⟩ : ∃ n, n = l.length := ⟨_, rfl⟩
  have HN := Lib.hid hn
  have HEV := Lib.hid hve
  have HBOX := Lib.hid hbox
  have HA0 := Lib.hid ha0
  have HA1 := Lib.hid ha1
  have HC := Lib.hid hc
  have H64 := Lib.hid h64
  have HLI := Lib.hid hlin
  have hpg : pg < w.heap.size := (Array.getElem?_eq_some_iff.1 hbox).1
  have hba : ba < w.heap.size := World.block_lt_of_cell? _ _ ha0
  rw [← hn] at HV h63 hl ⊢
  have hB0 := below_alloc w (.cells #[.slice none 0 0, .slice none 0 0] 38)
  have hr0 := World.alloc_heap_new w (.cells #[.slice none 0 0, .slice none 0 0] 38)
  obtain ⟨w1, hw1⟩ : ∃ w1, w1 = w.alloc (.cells #[.slice none 0 0, .slice none 0 0] 38) := ⟨_, rfl⟩
  rw [← hw1] at hB0 hr0
  have HB0 := Lib.hid hB0
  have HR0 := Lib.hid hr0
  have HW1 := Lib.hid hw1
  have hz1 : w1.heap.size = w.heap.size + 1 := by rw [hw1, World.size_alloc]
  clear hm hve hn hbox ha0 ha1 hc h64 hlin hB0 hr0 hw1
  go_enter Tryz.func19, Tryz.ntmps19
  go_wp2_with fail
  rw [← HW1.out]
  go_loopw [19, 10, 11] (fun i o p wr => ∃ k : Nat, k ≤ n ∧ i = .int .i64 k ∧ Own (valsE.avoid fun k => w.heap.size ≤ k) wr w1.heap.size o ((holdL (l.take k) t).map Tup.vals) ∧ Own intE wr w1.heap.size p (linsOf (l.take k) t) ∧ Hid (Apart o p) ∧ Hid (Below w1.heap.size w1 wr)) (fun i _ _ _ => n - (RowKit.intOf i).toNat)
  case atStart => exact ⟨0, Nat.zero_le _, rfl, Own.nil _ _ _, Own.nil _ _ _, Lib.hid (apart_none _), Lib.hid (.refl _ _)⟩
  case round =>
    obtain ⟨k, hk, rfl, hO, hP, HAP, HB⟩ := hrel
    obtain ⟨wo, rfl⟩ : ∃ wo : World, wo = wr := ⟨_, rfl⟩
    by_cases hlt : k < n
    · obtain ⟨x, hx⟩ := lget_some l k (by rw [← HN.out]; exact hlt)
      have HBw := Lib.hid (below_keep HB0.out HB.out)
      obtain ⟨b, o, a1, n1, e1, m1, rfl, hvv, hll, p0, p1, p2, p3⟩ := tups_at HV.out hx
      replace p0 := cell_keep HBw.out p0
      replace p1 := cell_keep HBw.out p1
      replace p2 := cell_keep HBw.out p2
      replace p3 := cell_keep HBw.out p3
      have HT := Lib.hid (holdL_snoc (d := t) hx)
      have HTL := Lib.hid (linsOf_snoc (d := t) hx)
      have hlk : (holdL (l.take k) t).length ≤ 1000 := Nat.le_trans (holdL_len l k t) (by rw [← HN.out]; exact hl)
      obtain ⟨lk, hlke⟩ : ∃ lk, lk = holdL (l.take k) t := ⟨_, rfl⟩
      rw [← hlke] at hO HT hlk
      obtain ⟨mk, hmk⟩ : ∃ mk, mk = lk.map Tup.vals := ⟨_, rfl⟩
      have hmz : mk.length ≤ 1000 := by rw [hmk, List.length_map]; exact hlk
      rw [← hmk] at hO
      obtain ⟨lins, hlins⟩ : ∃ lins, lins = linsOf (l.take k) t := ⟨_, rfl⟩
      have hlz : lins.length ≤ 100000 := by
        rw [hlins]
        refine Nat.le_trans (linsOf_len fun y hy => HLI.out y (List.mem_of_mem_take hy)) ?_
        rw [List.length_take]; omega
      rw [← hlins] at hP HTL
      obtain ⟨ao, co, rfl⟩ := hO.shape
      obtain ⟨ap, cp, rfl⟩ := hP.shape
      have hxl := HLI.out x (List.mem_of_getElem? hx)
      obtain ⟨xv, xlo, xhi, xl⟩ := x
      dsimp only at p0 p1 p2 p3 hvv hll HT HTL hxl
      have HI := fun W => Lib.hid (incl_any xlo xhi t W)
      generalize pincl xlo xhi t = q at HI HT HTL
      have hg := World.alloc_heap_new wo (.cells #[.slice a1 xv.length n1, .int .i64 xlo, .int .i64 xhi, .slice e1 xl.length m1] 48)
      obtain ⟨wa, hwa⟩ : ∃ wa, wa = wo.alloc (.cells #[.slice a1 xv.length n1, .int .i64 xlo, .int .i64 xhi, .slice e1 xl.length m1] 48) := ⟨_, rfl⟩
      have hba2 : Below wo.heap.size wo wa := by rw [hwa]; exact below_alloc _ _
      rw [← hwa] at hg
      have HBa := Lib.hid (below_keep HB.out hba2)
      have HOa := Lib.hid (hO.below hba2)
      have HPa := Lib.hid (hP.below hba2)
      have HG := Lib.hid hg
      have HWA := Lib.hid hwa
      have HVV := Lib.hid hvv
      have HLL := Lib.hid hll
      have HMK := Lib.hid hmk
      have hzo := Nat.le_trans (Nat.le_of_eq hz1.symm) HB.out.size
      have hou := hO.lt
      clear hx hvv hll hO hP hlke hmk hlins hg hwa hba2 HB
      go_wp2_with fail
      rw [← HWA.out]
      refine (HI _).out.mono ?_
      rintro _ w3 ⟨rfl, hb3⟩
      have HG3 := Lib.hid (box_kept HG.out hb3)
      obtain ⟨⟨d0, d1, d2, d3⟩, f0, f1, f2, f3⟩ := box_four HG3.out
      have HB3 := Lib.hid (below_keep HBa.out hb3)
      have HO3 := Lib.hid (HOa.out.below hb3)
      have HP3 := Lib.hid (HPa.out.below hb3)
      clear hb3 HG HBa HOa HPa HI HWA
      cases q
      · have HT' : Hid ((holdL (l.take (k + 1)) t).map Tup.vals = mk) := Lib.hid (by rw [HT.out, if_neg (by decide), List.append_nil, HMK.out])
        have HTL' : Hid (linsOf (l.take (k + 1)) t = lins) := Lib.hid (by rw [HTL.out, if_neg (by decide), List.append_nil])
        go_wp2_with fail
        go_roundw
        case rel => exact ⟨k + 1, by omega, by go_num, by rw [HT'.out]; exact HO3.out, by rw [HTL'.out]; exact HP3.out, HAP, HB3⟩
        case measure => simp [RowKit.intOf]; omega
      · have HT' : Hid ((holdL (l.take (k + 1)) t).map Tup.vals = mk ++ [xv]) := Lib.hid (by rw [HT.out, if_pos rfl, List.map_append, ← HMK.out]; rfl)
        have HTL' : Hid (linsOf (l.take (k + 1)) t = lins ++ xl) := Lib.hid (by rw [HTL.out, if_pos rfl])
        have HBw3 := Lib.hid (below_keep HB0.out HB3.out)
        have HIS : Hid (Els (valsE.avoid fun k => w.heap.size ≤ k) w3 (fun j => some j = (Value.slice ao mk.length co).ownBlock) [xv] [.slice a1 xv.length n1]) := Lib.hid (Els.one ⟨_, rfl, ((HVV.out.old (Nat.le_refl _)).below HBw3.out).mono (fun j _ hj => hj.elim (fun hj => by have := (HO3.out.lt j hj.symm).1; omega) id)⟩)
        have hne : some wo.heap.size ≠ (Value.slice ao mk.length co).ownBlock := fun e => by have := (hou _ e.symm).2; omega
        clear hou
        go_upto_region 8 with (at_builtin; refine wpList_push rfl (.tmp 27) (.tmp 30) 77 rfl (valsE.avoid fun k => w.heap.size ≤ k) Tryz.underlying77 w1.heap.size (.slice ao mk.length co) mk rfl HO3.out [xv] #[.slice a1 xv.length n1] HIS.out 1 1 rfl rfl (by decide) (by unfold maxLen; omega) (by show _ * 24 ≤ _; omega) HB3.out.size ?_; intro g cap w5 hU hUa; obtain ⟨⟨c0, c1, c2, c3⟩, _⟩ := box_four (hU.block hne HG3.out))
        have HO5 := Lib.hid (hU.own' (n := mk.length + 1) (by simp))
        have HP5 := Lib.hid (hU.keep intE_flat8 HAP.out HP3.out)
        have HAP5 := Lib.hid (hU.apart (n := mk.length + 1) HAP.out (fun j hj => (HP3.out.lt j hj).2))
        have HB5 := Lib.hid (HB3.out.trans hU.below)
        have HBw5 := Lib.hid (below_keep HB0.out HB5.out)
        have hgl := hU.lt
        clear hU hUa HO3 HP3 HB3 HG3 HIS d0 d1 d2 d3 f0 f1 f2 f3 HBw3
        go_wp2_with (at_builtin; refine wpList_join rfl (.tmp 32) (.tmp 34) 36 rfl intE Tryz.underlying36 w1.heap.size (.slice ap lins.length cp) (.slice e1 xl.length m1) lins xl rfl rfl HP5.out (((HLL.out.old (Nat.le_refl _)).below HBw5.out).mono (fun j _ hj => by have := (HP5.out.lt j hj.symm).1; omega)) (by unfold maxLen; omega) (by show _ * 8 ≤ _; omega) HB5.out.size (lins.length + xl.length) rfl ?_; intro aj cj w6 hJ)
        go_roundw
        case rel =>
          refine ⟨k + 1, by omega, by go_num, by rw [HT'.out]; exact HO5.out.elseG hJ.kept (fun j hj => by have := (HP5.out.lt j hj.symm).1; omega) (fun j hj e => HAP5.out j hj e.symm), by rw [HTL'.out]; exact hJ.own, Lib.hid (fun j hj e => ?_), Lib.hid (HB5.out.trans hJ.below)⟩
          rcases hJ.place with h | ⟨mm, h, hm⟩
          · exact HAP5.out j hj (h ▸ e)
          · rw [h] at e
            cases e
            have hj : some g = some j := hj
            cases hj
            omega
        case measure => simp [RowKit.intOf]; omega
    · have hkk : l.take k = l := List.take_of_length_le (by rw [← HN.out]; omega)
      rw [hkk] at hO hP
      obtain ⟨mk, hmk⟩ : ∃ mk, mk = (holdL l t).map Tup.vals := ⟨_, rfl⟩
      obtain ⟨lins, hlins⟩ : ∃ lins, lins = linsOf l t := ⟨_, rfl⟩
      have hmz : mk.length ≤ 1000 := by rw [hmk, List.length_map]; exact Nat.le_trans (List.length_filter_le _ _) (by rw [← HN.out]; exact hl)
      have hlz : lins.length ≤ 100000 := by
        rw [hlins]
        refine Nat.le_trans (linsOf_len HLI.out) ?_
        rw [← HN.out]; omega
      rw [← hmk] at hO
      rw [← hlins] at hP
      have HLN := Lib.hid hlins
      have hag : aggP kind (argsL e 0 mk) = aggT e 0 kind (holdL l t) := by rw [hmk]; unfold aggT argsL; rw [List.map_map]; rfl
      have hR64 : Rows64 mk := fun r hr z hz => by
        rw [hmk] at hr
        obtain ⟨x, hx, rfl⟩ := List.mem_map.1 hr
        exact H64.out x (List.mem_filter.1 hx).1 z hz
      obtain ⟨ao, co, rfl⟩ := hO.shape
      obtain ⟨ap, cp, rfl⟩ := hP.shape
      have HBw := Lib.hid (below_keep HB0.out HB.out)
      have HAG : Hid (∀ W, Below wo.heap.size wo W → Hid (Calls Tryz.prog 28 #[.slice ae e.length ce, .agg #[.int .i64 kind, .int .i64 0], .slice ao mk.length co] W fun en w' => en = .returned (aggG (aggT e 0 kind (holdL l t))) ∧ Below W.heap.size W w')) := Lib.hid fun W hW => by
        have h := aggr_any _ _ e kind 0 mk W ((HEV.out.below HBw.out).below hW) ((hO.forget.sl).below hW) he (by omega) HC.out hR64
        rw [hag] at h
        exact Lib.hid h
      obtain ⟨ag, hge⟩ : ∃ ag, ag = aggT e 0 kind (holdL l t) := ⟨_, rfl⟩
      rw [← hge] at HAG
      obtain ⟨gk, gn, gs⟩ := ag
      have HGE := Lib.hid hge
      clear hge
      unfold aggG at HAG
      dsimp only at HAG
      have HPo := Lib.hid hP
      have hbw := box_kept HR0.out HB.out
      have HRo := Lib.hid hbw
      have hbg := box_kept HBOX.out HBw.out
      have HBG := Lib.hid hbg
      have HAo := Lib.hid (And.intro (cell_keep HBw.out HA0.out) (cell_keep HBw.out HA1.out))
      clear hkk hmk hlins hO hP hag hR64 HAP hbw hbg HR0 HBOX HA0 HA1 HB
      go_upto_region 10 with fail
      go_wp2_with (at_builtin; refine wpList_join rfl (.const (.slice none 0 0)) (.tmp 37) 35 rfl valE Tryz.underlying35 wo.heap.size (.slice none 0 0) (.slice ak 0 ck) [] [] rfl rfl (Own.nil _ _ _) (Sl.nil _ _ _ _ _) (by simp) (by simp) (Nat.le_refl _) 0 rfl ?_; intro aj cj w2 hJ)
      have HO2 := Lib.hid (hJ.own : Own valE w2 wo.heap.size (.slice aj 0 cj) [])
      have HB2 := Lib.hid hJ.below
      have HMG := Lib.hid (bagMerge_any _ (.slice none 0 0) lins [] w2 (HPo.out.below hJ.below).sl (Sl.nil _ _ _ _ _) (by simp; omega))
      clear hJ
      go_wp2_with fail
      refine HMG.out.mono ?_
      rintro _ w3 ⟨u, rfl, hOu, hb3⟩
      obtain ⟨au, cu, hsu⟩ := hOu.shape
      subst hsu
      obtain ⟨w4, hw4⟩ : ∃ w4, w4 = w3.alloc (.cells #[.slice aj 0 cj, .slice au (mergeL lins []).length cu] 38) := ⟨_, rfl⟩
      have hb4 : Below w3.heap.size w3 w4 := by rw [hw4]; exact below_alloc _ _
      have hbt : w4.heap[w3.heap.size]? = some (.cells #[.slice aj 0 cj, .slice au (mergeL lins []).length cu] 38 (0, 0)) := by rw [hw4]; exact World.alloc_heap_new _ _
      have HBo4 := Lib.hid (below_keep (below_keep HB2.out hb3) hb4)
      have HBw4 := Lib.hid (below_keep HBw.out HBo4.out)
      have HBT := Lib.hid hbt
      have HBG4 := Lib.hid (box_kept HBG.out HBo4.out)
      have HR4 := Lib.hid (box_kept HRo.out HBo4.out)
      have HA4 := Lib.hid (And.intro (cell_keep HBo4.out HAo.out.1) (cell_keep HBo4.out HAo.out.2))
      have HO4 := Lib.hid ((HO2.out.below hb3).below hb4)
      have HU4 := Lib.hid (hOu.below hb4)
      have hz22 : wo.heap.size ≤ w2.heap.size := HB2.out.size
      have hz3 : wo.heap.size ≤ w3.heap.size := Nat.le_trans HB2.out.size hb3.size
      have hz4 : w3.heap.size < w4.heap.size := (Array.getElem?_eq_some_iff.1 hbt).1
      have hzw : w.heap.size < wo.heap.size := (Array.getElem?_eq_some_iff.1 HRo.out).1
      have hz2 : w2.heap.size ≤ w3.heap.size := hb3.size
      have hoj := HO2.out.lt
      have hou := hOu.lt
      have HW4 := Lib.hid hw4
      obtain ⟨bt, hbte⟩ : ∃ bt, bt = w3.heap.size := ⟨_, rfl⟩
      rw [← hbte] at HBT
      have HBTE := Lib.hid hbte
      obtain ⟨y0, y1, _, _⟩ := box_two HBG4.out
      clear hb3 hb4 hbt hw4 hbte hOu HO2 HB2 HMG HBw HRo HBG HAo HPo
      go_upto_region 11 with fail
      rw [← HW4.out, ← HBTE.out]
      go_wp2_with fail
      go_loopw [47] (fun i wr => (i = .int .i64 0 ∧ wr = w4) ∨ (i = .int .i64 1 ∧ ∃ v1, wr.heap[bt]? = some (.cells #[v1, .slice au (mergeL lins []).length cu] 38 (0, 0)) ∧ Hid (Own valE wr wo.heap.size v1 [⟨gk, gn, gs⟩]) ∧ Hid (Own intE wr w2.heap.size (.slice au (mergeL lins []).length cu) (mergeL lins [])) ∧ Hid (Below w.heap.size w wr) ∧ wr.heap[w.heap.size]? = some (.cells #[.slice none 0 0, .slice none 0 0] 38 (0, 0)))) (fun i _ => 1 - (RowKit.intOf i).toNat)
      case atStart => exact .inl ⟨rfl, rfl⟩
      case round =>
        rcases hrel with ⟨rfl, rfl⟩ | ⟨rfl, v1, hx, HOv, HOu, HBf, hrr⟩
        · obtain ⟨x0, x1⟩ := HA4.out
          clear y0 y1
          go_upto_region 14 with fail
          obtain ⟨w5, hw5⟩ : ∃ w5, w5 = wr.alloc (.cells #[.int .i64 kind, .int .i64 0] 32) := ⟨_, rfl⟩
          obtain ⟨b5, hb5e⟩ : ∃ b5, b5 = wr.heap.size := ⟨_, rfl⟩
          have hb5 : Below wr.heap.size wr w5 := by rw [hw5]; exact below_alloc _ _
          have hx5 : w5.heap[b5]? = some (.cells #[.int .i64 kind, .int .i64 0] 32 (0, 0)) := by rw [hw5, hb5e]; exact World.alloc_heap_new _ _
          rw [← hw5, ← hb5e]
          have HBX5 := Lib.hid (box_kept HBT.out hb5)
          have HB5 := Lib.hid (below_keep HBo4.out hb5)
          have HBw5 := Lib.hid (below_keep HBw4.out hb5)
          have HR5 := Lib.hid (box_kept HR4.out hb5)
          have HO5 := Lib.hid (HO4.out.below hb5)
          have HU5 := Lib.hid (HU4.out.below hb5)
          obtain ⟨t0, t1, t2, t3⟩ := box_two HBX5.out
          obtain ⟨y0, y1, _, _⟩ := box_two (box_kept HBG4.out hb5)
          obtain ⟨z0, z1, _, _⟩ := box_two hx5
          have hzb : bt < w5.heap.size := (Array.getElem?_eq_some_iff.1 HBX5.out).1
          have hnb : some bt ≠ (Value.slice aj 0 cj).ownBlock := fun e => by have := (hoj _ e.symm).2; have := HBTE.out; omega
          have hnr : some w.heap.size ≠ (Value.slice aj 0 cj).ownBlock := fun e => by have := (hoj _ e.symm).1; omega
          have hnu : ∀ k, (Value.slice au (mergeL lins []).length cu).ownBlock = some k → ¬ some k = (Value.slice aj 0 cj).ownBlock := fun k h1 h2 => by have := (hoj _ h2.symm).2; have := (hou _ h1).1; omega
          clear hw5 hb5e hb5 hx5 HBT HBo4 HBw4 HBG4 HR4 HO4 HU4 HW4 x0 x1
          go_region_law (first
            | (go_simp; go_at_call 28; refine (HAG.out _ (by first | exact HB5.out | exact HB5.out.drew | exact below_drewN HB5.out _)).out.mono ?_; rintro _ wg ⟨rfl, hbg⟩; have hB6 : Below w5.heap.size w5 wg := (by first | exact hbg | exact Below.trans (Below.refl _ _).drew hbg | exact (below_drewN (Below.refl _ _) _).trans hbg); obtain ⟨t0', t1', t2', t3'⟩ := box_two (box_kept HBX5.out hB6); have y0' := cell_keep hB6 y0; have A0 : ∀ oo, (wg.alloc oo).cell? ⟨bt, 0, none⟩ = some (.slice aj 0 cj) := (fun oo => cell_alloc t0'); have A1 : ∀ oo, (wg.drew.alloc oo).cell? ⟨bt, 0, none⟩ = some (.slice aj 0 cj) := (fun oo => cell_alloc (W := wg.drew) t0'))
            | (refine step_push rfl (.tmp 52) (.tmp 60) 35 rfl valE Tryz.underlying35 wo.heap.size (.slice aj 0 cj) [] rfl (by first | exact HO5.out.below hB6 | exact (HO5.out.below hB6).drew) [⟨gk, gn, gs⟩] #[.int .i64 gk, .int .i64 gn, .string gs] (Els.one rfl) 1 1 rfl rfl (by decide) (by unfold maxLen; simp) (by show _ * 32 ≤ _; simp) (Nat.le_trans HB5.out.size hB6.size) ?_; intro g cap w7 hU hUa; obtain ⟨s0, s1, s2, s3⟩ := box_two (hU.block hnb (box_kept HBX5.out hB6))))
          all_goals (
            have HUO := Lib.hid (hU.own' (n := 1) rfl)
            have hgne : bt ≠ g := hU.ne hnb (Array.getElem?_eq_some_iff.1 (box_kept HBX5.out hB6)).1
            have hbx7 := hU.block hnb (box_kept HBX5.out hB6)
            have hrr7 := hU.block hnr (box_kept HR5.out hB6)
            have hu7 : Own intE w7 w2.heap.size (.slice au (mergeL lins []).length cu) (mergeL lins []) := (HU5.out.below hB6).kept_flat intE_flat8 hU.kept (fun k h1 h2 => hnu k h1 h2)
            have hbw7 : Below w.heap.size w w7 := (below_keep HBw5.out hB6).trans (hU.below.mono (Nat.le_of_lt hzw))
            have hwbt : w.heap.size ≤ bt := by have := HBTE.out; omega
            have hbx8 : (w7.setCell ⟨bt, 0, none⟩ (.slice (some ⟨g, 0, none⟩) 1 cap)).heap[bt]? = some (.cells #[.slice (some ⟨g, 0, none⟩) 1 cap, .slice au (mergeL lins []).length cu] 38 (0, 0)) := box_set08 hbx7
            have hbw8 : Below w.heap.size w (w7.setCell ⟨bt, 0, none⟩ (.slice (some ⟨g, 0, none⟩) 1 cap)) := hbw7.setCell hwbt _
            have huo8 := HUO.out.kept_flat (w' := w7.setCell ⟨bt, 0, none⟩ (.slice (some ⟨g, 0, none⟩) 1 cap)) valE_flat8 (kept_set (G := fun m => m = bt) (q := ⟨bt, 0, none⟩) rfl) (fun k h1 h2 => by cases h1; exact hgne h2.symm)
            have hu8 := hu7.kept_flat (w' := w7.setCell ⟨bt, 0, none⟩ (.slice (some ⟨g, 0, none⟩) 1 cap)) intE_flat8 (kept_set (G := fun m => m = bt) (q := ⟨bt, 0, none⟩) rfl) (fun k h1 h2 => by have := (hou _ h1).2; have := HBTE.out; omega)
            have hrr8 : (w7.setCell ⟨bt, 0, none⟩ (.slice (some ⟨g, 0, none⟩) 1 cap)).heap[w.heap.size]? = some (.cells #[.slice none 0 0, .slice none 0 0] 38 (0, 0)) := by
              rw [Below.heap_setCell _ _ _ _ (by show w.heap.size ≠ bt; have := HBTE.out; omega)]
              exact hrr7
            have HX8 := Lib.hid hbx8
            have HBW8 := Lib.hid hbw8
            have HUO8 := Lib.hid huo8
            have HU8 := Lib.hid hu8
            have HRR8 := Lib.hid hrr8
            clear hU hUa hbx7 hrr7 hu7 hbw7 hbx8 hbw8 huo8 hu8 hrr8 s0 s1 s2 s3
            go_wp2_with fail
            go_roundw
            case rel => exact .inr ⟨by go_num, _, HX8.out, HUO8, HU8, HBW8, HRR8.out⟩
            case measure => simp [RowKit.intOf])
        · obtain ⟨q0, q1, _, _⟩ := box_two hx
          obtain ⟨r0, r1, r2, r3⟩ := box_two hrr
          have hzz := (Array.getElem?_eq_some_iff.1 hrr).1
          obtain ⟨av, cv, hv1⟩ := HOv.out.shape
          subst hv1
          go_wp2_with fail
          have hK : Kept (fun m => m = w.heap.size) wr ((wr.setCell ⟨w.heap.size, 0, none⟩ (.slice av 1 cv)).setCell ⟨w.heap.size, 1, none⟩ (.slice au (mergeL lins []).length cu)) := (kept_set (G := fun m => m = w.heap.size) (q := ⟨w.heap.size, 0, none⟩) rfl).trans (kept_set (G := fun m => m = w.heap.size) (q := ⟨w.heap.size, 1, none⟩) rfl)
          refine bodyPost_ret (v := .tuple #[.agg #[.slice av 1 cv, .slice au (mergeL lins []).length cu], .bool (decide (0 < mk.length))]) (by simp [results, Tryz.results19, go_sem, r0, r1]) rfl ⟨_, _, _, rfl, ?_, ?_, ?_⟩
          · rw [← HGE.out]
            exact (HOv.out.kept_flat valE_flat8 hK (fun j h1 h2 => by have := (HOv.out.lt j h1).1; omega)).mono (by omega)
          · rw [← HLN.out]
            exact (HOu.out.kept_flat intE_flat8 hK (fun j h1 h2 => by have := (hou j h1).1; omega)).mono (by omega)
          · exact (HBf.out.setCell (Nat.le_refl _) _).setCell (Nat.le_refl _) _
end Go.Proofs.YtfmbbfidjcgeiaaGreatDoor

namespace Go.Proofs.YtfmbbfidjcgeiaaGreatDoor
open Go.Lib

def digB (c : UInt8) : Bool := decide (48 ≤ c.toNat ∧ c.toNat ≤ 57)
/-- What digits spell. -/
def natFrom (acc : Nat) (l : List UInt8) : Nat := l.foldl (fun a c => a * 10 + (c.toNat - 48)) acc
def hasMinus (l : List UInt8) : Bool := l.head? == some 45
/-- What stands behind the sign. -/
def digitsOf (l : List UInt8) : List UInt8 := if hasMinus l then l.drop 1 else l
/-- An optional minus and digits. -/
def numForm (l : List UInt8) : Bool := !(digitsOf l).isEmpty && (digitsOf l).all digB
/-- No leading zero. -/
def canon (d : List UInt8) : Bool := decide (d.length ≤ 1) || d.head? != some 48
/-- The number whose text this is, if it is one of 64 bits. -/
def numOf (l : List UInt8) : Option Int :=
  if canon (digitsOf l) = true ∧ ¬ (hasMinus l = true ∧ digitsOf l = [48]) ∧ natFrom 0 (digitsOf l) ≤ 9223372036854775808 ∧ (natFrom 0 (digitsOf l) = 9223372036854775808 → hasMinus l = true) then
    some (if hasMinus l then -(natFrom 0 (digitsOf l) : Int) else natFrom 0 (digitsOf l)) else none

theorem natFrom_cons (acc : Nat) (c : UInt8) (r : List UInt8) : natFrom acc (c :: r) = natFrom (acc * 10 + (c.toNat - 48)) r := by unfold natFrom; rw [List.foldl_cons]
theorem natFrom_nil (acc : Nat) : natFrom acc [] = acc := by unfold natFrom; rw [List.foldl_nil]
theorem head_app (a b : List UInt8) (h : a ≠ []) : (a ++ b).head? = a.head? := by
  cases a with
  | nil => exact absurd rfl h
  | cons _ _ => rfl
theorem natFrom_snoc (a : List UInt8) (c : UInt8) : ∀ acc, natFrom acc (a ++ [c]) = natFrom acc a * 10 + (c.toNat - 48) := by
  intro acc
  unfold natFrom
  rw [List.foldl_append, List.foldl_cons, List.foldl_nil]
theorem natFrom_ge (l : List UInt8) : ∀ acc, acc ≤ natFrom acc l := by
  induction l with
  | nil => intro acc; rw [natFrom_nil]; exact Nat.le_refl _
  | cons c r ih => intro acc; have := ih (acc * 10 + (c.toNat - 48)); rw [natFrom_cons]; omega
theorem dig_byte (u : Nat) (h : u < 10) : (UInt8.ofNat (48 + u)).toNat = 48 + u := by simp; omega
theorem natFrom_dec (u : Nat) : natFrom 0 (decDigits u) = u := by
  induction u using Nat.strongRecOn with
  | _ u ih =>
    by_cases h : u < 10
    · rw [decDigits, dif_pos h]; rw [natFrom_cons, natFrom_nil, dig_byte u h]; omega
    · rw [decDigits, dif_neg h, natFrom_snoc, ih (u / 10) (by omega), dig_byte _ (Nat.mod_lt _ (by omega))]; omega
theorem dec_all (u : Nat) : (decDigits u).all digB = true := by
  induction u using Nat.strongRecOn with
  | _ u ih =>
    by_cases h : u < 10
    · rw [decDigits, dif_pos h]; simp only [List.all_cons, List.all_nil, digB]; rw [dig_byte u h]; simp; omega
    · rw [decDigits, dif_neg h, List.all_append, ih (u / 10) (by omega)]
      simp only [List.all_cons, List.all_nil, digB]; rw [dig_byte _ (Nat.mod_lt _ (by omega))]; simp; omega
theorem dec_ne (u : Nat) : decDigits u ≠ [] := by
  intro h
  have h1 := decDigits_length u
  have h2 := nDigits_pos u
  rw [h] at h1; simp at h1; omega
theorem dec_head (u : Nat) (h0 : u ≠ 0) : (decDigits u).head? ≠ some 48 := by
  induction u using Nat.strongRecOn with
  | _ u ih =>
    by_cases h : u < 10
    · rw [decDigits, dif_pos h]
      intro e
      have e1 : UInt8.ofNat (48 + u) = 48 := by simpa using e
      have e2 := congrArg UInt8.toNat e1
      rw [dig_byte u h] at e2
      have : (48 : UInt8).toNat = 48 := rfl
      omega
    · rw [decDigits, dif_neg h]
      have hn := dec_ne (u / 10)
      rw [head_app _ _ hn]
      exact ih (u / 10) (by omega) (by omega)
theorem dec_canon (u : Nat) : canon (decDigits u) = true := by
  by_cases h : u = 0
  · subst h; rw [decDigits, dif_pos (by omega)]; rfl
  · have := dec_head u h
    simp [canon, this]
theorem dec_minus (u : Nat) : hasMinus (decDigits u) = false := by
  have h1 := dec_all u
  have h2 := dec_ne u
  cases h : decDigits u with
  | nil => exact absurd h h2
  | cons c r =>
    rw [h] at h1
    simp [digB] at h1
    simp only [hasMinus, List.head?_cons, beq_eq_false_iff_ne, ne_eq, Option.some.injEq]
    intro e
    subst e
    have : (45 : UInt8).toNat = 45 := rfl
    omega
theorem all_snoc (p : UInt8 → Bool) (a : List UInt8) (c : UInt8) (h : (a ++ [c]).all p = true) : a.all p = true ∧ p c = true := by
  simpa [List.all_append] using h
theorem natFrom_pos (d : List UInt8) (hd : d.all digB = true) (hn : d ≠ []) (hh : d.head? ≠ some 48) : 1 ≤ natFrom 0 d := by
  cases d with
  | nil => exact absurd rfl hn
  | cons c r =>
    have h1 := natFrom_ge r (0 * 10 + (c.toNat - 48))
    rw [natFrom_cons]
    simp only [List.all_cons, Bool.and_eq_true, digB, decide_eq_true_eq] at hd
    have : c.toNat ≠ 48 := fun e => hh (by rw [List.head?_cons, show c = 48 from UInt8.toNat_inj.1 (by rw [e]; rfl)])
    omega
theorem dec_natFrom (n : Nat) : ∀ d : List UInt8, d.length = n → d.all digB = true → d ≠ [] → canon d = true → decDigits (natFrom 0 d) = d := by
  induction n with
  | zero => intro d hl _ hn; exact absurd (List.length_eq_zero_iff.1 hl) hn
  | succ n ih =>
    intro d hl ha hn hc
    obtain ⟨a, c, rfl⟩ : ∃ a c, d = a ++ [c] := ⟨d.dropLast, d.getLast hn, (List.dropLast_concat_getLast hn).symm⟩
    obtain ⟨ha1, hcd⟩ := all_snoc digB a c ha
    simp only [digB, decide_eq_true_eq] at hcd
    have hr : c.toNat - 48 < 10 := by omega
    have hce : UInt8.ofNat (48 + (c.toNat - 48)) = c := UInt8.toNat_inj.1 (by rw [dig_byte _ hr]; omega)
    rw [natFrom_snoc]
    by_cases hz : a = []
    · subst hz
      rw [show natFrom 0 [] * 10 + (c.toNat - 48) = c.toNat - 48 by rw [natFrom_nil]; omega, decDigits, dif_pos hr, hce]; rfl
    · have hhead : a.head? ≠ some 48 := by
        intro e
        simp only [canon, Bool.or_eq_true, decide_eq_true_eq, bne_iff_ne, ne_eq] at hc
        rcases hc with h | h
        · have : 0 < a.length := List.length_pos_iff.2 hz
          rw [List.length_append, List.length_singleton] at h; omega
        · exact h (by rw [head_app _ _ hz]; exact e)
      have h1 := natFrom_pos a ha1 hz hhead
      rw [decDigits, dif_neg (by omega), show (natFrom 0 a * 10 + (c.toNat - 48)) / 10 = natFrom 0 a by omega, show (natFrom 0 a * 10 + (c.toNat - 48)) % 10 = c.toNat - 48 by omega, hce]
      rw [ih a (by simpa using hl) ha1 hz (by simp [canon, hhead])]
theorem digitsOf_minus (r : List UInt8) : digitsOf (45 :: r) = r := rfl
theorem itoa_numOf (n : Int) (h0 : -9223372036854775808 ≤ n) (h1 : n ≤ 9223372036854775807) : numOf (itoa n) = some n ∧ numForm (itoa n) = true := by
  by_cases h : n < 0
  · obtain ⟨u, rfl⟩ : ∃ u : Nat, n = -(u : Int) := ⟨n.natAbs, by omega⟩
    rw [itoa_neg u (by omega)]
    have e : hasMinus (45 :: decDigits u) = true := rfl
    refine ⟨?_, ?_⟩
    · unfold numOf
      have h48 : ¬ (true = true ∧ decDigits u = [48]) := fun h => by
        have := natFrom_dec u
        rw [h.2] at this
        have e2 : natFrom 0 [48] = 0 := by decide
        omega
      rw [digitsOf_minus, e, natFrom_dec, if_pos ⟨dec_canon u, h48, by omega, fun _ => rfl⟩]
      rfl
    · unfold numForm
      rw [digitsOf_minus, dec_all]
      have := dec_ne u
      cases h : decDigits u with
      | nil => exact absurd h this
      | cons _ _ => rfl
  · obtain ⟨u, rfl⟩ : ∃ u : Nat, n = u := ⟨n.toNat, by omega⟩
    rw [itoa_nonneg]
    have e := dec_minus u
    have e2 : digitsOf (decDigits u) = decDigits u := by simp [digitsOf, e]
    refine ⟨?_, ?_⟩
    · unfold numOf
      rw [e2, e, natFrom_dec, if_pos ⟨dec_canon u, fun h => (by cases h.1), by omega, fun h => (by omega)⟩]
      simp
    · unfold numForm
      rw [e2, dec_all]
      have := dec_ne u
      cases h : decDigits u with
      | nil => exact absurd h this
      | cons _ _ => rfl
theorem minus_cons {l : List UInt8} (h : hasMinus l = true) : l = 45 :: digitsOf l := by
  cases l with
  | nil => cases h
  | cons c r =>
    simp [hasMinus] at h
    subst h; rfl
theorem numOf_itoa (l : List UInt8) (hf : numForm l = true) (n : Int) (h : numOf l = some n) : itoa n = l ∧ -9223372036854775808 ≤ n ∧ n ≤ 9223372036854775807 := by
  unfold numOf at h
  split at h
  · rename_i hc
    obtain ⟨hc1, hc2, hc3, hc4⟩ := hc
    cases h
    simp only [numForm, Bool.and_eq_true, Bool.not_eq_true', List.isEmpty_eq_false_iff] at hf
    have hd := dec_natFrom _ _ rfl hf.2 hf.1 hc1
    cases hm : hasMinus l with
    | true =>
      simp only [if_pos]
      have hl := minus_cons hm
      by_cases hz : natFrom 0 (digitsOf l) = 0
      · exfalso
        rw [hz] at hd
        exact hc2 ⟨hm, by rw [← hd]; rw [decDigits, dif_pos (by omega)]; rfl⟩
      · rw [itoa_neg _ (by omega), hd]
        exact ⟨hl.symm, by omega, by omega⟩
    | false =>
      simp only [Bool.false_eq_true, if_false]
      have e2 : digitsOf l = l := by simp [digitsOf, hm]
      rw [itoa_nonneg, hd]
      have : natFrom 0 (digitsOf l) ≠ 9223372036854775808 := fun e => by rw [hc4 e] at hm; cases hm
      exact ⟨e2, by omega, by omega⟩
  · cases h
theorem parse10_dig (l : List UInt8) : ∀ acc, l.all digB = true → natFrom acc l < 18446744073709551616 → parseUint10 acc l = .ok (natFrom acc l) := by
  induction l with
  | nil => intro acc _ _; rw [natFrom_nil]; rfl
  | cons c r ih =>
    intro acc ha hlt
    simp only [List.all_cons, Bool.and_eq_true, digB, decide_eq_true_eq] at ha
    have hg := natFrom_ge r (acc * 10 + (c.toNat - 48))
    rw [natFrom_cons] at hlt
    rw [parseUint10, if_pos ha.1, if_neg (by omega), if_neg (by omega), natFrom_cons]
    exact ih _ ha.2 hlt
theorem atoi_numOf (l : List UInt8) (hf : numForm l = true) (n : Int) (h : numOf l = some n) : atoiAll l = .ok n := by
  unfold numOf at h
  split at h
  · rename_i hc
    obtain ⟨hc1, hc2, hc3, hc4⟩ := hc
    cases h
    simp only [numForm, Bool.and_eq_true, Bool.not_eq_true', List.isEmpty_eq_false_iff] at hf
    have hp := parse10_dig _ 0 hf.2 (by omega)
    have hmag : parseMag (digitsOf l) = .ok (natFrom 0 (digitsOf l)) := by rw [parseMag, if_neg hf.1, hp]
    cases hm : hasMinus l with
    | true =>
      rw [minus_cons hm, atoiAll_minus, digitsOf_minus, hmag]
      simp only [signed]
      rw [if_neg (by omega)]
      simp
    | false =>
      have e2 : digitsOf l = l := by simp [digitsOf, hm]
      have : natFrom 0 (digitsOf l) ≠ 9223372036854775808 := fun e => by rw [hc4 e] at hm; cases hm
      rw [e2] at hmag hf this hc3 ⊢
      cases l with
      | nil => exact absurd rfl hf.1
      | cons c r =>
        have hc0 : digB c = true := by have := hf.2; simp at this; exact this.1
        simp only [digB, decide_eq_true_eq] at hc0
        rw [atoiAll_plain c r (by omega) (by omega), hmag]
        simp only [signless]
        rw [if_neg (by omega)]
        simp
  · cases h
/-- What the program makes of a numeral. -/
theorem num_none (l : List UInt8) (h : numOf l = none) (n : Int) (hn : atoiAll l = .ok n) : itoa n ≠ l := by
  intro e
  have hb := atoiAll_bounds hn
  have := (itoa_numOf n hb.1 hb.2).1
  rw [e, h] at this
  cases this

/-- The definition's loop over the digits: the number so far; whether it fits. -/
def refStep (x : Nat × Bool) (c : UInt8) : Nat × Bool := if 922337203685477580 < x.1 then (x.1, false) else (x.1 * 10 + (c.toNat - 48), x.2)
theorem refStep_inv (d : List UInt8) : ∀ (u : Nat) (f : Bool) (m : Nat), d.all digB = true → (f = true → u = m ∧ u ≤ 9223372036854775809) → (f = false → 922337203685477580 < u ∧ u ≤ 9223372036854775809 ∧ 9223372036854775810 ≤ m) →
    ((d.foldl refStep (u, f)).2 = true → (d.foldl refStep (u, f)).1 = natFrom m d ∧ (d.foldl refStep (u, f)).1 ≤ 9223372036854775809) ∧ ((d.foldl refStep (u, f)).2 = false → (d.foldl refStep (u, f)).1 ≤ 9223372036854775809 ∧ 9223372036854775810 ≤ natFrom m d) := by
  induction d with
  | nil =>
    intro u f m _ h1 h2
    rw [natFrom_nil, List.foldl_nil]
    refine ⟨fun e => ?_, fun e => ?_⟩
    · have := h1 e; exact ⟨this.1, this.2⟩
    · have := h2 e; exact ⟨this.2.1, this.2.2⟩
  | cons c r ih =>
    intro u f m ha h1 h2
    simp only [List.all_cons, Bool.and_eq_true, digB, decide_eq_true_eq] at ha
    rw [List.foldl_cons, natFrom_cons]
    cases f with
    | true =>
      obtain ⟨rfl, hu⟩ := h1 rfl
      by_cases hb : 922337203685477580 < u
      · rw [refStep, if_pos hb]
        exact ih u false _ ha.2 (fun e => by cases e) (fun _ => ⟨hb, hu, by omega⟩)
      · rw [refStep, if_neg hb]
        exact ih _ true _ ha.2 (fun _ => ⟨rfl, by omega⟩) (fun e => by cases e)
    | false =>
      obtain ⟨hb, hu, hm⟩ := h2 rfl
      rw [refStep, if_pos hb]
      exact ih u false _ ha.2 (fun e => by cases e) (fun _ => ⟨hb, hu, by omega⟩)
def refNum (d : List UInt8) : Nat × Bool := d.foldl refStep (0, true)
theorem refNum_fits {d : List UInt8} (ha : d.all digB = true) (h : (refNum d).2 = true) : (refNum d).1 = natFrom 0 d ∧ (refNum d).1 ≤ 9223372036854775809 :=
  (refStep_inv d 0 true 0 ha (fun _ => ⟨rfl, by omega⟩) (fun e => by cases e)).1 h
theorem refNum_big {d : List UInt8} (ha : d.all digB = true) (h : (refNum d).2 = false) : (refNum d).1 ≤ 9223372036854775809 ∧ 9223372036854775810 ≤ natFrom 0 d :=
  (refStep_inv d 0 true 0 ha (fun _ => ⟨rfl, by omega⟩) (fun e => by cases e)).2 h
theorem refNum_le (d : List UInt8) (ha : d.all digB = true) : (refNum d).1 ≤ 9223372036854775809 := by
  cases h : (refNum d).2 with
  | true => exact (refNum_fits ha h).2
  | false => exact (refNum_big ha h).1
end Go.Proofs.YtfmbbfidjcgeiaaGreatDoor

namespace Go.Proofs.YtfmbbfidjcgeiaaGreatDoor
open Go.Lib

/-- Every quote twice. -/
def dbl2 : List UInt8 → List UInt8
  | [] => []
  | c :: r => if c = 39 then 39 :: 39 :: dbl2 r else c :: dbl2 r
/-- Every pair of quotes, from the left, replaced. -/
def pairs (new : List UInt8) : List UInt8 → List UInt8
  | [] => []
  | [c] => [c]
  | c :: d :: r => if c = 39 ∧ d = 39 then new ++ pairs new r else c :: pairs new (d :: r)
/-- Every pair of quotes is one; a single one is a fault. -/
def undbl : List UInt8 → Option (List UInt8)
  | [] => some []
  | [c] => if c = 39 then none else some [c]
  | c :: d :: r => if c = 39 then (if d = 39 then (undbl r).map (39 :: ·) else none) else (undbl (d :: r)).map (c :: ·)

theorem index_pair_hit (r : List UInt8) : index (39 :: 39 :: r) [39, 39] = ((0 : Nat) : Int) := by
  rw [index]; simp [List.isPrefixOf]
theorem index_pair_miss {c : UInt8} {r : List UInt8} (h : ¬ (c = 39 ∧ r.head? = some 39)) : index (c :: r) [39, 39] = if index r [39, 39] == -1 then -1 else index r [39, 39] + 1 := by
  rw [index, if_neg]
  intro e
  cases r with
  | nil => simp [List.isPrefixOf] at e
  | cons d r =>
    simp [List.isPrefixOf] at e
    exact h ⟨e.1.symm, by simp [e.2]⟩
theorem count_pair_miss {c : UInt8} {r : List UInt8} (h : ¬ (c = 39 ∧ r.head? = some 39)) : count (c :: r) [39, 39] = count r [39, 39] := by
  have hi := index_pair_miss h
  by_cases hm : index r [39, 39] = -1
  · rw [count_miss hm, count_miss (by rw [hi, hm]; rfl)]
  · have hge := index_ge r [39, 39]
    obtain ⟨i, hI⟩ : ∃ i : Nat, index r [39, 39] = i := ⟨(index r [39, 39]).toNat, by omega⟩
    have hI' : index (c :: r) [39, 39] = ((i + 1 : Nat) : Int) := by
      rw [hi, if_neg (by simpa using hm), hI]; rfl
    rw [count_hit (by simp) hI, count_hit (by simp) hI']
    simp
theorem replaceK_pair_miss {c : UInt8} {r new : List UInt8} (h : ¬ (c = 39 ∧ r.head? = some 39)) : replaceK [39, 39] new (count r [39, 39]) (c :: r) = c :: replaceK [39, 39] new (count r [39, 39]) r := by
  cases hk : count r [39, 39] with
  | zero => simp [replaceK]
  | succ k =>
    obtain ⟨i, hI⟩ := index_of_count (s := r) (old := [39, 39]) (by omega)
    have hI' : index (c :: r) [39, 39] = ((i + 1 : Nat) : Int) := by
      rw [index_pair_miss h, if_neg (by rw [hI]; simp), hI]; rfl
    rw [replaceK_hit _ _ _ _ i hI, replaceK_hit _ _ _ _ (i + 1) hI']
    simp
theorem replaceK_pairs (new : List UInt8) (n : Nat) : ∀ l : List UInt8, l.length ≤ n → replaceK [39, 39] new (count l [39, 39]) l = pairs new l := by
  induction n with
  | zero =>
    intro l hl
    have : l = [] := List.length_eq_zero_iff.1 (by omega)
    subst this
    rfl
  | succ n ih =>
    intro l hl
    cases l with
    | nil => rfl
    | cons c r =>
      cases r with
      | nil =>
        have h : ¬ (c = 39 ∧ ([] : List UInt8).head? = some 39) := fun e => by cases e.2
        rw [count_pair_miss h, replaceK_pair_miss h, ih [] (by simp)]
        rfl
      | cons d r =>
        by_cases h : c = 39 ∧ d = 39
        · obtain ⟨rfl, rfl⟩ := h
          have hi := index_pair_hit r
          rw [count_hit (by simp) hi, Nat.add_comm, replaceK_hit _ _ _ _ 0 hi]
          have := ih r (by simp at hl; omega)
          simp only [List.take_zero, List.nil_append, Nat.zero_add, List.length_cons, List.length_nil, List.drop_succ_cons, List.drop_zero]
          rw [this, pairs, if_pos ⟨rfl, rfl⟩]
        · have h' : ¬ (c = 39 ∧ (d :: r).head? = some 39) := fun e => h ⟨e.1, by simpa using e.2⟩
          rw [count_pair_miss h', replaceK_pair_miss h', ih (d :: r) (by simpa using hl), pairs, if_neg h]
theorem replaceAll_pairs (new l : List UInt8) (h : new ≠ [39, 39]) : replaceAll l [39, 39] new = pairs new l := by
  have e : replaceAll l [39, 39] new = replaceK [39, 39] new (count l [39, 39]) l := by
    have : ¬ (([39, 39] : List UInt8) == new) = true := by simpa using fun e => h e.symm
    simp [replaceAll, replace, replaceNum, this]
  rw [e, replaceK_pairs new l.length l (Nat.le_refl _)]
theorem pairs_le (new : List UInt8) (hn : new.length ≤ 2) (n : Nat) : ∀ l : List UInt8, l.length ≤ n → (pairs new l).length ≤ l.length := by
  induction n with
  | zero =>
    intro l hl
    have : l = [] := List.length_eq_zero_iff.1 (by omega)
    subst this
    simp [pairs]
  | succ n ih =>
    intro l hl
    match l with
    | [] => simp [pairs]
    | [c] => simp [pairs]
    | c :: d :: r =>
      rw [pairs]
      split
      · have := ih r (by simp at hl; omega)
        simp; omega
      · have := ih (d :: r) (by simpa using hl)
        simp at this ⊢; omega
theorem undbl_cases (n : Nat) : ∀ l : List UInt8, l.length ≤ n → (undbl l = none → (39 : UInt8) ∈ pairs [] l) ∧ (∀ m, undbl l = some m → (39 : UInt8) ∉ pairs [] l ∧ pairs [39] l = m ∧ dbl2 m = l ∧ m.length ≤ l.length) := by
  induction n with
  | zero =>
    intro l hl
    have : l = [] := List.length_eq_zero_iff.1 (by omega)
    subst this
    refine ⟨(fun h => by cases h), fun m h => ?_⟩
    cases h
    simp [pairs, dbl2]
  | succ n ih =>
    intro l hl
    match l with
    | [] =>
      refine ⟨(fun h => by cases h), fun m h => ?_⟩
      cases h
      simp [pairs, dbl2]
    | [c] =>
      by_cases hc : c = 39
      · subst hc
        refine ⟨fun _ => by simp [pairs], fun m h => ?_⟩
        simp [undbl] at h
      · refine ⟨fun h => ?_, fun m h => ?_⟩
        · simp [undbl, hc] at h
        · simp [undbl, hc] at h
          subst h
          simp [pairs, dbl2, hc]
          exact fun e => hc e.symm
    | c :: d :: r =>
      by_cases hc : c = 39
      · by_cases hd : d = 39
        · subst hc; subst hd
          obtain ⟨h1, h2⟩ := ih r (by simp at hl; omega)
          refine ⟨fun h => ?_, fun m h => ?_⟩
          · have : undbl r = none := by simpa [undbl] using h
            simpa [pairs] using h1 this
          · have : ∃ q, undbl r = some q ∧ 39 :: q = m := by simpa [undbl] using h
            obtain ⟨q, hq, rfl⟩ := this
            obtain ⟨a, b, e, g⟩ := h2 q hq
            refine ⟨by simpa [pairs] using a, by simp [pairs, b], by simp [dbl2, e], by simp; omega⟩
        · subst hc
          refine ⟨fun _ => by simp [pairs, hd], fun m h => ?_⟩
          simp [undbl, hd] at h
      · obtain ⟨h1, h2⟩ := ih (d :: r) (by simpa using hl)
        refine ⟨fun h => ?_, fun m h => ?_⟩
        · have : undbl (d :: r) = none := by simpa [undbl, hc] using h
          have := h1 this
          rw [pairs, if_neg (fun e => hc e.1)]
          exact List.mem_cons_of_mem _ this
        · have : ∃ q, undbl (d :: r) = some q ∧ c :: q = m := by simpa [undbl, hc] using h
          obtain ⟨q, hq, rfl⟩ := this
          obtain ⟨a, b, e, g⟩ := h2 q hq
          refine ⟨?_, ?_, ?_, by simp at g ⊢; omega⟩
          · rw [pairs, if_neg (fun e => hc e.1)]
            intro hm
            rcases List.mem_cons.1 hm with h | h
            · exact hc h.symm
            · exact a h
          · rw [pairs, if_neg (fun e => hc e.1), b]
          · rw [dbl2, if_neg hc, e]
theorem undbl_none {l : List UInt8} (h : undbl l = none) : (39 : UInt8) ∈ pairs [] l := (undbl_cases _ l (Nat.le_refl _)).1 h
theorem undbl_some {l m : List UInt8} (h : undbl l = some m) : (39 : UInt8) ∉ pairs [] l ∧ pairs [39] l = m ∧ dbl2 m = l ∧ m.length ≤ l.length := (undbl_cases _ l (Nat.le_refl _)).2 m h
theorem undbl_dbl (m : List UInt8) : undbl (dbl2 m) = some m := by
  induction m with
  | nil => rfl
  | cons c m ih =>
    by_cases hc : c = 39
    · subst hc; simp [dbl2, undbl, ih]
    · rw [dbl2, if_neg hc]
      cases hm : dbl2 m with
      | nil =>
        rw [hm] at ih
        simp [undbl] at ih
        subst ih
        simp [undbl, hc]
      | cons d r =>
        rw [hm] at ih
        simp [undbl, hc, ih]
theorem contains_one (l : List UInt8) (c : UInt8) : Lib.contains l [c] = l.contains c := by
  unfold Lib.contains
  rw [index_one]
  induction l with
  | nil => rfl
  | cons b l ih =>
    have hge := indexByte_ge l c
    by_cases h : b = c
    · subst h; simp [indexByte]
    · have h' : (c == b) = false := by simpa using fun e => h e.symm
      rw [List.contains_cons, h', ← ih]
      have hb : (b == c) = false := by simpa using h
      by_cases hm : indexByte l c = -1
      · simp [indexByte, hb, hm]
      · simp [indexByte, hb, hm]; omega
theorem dbl2_length (l : List UInt8) : (dbl2 l).length ≤ 2 * l.length := by
  induction l with
  | nil => simp [dbl2]
  | cons c l ih => by_cases h : c = 39 <;> simp [dbl2, h] <;> omega
/-- The library's ReplaceAll at a quote. -/
theorem replaceAll_dbl (s : List UInt8) : replaceAll s [39] [39, 39] = dbl2 s := by
  have h : replaceAll s [39] [39, 39] = replaceK [39] [39, 39] (count s [39]) s := by
    simp [replaceAll, replace, replaceNum]
  rw [h]
  clear h
  induction s with
  | nil => rw [count_one]; simp [replaceK, dbl2]
  | cons c s ih =>
    by_cases h : c = 39
    · subst h
      rw [count_cons_eq, Nat.add_comm, replaceK_hit _ _ _ _ 0 (by rw [index_one]; simp [indexByte])]
      simp [dbl2, ih]
    · rw [count_cons_ne _ _ _ h]
      have hi : index (c :: s) [39] = if index s [39] == -1 then -1 else index s [39] + 1 := by
        rw [index_one, index_one, indexByte]; simp [h]
      have hd : dbl2 (c :: s) = c :: dbl2 s := by simp [dbl2, h]
      rw [hd, ← ih]
      cases hk : count s [39] with
      | zero => simp [replaceK]
      | succ k =>
        obtain ⟨i, hI⟩ := index_of_count (s := s) (old := [39]) (by omega)
        rw [replaceK_hit _ _ _ _ i hI, replaceK_hit _ _ _ _ (i + 1) (by rw [hi, hI]; simp)]
        simp
theorem count_q_le (s : List UInt8) : count s [39] ≤ s.length := by rw [count_one]; exact List.count_le_length
end Go.Proofs.YtfmbbfidjcgeiaaGreatDoor

namespace Go.Proofs.YtfmbbfidjcgeiaaGreatDoor
open Go.Lib

def gtxt (m : List UInt8) : GVal := ⟨2, 0, ⟨m.toArray⟩⟩
def gtrue : GVal := ⟨3, 1, ⟨#[]⟩⟩
def gfalse : GVal := ⟨3, 0, ⟨#[]⟩⟩
def validG (v : GVal) : Bool :=
  if v.kind = 0 then v.n == 0 && v.s.data.toList.isEmpty else if v.kind = 1 then v.s.data.toList.isEmpty
  else if v.kind = 2 then v.n == 0 && decide (v.s.size ≤ 200) else if v.kind = 3 then (v.n == 0 || v.n == 1) && v.s.data.toList.isEmpty else false
def sNull : List UInt8 := [110, 117, 108, 108]
def sTrue : List UInt8 := [116, 114, 117, 101]
def sFalse : List UInt8 := [102, 97, 108, 115, 101]
/-- The text of a value. -/
def fmtG (v : GVal) : List UInt8 :=
  if validG v = true then (if v.kind = 0 then sNull else if v.kind = 1 then itoa v.n else if v.kind = 3 then (if v.n = 1 then sTrue else sFalse) else 39 :: (dbl2 v.s.data.toList ++ [39])) else []
/-- What stands between the quotes. -/
def unquo (l : List UInt8) : Option (List UInt8) := if l.length < 2 ∨ l.head? ≠ some 39 ∨ l.getLast? ≠ some 39 then none else undbl ((l.drop 1).take (l.length - 2))
/-- The value of a text; the error's number. -/
def parseG (l : List UInt8) : GVal × Int :=
  if l = sNull then (gnull, 0) else if l = sFalse then (gfalse, 0) else if l = sTrue then (gtrue, 0)
  else if numForm l = true then (match numOf l with | some n => (gint n, 0) | none => (gnull, 10))
  else match unquo l with | none => (gnull, 5) | some m => if 200 < m.length then (gnull, 4) else (gtxt m, 0)
def keyOf (v : GVal) : List UInt8 := itoa v.kind ++ [44] ++ itoa v.n ++ [44] ++ itoa v.s.size ++ [58] ++ v.s.data.toList
def keyL (l : List GVal) : List UInt8 := l.flatMap keyOf

theorem bytes_nil {s : ByteArray} (h : s.data.toList = []) : s = ⟨#[]⟩ := by
  obtain ⟨⟨l⟩⟩ := s
  simp at h
  subst h; rfl
theorem bytes_mk (s : ByteArray) : (ByteArray.mk s.data.toList.toArray) = s := by
  obtain ⟨⟨l⟩⟩ := s; rfl
theorem quo_num (l : List UInt8) : numForm (39 :: l) = false := by
  simp [numForm, digitsOf, hasMinus, digB]
theorem quo_unquo (m : List UInt8) : unquo (39 :: (m ++ [39])) = undbl m := by
  unfold unquo
  have h : ¬ ((39 :: (m ++ [39]) : List UInt8).length < 2 ∨ (39 :: (m ++ [39]) : List UInt8).head? ≠ some 39 ∨ (39 :: (m ++ [39]) : List UInt8).getLast? ≠ some 39) := by
    simp [List.getLast?_cons, List.getLast?_append]
  rw [if_neg h]
  simp
theorem parse_fmt (v : GVal) (h : validG v = true) (hn : In64 v.n) : parseG (fmtG v) = (v, 0) := by
  obtain ⟨k, n, s⟩ := v
  unfold fmtG
  rw [if_pos h]
  unfold validG at h
  dsimp only at h hn ⊢
  by_cases h0 : k = 0
  · subst h0
    simp only [if_true, Bool.and_eq_true, beq_iff_eq, List.isEmpty_iff] at h
    obtain ⟨rfl, h2⟩ := h
    rw [bytes_nil h2]; rfl
  · rw [if_neg h0] at h ⊢
    by_cases h1 : k = 1
    · subst h1
      simp only [if_true, List.isEmpty_iff] at h
      obtain ⟨hi1, hi2⟩ := itoa_numOf n hn.1 hn.2
      simp only [if_true]
      have e1 : itoa n ≠ sNull := fun e => by rw [e] at hi2; exact absurd hi2 (by decide)
      have e2 : itoa n ≠ sFalse := fun e => by rw [e] at hi2; exact absurd hi2 (by decide)
      have e3 : itoa n ≠ sTrue := fun e => by rw [e] at hi2; exact absurd hi2 (by decide)
      unfold parseG
      rw [if_neg e1, if_neg e2, if_neg e3, if_pos hi2, hi1, bytes_nil h]; rfl
    · rw [if_neg h1] at h ⊢
      by_cases h2 : k = 2
      · subst h2
        simp only [if_true, Bool.and_eq_true, beq_iff_eq, decide_eq_true_eq] at h
        obtain ⟨rfl, h2⟩ := h
        rw [if_neg (by omega)]
        have e1 : (39 :: (dbl2 s.data.toList ++ [39]) : List UInt8) ≠ sNull := fun e => by have := List.head_eq_of_cons_eq e; exact absurd this (by decide)
        have e2 : (39 :: (dbl2 s.data.toList ++ [39]) : List UInt8) ≠ sFalse := fun e => by have := List.head_eq_of_cons_eq e; exact absurd this (by decide)
        have e3 : (39 :: (dbl2 s.data.toList ++ [39]) : List UInt8) ≠ sTrue := fun e => by have := List.head_eq_of_cons_eq e; exact absurd this (by decide)
        unfold parseG
        have hl : ¬ 200 < s.data.toList.length := by
          have : s.data.toList.length = s.size := (Lib.size_eq s).symm
          omega
        rw [if_neg e1, if_neg e2, if_neg e3, if_neg (by rw [quo_num]; simp), quo_unquo, undbl_dbl]
        simp only
        rw [if_neg hl, gtxt, bytes_mk]
      · rw [if_neg h2] at h
        by_cases h3 : k = 3
        · subst h3
          simp only [if_true, Bool.and_eq_true, Bool.or_eq_true, beq_iff_eq, List.isEmpty_iff] at h
          obtain ⟨h4, h5⟩ := h
          rw [bytes_nil h5]
          rcases h4 with rfl | rfl <;> rfl
        · rw [if_neg h3] at h; cases h
theorem unquo_some {l m : List UInt8} (h : unquo l = some m) : 39 :: (dbl2 m ++ [39]) = l := by
  unfold unquo at h
  split at h
  · cases h
  · rename_i hc
    have hc1 : ¬ l.length < 2 := fun e => hc (.inl e)
    have hc2 : l.head? = some 39 := by
      by_cases e : l.head? = some 39
      · exact e
      · exact absurd (.inr (.inl e)) hc
    have hc3 : l.getLast? = some 39 := by
      by_cases e : l.getLast? = some 39
      · exact e
      · exact absurd (.inr (.inr e)) hc
    rw [(undbl_some h).2.2.1]
    cases l with
    | nil => simp at hc1
    | cons c r =>
      simp at hc2
      subst hc2
      have hr : r ≠ [] := by intro e; subst e; simp at hc1
      have hl : r.getLast? = some 39 := by
        rw [List.getLast?_cons_of_ne_nil hr] at hc3
        exact hc3
      rw [List.getLast?_eq_some_getLast hr] at hl
      have hl' : r.getLast hr = 39 := by simpa using hl
      have := List.dropLast_concat_getLast hr
      rw [hl'] at this
      have e : ((39 :: r : List UInt8).drop 1).take ((39 :: r : List UInt8).length - 2) = r.dropLast := by
        rw [List.dropLast_eq_take]; simp
      rw [e, this]
theorem fmt_parse (l : List UInt8) (v : GVal) (h : parseG l = (v, 0)) : validG v = true ∧ fmtG v = l ∧ In64 v.n := by
  unfold parseG at h
  split at h
  · rename_i e; cases h; subst e; refine ⟨rfl, rfl, by decide⟩
  split at h
  · rename_i e; cases h; subst e; refine ⟨rfl, rfl, by decide⟩
  split at h
  · rename_i e; cases h; subst e; refine ⟨rfl, rfl, by decide⟩
  split at h
  · rename_i hf
    cases hn : numOf l with
    | none => rw [hn] at h; cases h
    | some n =>
      rw [hn] at h; cases h
      obtain ⟨h1, h2, h3⟩ := numOf_itoa l hf n hn
      exact ⟨rfl, h1, h2, h3⟩
  · cases hu : unquo l with
    | none => rw [hu] at h; cases h
    | some m =>
      rw [hu] at h
      simp only at h
      split at h
      · cases h
      · rename_i hl
        cases h
        have hv : validG (gtxt m) = true := by simp [validG, gtxt, ByteArray.size]; omega
        refine ⟨hv, ?_, by simp [gtxt, In64]⟩
        unfold fmtG
        rw [if_pos hv]
        simpa [gtxt] using unquo_some hu
/-- The errors' numbers. -/
theorem parse_err (l : List UInt8) : (parseG l).2 = 0 ∨ (parseG l).1 = gnull ∧ ((parseG l).2 = 4 ∨ (parseG l).2 = 5 ∨ (parseG l).2 = 10) := by
  unfold parseG
  split
  · exact .inl rfl
  split
  · exact .inl rfl
  split
  · exact .inl rfl
  split
  · split
    · exact .inl rfl
    · exact .inr ⟨rfl, .inr (.inr rfl)⟩
  · split
    · exact .inr ⟨rfl, .inr (.inl rfl)⟩
    · split
      · exact .inr ⟨rfl, .inl rfl⟩
      · exact .inl rfl

theorem sep_inj (c : UInt8) : ∀ (a b x y : List UInt8), c ∉ a → c ∉ b → a ++ c :: x = b ++ c :: y → a = b ∧ x = y := by
  intro a
  induction a with
  | nil =>
    intro b x y _ hb h
    cases b with
    | nil => simp at h; exact ⟨rfl, h⟩
    | cons d b => simp at h; exact absurd h.1 (fun e => hb (by simp [e]))
  | cons d a ih =>
    intro b x y ha hb h
    cases b with
    | nil => simp at h; exact absurd h.1.symm (fun e => ha (by simp [e]))
    | cons e b =>
      simp at h
      obtain ⟨h1, h2⟩ := ih b x y (fun hm => ha (List.mem_cons_of_mem _ hm)) (fun hm => hb (List.mem_cons_of_mem _ hm)) h.2
      exact ⟨by rw [h.1, h1], h2⟩
theorem dec_not (u : Nat) (c : UInt8) (hc : digB c = false) : c ∉ decDigits u := fun h => by
  have := List.all_eq_true.1 (dec_all u) c h
  rw [hc] at this; cases this
theorem itoa_not (n : Int) (c : UInt8) (hc : digB c = false) (h45 : c ≠ 45) : c ∉ itoa n := by
  unfold itoa
  split
  · intro h
    rcases List.mem_cons.1 h with h | h
    · exact h45 h
    · exact dec_not _ c hc h
  · exact dec_not _ c hc
theorem dec_inj {a b : Nat} (h : decDigits a = decDigits b) : a = b := by rw [← natFrom_dec a, h, natFrom_dec]
theorem itoa_inj {a b : Int} (h : itoa a = itoa b) : a = b := by
  unfold itoa at h
  split at h <;> split at h
  · simp at h; have := dec_inj h; omega
  · exfalso; have h2 := dec_minus b.toNat; rw [← h] at h2; cases h2
  · exfalso; have h2 := dec_minus a.toNat; rw [h] at h2; cases h2
  · have := dec_inj h; omega
theorem key_step (u v : GVal) (x y : List UInt8) (h : keyOf u ++ x = keyOf v ++ y) : u = v ∧ x = y := by
  obtain ⟨k1, n1, s1⟩ := u
  obtain ⟨k2, n2, s2⟩ := v
  simp only [keyOf, List.append_assoc, List.singleton_append] at h
  obtain ⟨h1, h⟩ := sep_inj 44 _ _ _ _ (itoa_not _ _ (by decide) (by decide)) (itoa_not _ _ (by decide) (by decide)) h
  obtain ⟨h2, h⟩ := sep_inj 44 _ _ _ _ (itoa_not _ _ (by decide) (by decide)) (itoa_not _ _ (by decide) (by decide)) h
  obtain ⟨h3, h⟩ := sep_inj 58 _ _ _ _ (itoa_not _ _ (by decide) (by decide)) (itoa_not _ _ (by decide) (by decide)) h
  have e1 := itoa_inj h1
  have e2 := itoa_inj h2
  have e3 : s1.size = s2.size := by have := itoa_inj h3; omega
  have hl : s1.data.toList.length = s2.data.toList.length := by rw [← Lib.size_eq, ← Lib.size_eq]; exact e3
  obtain ⟨h4, h5⟩ := List.append_inj h hl
  subst e1; subst e2
  refine ⟨?_, h5⟩
  have : s1 = s2 := by rw [← bytes_mk s1, h4, bytes_mk]
  rw [this]
theorem key_ne (v : GVal) : keyOf v ≠ [] := by
  intro h
  simp [keyOf] at h
theorem key_inj (a b : List GVal) : keyL a = keyL b ↔ a = b := by
  constructor
  · induction a generalizing b with
    | nil =>
      intro h
      cases b with
      | nil => rfl
      | cons v b =>
        simp only [keyL, List.flatMap_nil, List.flatMap_cons] at h
        exact absurd (List.append_eq_nil_iff.1 h.symm).1 (key_ne v)
    | cons u a ih =>
      intro h
      cases b with
      | nil =>
        simp only [keyL, List.flatMap_nil, List.flatMap_cons] at h
        exact absurd (List.append_eq_nil_iff.1 h).1 (key_ne u)
      | cons v b =>
        simp only [keyL, List.flatMap_cons] at h
        obtain ⟨rfl, h2⟩ := key_step u v _ _ h
        rw [ih b h2]
  · intro h; rw [h]
end Go.Proofs.YtfmbbfidjcgeiaaGreatDoor

namespace Go.Proofs.YtfmbbfidjcgeiaaGreatDoor
open Go.Shelf Go.RowKit Go.Lib Go.Sort
def sh_laysM171_ren : Go.Shelf.Ren := ⟨fun | 171 => 39 | 243 => 71 | 246 => 72 | 283 => 100 | 284 => 101 | 285 => 102 | 286 => 103 | 129 => 93 | 317 => 131 | 318 => 132 | 319 => 133 | 320 => 134 | 337 => 152 | 338 => 153 | n => n, fun | 3 => 3 | 9 => 9 | 2 => 2 | 4 => 4 | 171 => 172 | 0 => 0 | 53 => 113 | 37 => 90 | 5 => 5 | 173 => 174 | 212 => 199 | 51 => 163 | 20 => 20 | 213 => 200 | 46 => 133 | 232 => 219 | 233 => 220 | n => n, fun | 17 => 2 | 18 => 3 | 19 => 4 | n => n⟩
theorem sh_laysM171 : LaysM.n171 Tryz.prog sh_laysM171_ren := {
  mixed := by kernel_rfl
  f129 := Tryz.func93.trans (congrArg some (by kernel_rfl))
  f171 := Tryz.func39.trans (congrArg some (by kernel_rfl))
  f243 := Tryz.func71.trans (congrArg some (by kernel_rfl))
  f246 := Tryz.func72.trans (congrArg some (by kernel_rfl))
  f283 := Tryz.func100.trans (congrArg some (by kernel_rfl))
  f284 := Tryz.func101.trans (congrArg some (by kernel_rfl))
  f285 := Tryz.func102.trans (congrArg some (by kernel_rfl))
  f286 := Tryz.func103.trans (congrArg some (by kernel_rfl))
  f317 := Tryz.func131.trans (congrArg some (by kernel_rfl))
  f318 := Tryz.func132.trans (congrArg some (by kernel_rfl))
  f319 := Tryz.func133.trans (congrArg some (by kernel_rfl))
  f320 := Tryz.func134.trans (congrArg some (by kernel_rfl))
  f337 := Tryz.func152.trans (congrArg some (by kernel_rfl))
  f338 := Tryz.func153.trans (congrArg some (by kernel_rfl))
  t0 := Tryz.underlying0
  a0 := Tryz.isAgg0
  z0 := Tryz.sizeOf0
  v0 := Tryz.zeroValue0
  t2 := Tryz.underlying2
  a2 := Tryz.isAgg2
  z2 := Tryz.sizeOf2
  v2 := Tryz.zeroValue2
  t3 := Tryz.underlying3
  a3 := Tryz.isAgg3
  z3 := Tryz.sizeOf3
  v3 := Tryz.zeroValue3
  t4 := Tryz.underlying4
  a4 := Tryz.isAgg4
  z4 := Tryz.sizeOf4
  v4 := Tryz.zeroValue4
  t5 := Tryz.underlying5
  a5 := Tryz.isAgg5
  z5 := Tryz.sizeOf5
  v5 := Tryz.zeroValue5
  t9 := Tryz.underlying9
  a9 := Tryz.isAgg9
  z9 := Tryz.sizeOf9
  v9 := Tryz.zeroValue9
  t20 := Tryz.underlying20
  a20 := Tryz.isAgg20
  z20 := Tryz.sizeOf20
  v20 := Tryz.zeroValue20
  t37 := Tryz.underlying90
  a37 := Tryz.isAgg90
  z37 := Tryz.sizeOf90
  v37 := Tryz.zeroValue90
  t46 := Tryz.underlying133
  a46 := Tryz.isAgg133
  z46 := Tryz.sizeOf133
  v46 := Tryz.zeroValue133
  t51 := Tryz.underlying163
  a51 := Tryz.isAgg163
  z51 := Tryz.sizeOf163
  v51 := Tryz.zeroValue163
  t53 := Tryz.underlying113
  a53 := Tryz.isAgg113
  z53 := Tryz.sizeOf113
  v53 := Tryz.zeroValue113
  t171 := Tryz.underlying172
  a171 := Tryz.isAgg172
  z171 := Tryz.sizeOf172
  v171 := Tryz.zeroValue172
  t173 := Tryz.underlying174
  a173 := Tryz.isAgg174
  z173 := Tryz.sizeOf174
  v173 := Tryz.zeroValue174
  t212 := Tryz.underlying199
  a212 := Tryz.isAgg199
  z212 := Tryz.sizeOf199
  v212 := Tryz.zeroValue199
  t213 := Tryz.underlying200
  a213 := Tryz.isAgg200
  z213 := Tryz.sizeOf200
  t232 := Tryz.underlying219
  a232 := Tryz.isAgg219
  z232 := Tryz.sizeOf219
  v232 := Tryz.zeroValue219
  t233 := Tryz.underlying220
  a233 := Tryz.isAgg220
  z233 := Tryz.sizeOf220
  v233 := Tryz.zeroValue220
  g17 := by kernel_rfl
  g18 := by kernel_rfl
  g19 := by kernel_rfl
  i0 := by kernel_rfl
  i2 := by kernel_rfl
  i3 := by kernel_rfl
  i4 := by kernel_rfl
  i5 := by kernel_rfl
  i9 := by kernel_rfl
  i20 := by kernel_rfl
  i37 := by kernel_rfl
  i46 := by kernel_rfl
  i51 := by kernel_rfl
  i53 := by kernel_rfl
  i171 := by kernel_rfl
  i173 := by kernel_rfl
  i212 := by kernel_rfl
  i232 := by kernel_rfl
  i233 := by kernel_rfl
  m17 := by kernel_rfl
  m18 := by kernel_rfl
  m19 := by kernel_rfl }
theorem sh_strconv_Itoa (n : Int) (h0 : -9223372036854775808 ≤ n) (h1 : n ≤ 9223372036854775807) (w : World) (htab : Lib.TabIs Tryz.prog w "internal/strconv.uint64pow10" .u64 Lib.pow10Tab) :
    Calls Tryz.prog 39 #[.int .i64 n] w fun e w' => e = .returned (.string ⟨(Lib.itoa n).toArray⟩) ∧ ∃ k os, w' = grow (w.drewN k) os := Any.strconv_Itoa sh_laysM171 n h0 h1 w htab
def sh_laysM173_ren : Go.Shelf.Ren := ⟨fun | 173 => 40 | 246 => 72 | 283 => 100 | 284 => 101 | 285 => 102 | 286 => 103 | 129 => 93 | 317 => 131 | 318 => 132 | 319 => 133 | 320 => 134 | 337 => 152 | 338 => 153 | n => n, fun | 2 => 2 | 3 => 3 | 9 => 9 | 4 => 4 | 171 => 172 | 0 => 0 | 53 => 113 | 37 => 90 | 5 => 5 | 173 => 174 | 212 => 199 | 51 => 163 | 20 => 20 | 213 => 200 | 46 => 133 | 232 => 219 | 233 => 220 | n => n, fun | 17 => 2 | 18 => 3 | 19 => 4 | n => n⟩
theorem sh_laysM173 : LaysM.n173 Tryz.prog sh_laysM173_ren := {
  mixed := by kernel_rfl
  f129 := Tryz.func93.trans (congrArg some (by kernel_rfl))
  f173 := Tryz.func40.trans (congrArg some (by kernel_rfl))
  f246 := Tryz.func72.trans (congrArg some (by kernel_rfl))
  f283 := Tryz.func100.trans (congrArg some (by kernel_rfl))
  f284 := Tryz.func101.trans (congrArg some (by kernel_rfl))
  f285 := Tryz.func102.trans (congrArg some (by kernel_rfl))
  f286 := Tryz.func103.trans (congrArg some (by kernel_rfl))
  f317 := Tryz.func131.trans (congrArg some (by kernel_rfl))
  f318 := Tryz.func132.trans (congrArg some (by kernel_rfl))
  f319 := Tryz.func133.trans (congrArg some (by kernel_rfl))
  f320 := Tryz.func134.trans (congrArg some (by kernel_rfl))
  f337 := Tryz.func152.trans (congrArg some (by kernel_rfl))
  f338 := Tryz.func153.trans (congrArg some (by kernel_rfl))
  t0 := Tryz.underlying0
  a0 := Tryz.isAgg0
  z0 := Tryz.sizeOf0
  v0 := Tryz.zeroValue0
  t2 := Tryz.underlying2
  a2 := Tryz.isAgg2
  z2 := Tryz.sizeOf2
  v2 := Tryz.zeroValue2
  t3 := Tryz.underlying3
  a3 := Tryz.isAgg3
  z3 := Tryz.sizeOf3
  v3 := Tryz.zeroValue3
  t4 := Tryz.underlying4
  a4 := Tryz.isAgg4
  z4 := Tryz.sizeOf4
  v4 := Tryz.zeroValue4
  t5 := Tryz.underlying5
  a5 := Tryz.isAgg5
  z5 := Tryz.sizeOf5
  v5 := Tryz.zeroValue5
  t9 := Tryz.underlying9
  a9 := Tryz.isAgg9
  z9 := Tryz.sizeOf9
  v9 := Tryz.zeroValue9
  t20 := Tryz.underlying20
  a20 := Tryz.isAgg20
  z20 := Tryz.sizeOf20
  v20 := Tryz.zeroValue20
  t37 := Tryz.underlying90
  a37 := Tryz.isAgg90
  z37 := Tryz.sizeOf90
  v37 := Tryz.zeroValue90
  t46 := Tryz.underlying133
  a46 := Tryz.isAgg133
  z46 := Tryz.sizeOf133
  v46 := Tryz.zeroValue133
  t51 := Tryz.underlying163
  a51 := Tryz.isAgg163
  z51 := Tryz.sizeOf163
  v51 := Tryz.zeroValue163
  t53 := Tryz.underlying113
  a53 := Tryz.isAgg113
  z53 := Tryz.sizeOf113
  v53 := Tryz.zeroValue113
  t171 := Tryz.underlying172
  a171 := Tryz.isAgg172
  z171 := Tryz.sizeOf172
  v171 := Tryz.zeroValue172
  t173 := Tryz.underlying174
  a173 := Tryz.isAgg174
  z173 := Tryz.sizeOf174
  v173 := Tryz.zeroValue174
  t212 := Tryz.underlying199
  a212 := Tryz.isAgg199
  z212 := Tryz.sizeOf199
  v212 := Tryz.zeroValue199
  t213 := Tryz.underlying200
  a213 := Tryz.isAgg200
  z213 := Tryz.sizeOf200
  t232 := Tryz.underlying219
  a232 := Tryz.isAgg219
  z232 := Tryz.sizeOf219
  v232 := Tryz.zeroValue219
  t233 := Tryz.underlying220
  a233 := Tryz.isAgg220
  z233 := Tryz.sizeOf220
  v233 := Tryz.zeroValue220
  g17 := by kernel_rfl
  g18 := by kernel_rfl
  g19 := by kernel_rfl
  i0 := by kernel_rfl
  i2 := by kernel_rfl
  i3 := by kernel_rfl
  i4 := by kernel_rfl
  i5 := by kernel_rfl
  i9 := by kernel_rfl
  i20 := by kernel_rfl
  i37 := by kernel_rfl
  i46 := by kernel_rfl
  i51 := by kernel_rfl
  i53 := by kernel_rfl
  i171 := by kernel_rfl
  i173 := by kernel_rfl
  i212 := by kernel_rfl
  i232 := by kernel_rfl
  i233 := by kernel_rfl
  m17 := by kernel_rfl
  m18 := by kernel_rfl
  m19 := by kernel_rfl }
theorem sh_strconv_FormatInt_10 (n : Int) (h0 : -9223372036854775808 ≤ n) (h1 : n ≤ 9223372036854775807) (w : World) (htab : Lib.TabIs Tryz.prog w "internal/strconv.uint64pow10" .u64 Lib.pow10Tab) :
    Calls Tryz.prog 40 #[.int .i64 n, .int .i64 10] w fun e w' => e = .returned (.string ⟨(Lib.itoa n).toArray⟩) ∧ ∃ k os, w' = grow (w.drewN k) os := Any.strconv_FormatInt_10 sh_laysM173 n h0 h1 w htab
end Go.Proofs.YtfmbbfidjcgeiaaGreatDoor
