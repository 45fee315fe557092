/- A part of the proofs: ShBlw, Key, Rky, Tlk, Gap, Nrp, MapS, ShSt, Cmt, Nrm, Avr, Snc, Gag, TrE. No condition beside sizes and tables that read as laid. -/
import Derived.Shelf.Strings.Builder1
import Derived.Shelf.Strings.BuilderF
import Derived.Shelf.Strings.BuilderK
import Derived.Test.YtfmbbfidjcgeiaaGreatDoorProg
import Derived.Test.YtfmbbfidjcgeiaaGreatDoorMgAe
import Derived.Test.YtfmbbfidjcgeiaaGreatDoorMgAb
import Derived.Lib.SmallJoins
import Derived.Lib.AppendIntMem
import Derived.Test.YtfmbbfidjcgeiaaGreatDoorMgAa
import Derived.Test.YtfmbbfidjcgeiaaGreatDoorMgAc
import Derived.Maps.OwnSet
import Derived.Maps.OwnOps
import Derived.Maps.RangeWalk
import Derived.Maps.Views
import Derived.Shelf.SlLaysF0
import Derived.Shelf.SlSortCmp.NoneTotal
namespace Go.Proofs.YtfmbbfidjcgeiaaGreatDoor
open Go.Shelf Go.RowKit

def bldRen : Go.Shelf.Ren := ⟨fun | 240 => 70 | 276 => 99 | 166 => 38 | 169 => 41 | n => n, fun | 0 => 0 | 3 => 3 | 4 => 4 | 5 => 5 | 9 => 9 | 20 => 20 | 37 => 90 | 70 => 89 | 72 => 92 | 75 => 94 | 80 => 99 | 164 => 170 | 127 => 139 | n => n, fun | n => n⟩
theorem bldLays240 : Lays.n240 Tryz.prog bldRen := {
  mixed := by kernel_rfl
  f240 := Tryz.func70.trans (congrArg some (by kernel_rfl))
  f276 := Tryz.func99.trans (congrArg some (by kernel_rfl))
  t0 := Tryz.underlying0
  a0 := Tryz.isAgg0
  z0 := Tryz.sizeOf0
  v0 := Tryz.zeroValue0
  t4 := Tryz.underlying4
  a4 := Tryz.isAgg4
  z4 := Tryz.sizeOf4
  v4 := Tryz.zeroValue4
  t9 := Tryz.underlying9
  a9 := Tryz.isAgg9
  z9 := Tryz.sizeOf9
  v9 := Tryz.zeroValue9
  t20 := Tryz.underlying20
  a20 := Tryz.isAgg20
  z20 := Tryz.sizeOf20
  v20 := Tryz.zeroValue20
  t70 := Tryz.underlying89
  a70 := Tryz.isAgg89
  z70 := Tryz.sizeOf89
  v70 := Tryz.zeroValue89
  t72 := Tryz.underlying92
  a72 := Tryz.isAgg92
  z72 := Tryz.sizeOf92
  v72 := Tryz.zeroValue92
  t164 := Tryz.underlying170
  a164 := Tryz.isAgg170
  z164 := Tryz.sizeOf170
  v164 := Tryz.zeroValue170 }
theorem bldLays166 : Lays.n166 Tryz.prog bldRen := {
  mixed := by kernel_rfl
  f166 := Tryz.func38.trans (congrArg some (by kernel_rfl))
  f240 := Tryz.func70.trans (congrArg some (by kernel_rfl))
  f276 := Tryz.func99.trans (congrArg some (by kernel_rfl))
  t0 := Tryz.underlying0
  a0 := Tryz.isAgg0
  z0 := Tryz.sizeOf0
  v0 := Tryz.zeroValue0
  t3 := Tryz.underlying3
  a3 := Tryz.isAgg3
  z3 := Tryz.sizeOf3
  v3 := Tryz.zeroValue3
  t4 := Tryz.underlying4
  a4 := Tryz.isAgg4
  z4 := Tryz.sizeOf4
  v4 := Tryz.zeroValue4
  t9 := Tryz.underlying9
  a9 := Tryz.isAgg9
  z9 := Tryz.sizeOf9
  v9 := Tryz.zeroValue9
  t20 := Tryz.underlying20
  a20 := Tryz.isAgg20
  z20 := Tryz.sizeOf20
  v20 := Tryz.zeroValue20
  t37 := Tryz.underlying90
  a37 := Tryz.isAgg90
  z37 := Tryz.sizeOf90
  v37 := Tryz.zeroValue90
  t70 := Tryz.underlying89
  a70 := Tryz.isAgg89
  z70 := Tryz.sizeOf89
  v70 := Tryz.zeroValue89
  t72 := Tryz.underlying92
  a72 := Tryz.isAgg92
  z72 := Tryz.sizeOf92
  v72 := Tryz.zeroValue92
  t75 := Tryz.underlying94
  a75 := Tryz.isAgg94
  z75 := Tryz.sizeOf94
  v75 := Tryz.zeroValue94
  t164 := Tryz.underlying170
  a164 := Tryz.isAgg170
  z164 := Tryz.sizeOf170
  v164 := Tryz.zeroValue170 }
theorem bldLays169 : Lays.n169 Tryz.prog bldRen := {
  mixed := by kernel_rfl
  f169 := Tryz.func41.trans (congrArg some (by kernel_rfl))
  t0 := Tryz.underlying0
  a0 := Tryz.isAgg0
  z0 := Tryz.sizeOf0
  v0 := Tryz.zeroValue0
  t3 := Tryz.underlying3
  a3 := Tryz.isAgg3
  z3 := Tryz.sizeOf3
  v3 := Tryz.zeroValue3
  t9 := Tryz.underlying9
  a9 := Tryz.isAgg9
  z9 := Tryz.sizeOf9
  v9 := Tryz.zeroValue9
  t37 := Tryz.underlying90
  a37 := Tryz.isAgg90
  z37 := Tryz.sizeOf90
  v37 := Tryz.zeroValue90
  t70 := Tryz.underlying89
  a70 := Tryz.isAgg89
  z70 := Tryz.sizeOf89
  v70 := Tryz.zeroValue89
  t72 := Tryz.underlying92
  a72 := Tryz.isAgg92
  z72 := Tryz.sizeOf92
  v72 := Tryz.zeroValue92
  t127 := Tryz.underlying139
  a127 := Tryz.isAgg139
  z127 := Tryz.sizeOf139
  v127 := Tryz.zeroValue139 }
theorem bldX72 : Builder.X72 Tryz.prog bldRen := {
  sizeBuilder := by kernel_rfl
  liesBuilder := by kernel_rfl }
theorem bldExtra : Builder.Extra Tryz.prog bldRen := {
  sizeBuilder := by kernel_rfl
  liesBuilder := by kernel_rfl
  t5 := Tryz.underlying5
  a5 := Tryz.isAgg5
  z5 := Tryz.sizeOf5
  v5 := Tryz.zeroValue5
  infoByte := by kernel_rfl
  cellsByte := by kernel_rfl
  sizeByte := by kernel_rfl
  neB5 := by decide }
/-- A strings.Builder at block b that the call has made (its blocks: from B on), holding these bytes. -/
abbrev Bld (B b : Nat) (bs : List Value) (w : World) : Prop := Lib.IsBuilderF 92 5 B b bs w
/-- Every block but b that is no row of bytes stands as it stood. -/
abbrev BKept (b : Nat) (w w' : World) : Prop := Lib.OthersKept 5 (some b) w w'
theorem bld_fresh (w : World) : Bld w.heap.size w.heap.size [] (w.alloc (.cells #[.pointer none, .slice none 0 0] 92)) := Lib.IsBuilderF.of (Lib.fresh_isBuilder _ _ w)
theorem bld_WriteString (B b : Nat) (bs : List Value) (s : ByteArray) (w : World) (h : Bld B b bs w) (hlen : bs.length + s.size ≤ 140737488355328) (hBw : B ≤ w.heap.size) :
    Calls Tryz.prog 38 #[.pointer (some ⟨b, 0, none⟩), .string s] w fun e w' => e = .returned (.tuple #[.int .i64 s.size, .nilIface]) ∧ Bld B b (bs ++ Lib.strCells s) w' ∧ Below B w w' ∧ BKept b w w' :=
  (Any.Builder_WriteString_k bldLays166 bldExtra B b bs s w h hlen hBw).mono fun _ _ ⟨h1, h2, h3, h4⟩ => ⟨h1, .inr h2, h3, h4⟩
theorem bld_String (B b : Nat) (l : List UInt8) (w : World) (h : Bld B b (Lib.byteCells l) w) (hBw : B ≤ w.heap.size) :
    Calls Tryz.prog 41 #[.pointer (some ⟨b, 0, none⟩)] w fun e w' => e = .returned (.string ⟨l.toArray⟩) ∧ Below B w w' :=
  (Any.Builder_String_any_k bldLays169 bldExtra B b l w h hBw).mono fun _ _ ⟨h1, _, h3, _⟩ => ⟨h1, h3⟩
theorem bld_lt {B b : Nat} {bs : List Value} {w : World} (h : Bld B b bs w) : b < w.heap.size := by
  rcases h with ⟨_, v, h, _⟩ | ⟨_, v, h, _⟩ <;> exact (Array.getElem?_eq_some_iff.1 h).1
theorem strCells_mk (l : List UInt8) : Lib.strCells ⟨l.toArray⟩ = Lib.byteCells l := by simp [Lib.strCells, Lib.byteCells]
theorem byteCells_append (l m : List UInt8) : Lib.byteCells (l ++ m) = Lib.byteCells l ++ Lib.byteCells m := by simp [Lib.byteCells]
theorem byteCells_snoc (l : List UInt8) (c : UInt8) : Lib.byteCells (l ++ [c]) = Lib.byteCells l ++ [.int .u8 c.toNat] := by simp [Lib.byteCells]
theorem byteCells_length (l : List UInt8) : (Lib.byteCells l).length = l.length := by simp [Lib.byteCells]
theorem bytes_append (l m : List UInt8) : (ByteArray.mk l.toArray) ++ (ByteArray.mk m.toArray) = ByteArray.mk (l ++ m).toArray := by
  apply ByteArray.ext
  simp
/-- A builder stays one while nothing below the heap's end turns. -/
theorem bld_below {B b : Nat} {bs : List Value} {w w' : World} (h : Bld B b bs w) (hb : Below w.heap.size w w') : Bld B b bs w' := by
  have key : ∀ p, Lib.BuilderAtF 92 5 B b p bs w → Lib.BuilderAtF 92 5 B b p bs w' := by
    intro p ⟨h1, v, h2, h3, h4⟩
    refine ⟨h1, v, ?_, ?_, h4⟩
    · rw [hb.block b (Array.getElem?_eq_some_iff.1 h2).1]; exact h2
    · refine ⟨h3.1, ?_⟩
      rcases h3.2 with h5 | ⟨g, cap, cur, fz, hv, hg, hh, r⟩
      · exact .inl h5
      · exact .inr ⟨g, cap, cur, fz, hv, hg, by rw [hb.block g (Array.getElem?_eq_some_iff.1 hh).1]; exact hh, r⟩
  rcases h with h | h
  · exact .inl (key _ h)
  · exact .inr (key _ h)
end Go.Proofs.YtfmbbfidjcgeiaaGreatDoor

namespace Go.Proofs.YtfmbbfidjcgeiaaGreatDoor
open Go.RowKit

/-- The library's table of powers of ten reads as laid. -/
def Pow (w : World) : Prop := Lib.TabIs Tryz.prog w "internal/strconv.uint64pow10" .u64 Lib.pow10Tab
theorem pow_named : Tryz.prog.globalNamed "internal/strconv.uint64pow10" = some 2 := by kernel_rfl
theorem Pow.below {w w' : World} (h : Pow w) (hb : Below w.heap.size w w') : Pow w' := Go.Joins.tab_stays pow_named h hb (Nat.le_refl _)
theorem Pow.keep {w w' : World} (h : Pow w) (hb : Below w.heap.size w w') : Pow w' := h.below hb
theorem pow_drew {w : World} (h : Pow w) : Pow w.drew := h.below (Below.refl _ _).drew
theorem fmtInt_pow (n : Int) (h : In64 n) (w : World) (ht : Pow w) : Calls Tryz.prog 40 #[.int .i64 n, .int .i64 10] w fun e w' => e = .returned (.string ⟨(Lib.itoa n).toArray⟩) ∧ Below w.heap.size w w' :=
  (sh_strconv_FormatInt_10 n h.1 h.2 w ht).mono fun _ _ ⟨h1, k, os, h2⟩ => ⟨h1, by rw [h2]; exact Lib.below_grow _ _ (Nat.le_refl _) _ _⟩
theorem itoa_pow (n : Int) (h : In64 n) (w : World) (ht : Pow w) : Calls Tryz.prog 39 #[.int .i64 n] w fun e w' => e = .returned (.string ⟨(Lib.itoa n).toArray⟩) ∧ Below w.heap.size w w' :=
  (sh_strconv_Itoa n h.1 h.2 w ht).mono fun _ _ ⟨h1, k, os, h2⟩ => ⟨h1, by rw [h2]; exact Lib.below_grow _ _ (Nat.le_refl _) _ _⟩
theorem app_bytes (l m : List UInt8) : (ByteArray.mk l.toArray) ++ (ByteArray.mk m.toArray) = ByteArray.mk (l ++ m).toArray := by
  apply ByteArray.ext
  simp
set_option maxHeartbeats 4000000 in
theorem val_at3 {w : World} {G : Nat → Prop} {a : Option Addr} {n c k : Nat} {l : List GVal} {x : GVal} (h : Sl valE w G (.slice a n c) l) (hk : l[k]? = some x) :
    ∃ b o, a = some ⟨b, o, none⟩ ∧ w.cell? ⟨b, o + k * 3, none⟩ = some (.int .i64 x.kind) ∧ w.cell? ⟨b, o + k * 3 + 1, none⟩ = some (.int .i64 x.n) ∧ w.cell? ⟨b, o + k * 3 + 2, none⟩ = some (.string x.s) := by
  obtain ⟨b, o, cs, ha, rfl, hc⟩ := Sl.at h hk
  exact ⟨b, o, ha, hc 0 _ rfl, hc 1 _ rfl, hc 2 _ rfl⟩
theorem bld_alloc {B b : Nat} {bs : List Value} {w : World} {o : Obj} (h : Bld B b bs w) : Bld B b bs (w.alloc o) := bld_below h (below_alloc _ _)
theorem bld_drew {B b : Nat} {bs : List Value} {w : World} (h : Bld B b bs w) : Bld B b bs w.drew := bld_below h (Below.refl _ _).drew
theorem bld_keep {B b : Nat} {bs : List Value} {w w' : World} (h : Bld B b bs w) (hb : Below w.heap.size w w') : Bld B b bs w' := bld_below h hb
theorem bkept_box {b g : Nat} {w w' : World} {c : Array Value} {t : TypeId} {fz : Nat × Nat} (hk : BKept b w w') (h : w.heap[g]? = some (.cells c t fz)) (hg : g ≠ b) (ht : t ≠ 5) : w'.heap[g]? = some (.cells c t fz) :=
  hk g _ h (fun e => hg (by cases e; rfl)) (fun c' fz' e => ht (by cases e; rfl))
theorem below_tr {B : Nat} {w W w' : World} (h : Below B w W) (hb : Below B W w') : Below B w w' := h.trans hb
theorem box_drew {w : World} {g : Nat} {o : Obj} (h : w.heap[g]? = some o) : w.drew.heap[g]? = some o := h
def keyBytes (v : GVal) : ByteArray := ⟨(keyOf v).toArray⟩
theorem keyBytes_eq (v : GVal) : keyBytes v = (ByteArray.mk (Lib.itoa v.kind).toArray) ++ (ByteArray.mk #[44]) ++ (ByteArray.mk (Lib.itoa v.n).toArray) ++ (ByteArray.mk #[44]) ++ (ByteArray.mk (Lib.itoa v.s.size).toArray) ++ (ByteArray.mk #[58]) ++ v.s := by
  rw [show v.s = ByteArray.mk v.s.data.toList.toArray from (bytes_mk v.s).symm, show (ByteArray.mk #[44]) = ByteArray.mk [44].toArray from rfl, show (ByteArray.mk #[58]) = ByteArray.mk [58].toArray from rfl]
  simp only [app_bytes, keyBytes, keyOf]
theorem keyOf_length (v : GVal) (hk : In64 v.kind) (hn : In64 v.n) (hs : v.s.size ≤ 9223372036854775807) : (keyOf v).length ≤ 70 + v.s.size := by
  have h1 := Lib.itoa_length_le v.kind hk.1 hk.2
  have h2 := Lib.itoa_length_le v.n hn.1 hn.2
  have h3 := Lib.itoa_length_le v.s.size (by omega) (by omega)
  have h4 := Lib.size_eq v.s
  simp only [keyOf, List.length_append, List.length_singleton]
  omega
theorem key_at_le (l : List GVal) : ∀ (k : Nat) (x : GVal), l[k]? = some x → x.s.size ≤ (keyL l).length ∧ (keyL (l.take k)).length + (keyOf x).length ≤ (keyL l).length := by
  intro k x h
  have e : keyL l = keyL (l.take k) ++ keyOf x ++ keyL (l.drop (k + 1)) := by
    have h1 : l = l.take k ++ (x :: l.drop (k + 1)) := by rw [← drop_get h, List.take_append_drop]
    conv => lhs; rw [h1]
    simp [keyL, List.flatMap_append]
  have h2 : x.s.size ≤ (keyOf x).length := by
    have := Lib.size_eq x.s
    simp only [keyOf, List.length_append, List.length_singleton]
    omega
  rw [e, List.length_append, List.length_append]
  omega
set_option maxHeartbeats 4000000 in
set_option maxRecDepth 100000 in
theorem key_any (v : Value) (l : List GVal) (w : World) (hv : Sl valE w free v l) (hk : ∀ x ∈ l, In64 x.kind ∧ In64 x.n ∧ x.s.size ≤ maxLen) (hlen : (keyL l).length ≤ 140737488355328) (hT : Pow w) :
    Calls Tryz.prog 17 #[v] w fun e w' => e = .returned (.string ⟨(keyL l).toArray⟩) ∧ Below w.heap.size w w' := by
  obtain ⟨a1, c1, rfl⟩ := hv.shape
  have h63 := hv.1
  have HV := Lib.hid hv
  have HT := Lib.hid hT
  have HK := Lib.hid hk
  have HL := Lib.hid hlen
  obtain ⟨n, hn⟩ : ∃ n, n = l.length := ⟨_, rfl⟩
  have HN := Lib.hid hn
  rw [← hn] at HV h63 ⊢
  clear hv hn hT hk hlen
  go_enter Tryz.func17, Tryz.ntmps17
  go_wp2_with fail
  go_loopw [8] (fun i wr => ∃ k : Nat, k ≤ n ∧ i = .int .i64 k ∧ Hid (Bld w.heap.size w.heap.size (Lib.byteCells (keyL (l.take k))) wr) ∧ Hid (Below w.heap.size w wr)) (fun i _ => n - (intOf i).toNat)
  case atStart => exact ⟨0, Nat.zero_le _, rfl, Lib.hid (bld_fresh w), Lib.hid (below_alloc _ _)⟩
  case round =>
    obtain ⟨k, hk, rfl, HBl, HB⟩ := hrel
    obtain ⟨wo, rfl⟩ : ∃ wo : World, wo = wr := ⟨_, rfl⟩
    by_cases hlt : k < n
    · obtain ⟨x, hx⟩ := lget_some l k (by rw [← HN.out]; exact hlt)
      obtain ⟨b, o, rfl, p0, p1, p2⟩ := val_at3 (HV.out.below HB.out) hx
      have hxm := HK.out x (List.mem_of_getElem? hx)
      have HX := Lib.hid hx
      have hzo := HB.out.size
      obtain ⟨kk, kn, ks⟩ := x
      dsimp only at hxm p0 p1 p2
      have hks : ks.size ≤ 9223372036854775807 := by have := hxm.2.2; unfold maxLen at this; omega
      have HXM := Lib.hid hxm
      clear hx hxm
      have hkk := HXM.out.1
      have hkn := HXM.out.2.1
      have hsz : In64 (ks.size : Int) := by unfold In64; omega
      have hl1 := Lib.itoa_length_le kk hkk.1 hkk.2
      have hl2 := Lib.itoa_length_le kn hkn.1 hkn.2
      have hl3 := Lib.itoa_length_le (ks.size : Int) hsz.1 hsz.2
      have hl4 : ks.size ≤ 140737488355328 := by
        have h1 := key_at_le l k _ HX.out
        have h2 := HL.out
        dsimp only at h1
        omega
      have j1 : ¬ 9223372036854775807 < (Lib.itoa kk).length + 1 := by omega
      have j2 : ¬ 9223372036854775807 < (Lib.itoa kk).length + 1 + (Lib.itoa kn).length := by omega
      have j3 : ¬ 9223372036854775807 < (Lib.itoa kk).length + 1 + (Lib.itoa kn).length + 1 := by omega
      have j4 : ¬ 9223372036854775807 < (Lib.itoa kk).length + 1 + (Lib.itoa kn).length + 1 + (Lib.itoa (ks.size : Int)).length := by omega
      have j5 : ¬ 9223372036854775807 < (Lib.itoa kk).length + 1 + (Lib.itoa kn).length + 1 + (Lib.itoa (ks.size : Int)).length + 1 := by omega
      have j6 : ¬ 9223372036854775807 < (Lib.itoa kk).length + 1 + (Lib.itoa kn).length + 1 + (Lib.itoa (ks.size : Int)).length + 1 + ks.size := by omega
      have hT0 := HT.out.below (below_alloc_keep (o := .cells #[.int .i64 kk, .int .i64 kn, .string ks] 40) HB.out)
      have hB0 := below_alloc_keep (o := .cells #[.int .i64 kk, .int .i64 kn, .string ks] 40) HB.out
      obtain ⟨⟨c0, c1, c2⟩, _⟩ := box_three (heap_alloc_new wo (.cells #[.int .i64 kk, .int .i64 kn, .string ks] 40))
      have hL0 := bld_alloc (o := .cells #[.int .i64 kk, .int .i64 kn, .string ks] 40) HBl.out
      go_wp2_with fail
      have hX0 := heap_alloc_new wo (.cells #[.int .i64 kk, .int .i64 kn, .string ks] 40)
      have hne : wo.heap.size ≠ w.heap.size := by have := bld_lt HBl.out; omega
      have HW : ∀ W : World, Hid (Bld w.heap.size w.heap.size (Lib.byteCells (keyL (l.take k))) W → w.heap.size ≤ W.heap.size → Calls Tryz.prog 38 #[.pointer (some ⟨w.heap.size, 0, none⟩), .string ((ByteArray.mk (Lib.itoa kk).toArray) ++ (ByteArray.mk #[44]) ++ (ByteArray.mk (Lib.itoa kn).toArray) ++ (ByteArray.mk #[44]) ++ (ByteArray.mk (Lib.itoa ks.size).toArray) ++ (ByteArray.mk #[58]) ++ ks)] W fun e w' =>
          e = .returned (.tuple #[.int .i64 ((keyBytes ⟨kk, kn, ks⟩).size : Int), .nilIface]) ∧ Bld w.heap.size w.heap.size (Lib.byteCells (keyL (l.take (k + 1)))) w' ∧ Below w.heap.size W w' ∧ BKept w.heap.size W w') := fun W hL hz => by
        have h1 := keyBytes_eq ⟨kk, kn, ks⟩
        have h2 := key_at_le l k _ HX.out
        have h3 := HL.out
        have h4 : (keyBytes ⟨kk, kn, ks⟩).size = (keyOf ⟨kk, kn, ks⟩).length := by simp [keyBytes, ByteArray.size]
        have h5 : (Lib.byteCells (keyL (l.take k))).length = (keyL (l.take k)).length := by simp [Lib.byteCells]
        dsimp only at h1
        rw [← h1]
        refine (bld_WriteString _ _ _ _ _ hL (by omega) hz).mono ?_
        rintro e w' ⟨h6, h7, h8, h9⟩
        refine ⟨h6, ?_, h8, h9⟩
        have h10 : keyL (l.take (k + 1)) = keyL (l.take k) ++ keyOf ⟨kk, kn, ks⟩ := by rw [take_get HX.out]; simp [keyL, List.flatMap_append]
        rw [h10, byteCells_append, ← strCells_mk (keyOf _)]
        exact h7
      go_region_held3 (fun W => Below w.heap.size w W ∧ Pow W ∧ W.heap[wo.heap.size]? = some (.cells #[.int .i64 kk, .int .i64 kn, .string ks] 40) ∧ W.cell? ⟨wo.heap.size, 0, none⟩ = some (.int .i64 kk) ∧ W.cell? ⟨wo.heap.size, 1, none⟩ = some (.int .i64 kn) ∧ W.cell? ⟨wo.heap.size, 2, none⟩ = some (.string ks))
        ((go_split_ands; refine ⟨?_, ?_, ?_, ?_, ?_, ?_⟩ <;> first | (with_reducible assumption) | with_reducible exact Below.drew (by assumption) | with_reducible exact pow_drew (by assumption) | with_reducible exact box_drew (by assumption) | with_reducible exact cell_drew (by assumption) | with_reducible exact below_keep (by assumption) (by assumption) | with_reducible exact Pow.keep (by assumption) (by assumption) | with_reducible exact box_kept (by assumption) (by assumption) | with_reducible exact cell_keep (by assumption) (by assumption)))
        (first
          | (go_at_call 39; go_split_ands; refine (itoa_pow _ (by assumption) _ (by assumption)).mono ?_; rintro e w' ⟨rfl, hb⟩; have hL := bld_keep (by first | assumption | exact bld_drew (by assumption)) hb)
          | (go_at_call 40; go_split_ands; refine (fmtInt_pow _ (by assumption) _ (by assumption)).mono ?_; rintro e w' ⟨rfl, hb⟩; have hL := bld_keep (by first | assumption | exact bld_drew (by assumption)) hb)
          | (go_at_call 38; go_split_ands; refine ((HW _).out (by first | assumption | exact bld_drew (by assumption)) (Below.size (by assumption))).mono ?_; rintro e w4 ⟨rfl, hL4, hb4, hk4⟩; have hB4 := below_tr (by assumption) hb4; have hT4 := HT.out.below hB4; have hX4 := bkept_box hk4 (by assumption) hne (by decide); obtain ⟨⟨e0, e1, e2⟩, _⟩ := box_three hX4))
      all_goals
        have HL4 := Lib.hid hL4
        have HB4 := Lib.hid hB4
        clear hL4 hB4 hb4 hk4 hT4 hX4 e0 e1 e2 HW
        go_wp2_with fail
        go_roundw
        case rel => exact ⟨k + 1, by omega, by go_num, HL4, HB4⟩
        case measure => simp [intOf]; omega
    · have hkn : k = n := by omega
      subst hkn
      have hz := HB.out.size
      have HS : Hid (keyL (l.take k) = keyL l) := by rw [List.take_of_length_le (by rw [← HN.out]; exact Nat.le_refl _)]; exact Lib.hid rfl
      go_wp2_with (go_at_call 41; refine (bld_String _ _ _ _ HBl.out hz).mono ?_; rintro e w' ⟨rfl, hw⟩)
      go_ret
      rw [HS.out]
      exact ⟨rfl, HB.out.trans hw⟩
/-- The key of a row. -/
def linKey (l : List Int) : List UInt8 := l.flatMap fun i => 44 :: Lib.itoa i
def rowKeyL (r : GRow) : List UInt8 := Lib.itoa r.vals.length ++ [59] ++ keyL r.vals ++ linKey r.lin
theorem linKey_snoc (l : List Int) (x : Int) : linKey (l ++ [x]) = linKey l ++ (44 :: Lib.itoa x) := by unfold linKey; rw [List.flatMap_append]; simp
theorem linKey_end (l : List Int) : ∃ h, linKey l ++ [44] = 44 :: h := by cases l with
  | nil => exact ⟨[], rfl⟩
  | cons x l => exact ⟨Lib.itoa x ++ linKey l ++ [44], by simp [linKey]⟩
theorem linKey_inj : ∀ (a b : List Int), linKey a = linKey b → a = b
  | [], [], _ => rfl
  | [], y :: b, h => by simp [linKey] at h
  | x :: a, [], h => by simp [linKey] at h
  | x :: a, y :: b, h => by
    have h1 : (Lib.itoa x ++ linKey a) ++ [44] = (Lib.itoa y ++ linKey b) ++ [44] := by
      have : Lib.itoa x ++ linKey a = Lib.itoa y ++ linKey b := by
        have h2 : (44 :: (Lib.itoa x ++ linKey a)) = 44 :: (Lib.itoa y ++ linKey b) := by simpa [linKey] using h
        exact (List.cons.inj h2).2
      rw [this]
    obtain ⟨p, hp⟩ := linKey_end a
    obtain ⟨q, hq⟩ := linKey_end b
    rw [List.append_assoc, List.append_assoc, hp, hq] at h1
    obtain ⟨h2, h3⟩ := sep_inj 44 _ _ _ _ (itoa_not _ _ (by decide) (by decide)) (itoa_not _ _ (by decide) (by decide)) h1
    have h4 : linKey a = linKey b := List.append_cancel_right (bs := [44]) (by rw [hp, hq, h3])
    rw [itoa_inj h2, linKey_inj a b h4]
theorem keyL_split : ∀ (a b : List GVal) (x y : List UInt8), a.length = b.length → keyL a ++ x = keyL b ++ y → a = b ∧ x = y
  | [], [], x, y, _, h => ⟨rfl, by simpa [keyL] using h⟩
  | [], v :: b, x, y, hl, _ => by simp at hl
  | u :: a, [], x, y, hl, _ => by simp at hl
  | u :: a, v :: b, x, y, hl, h => by
    simp only [keyL, List.flatMap_cons, List.append_assoc] at h
    obtain ⟨rfl, h2⟩ := key_step u v _ _ h
    obtain ⟨rfl, h3⟩ := keyL_split a b x y (by simpa using hl) h2
    exact ⟨rfl, h3⟩
theorem rowKey_inj {a b : GRow} (h : rowKeyL a = rowKeyL b) : a = b := by
  obtain ⟨v1, l1⟩ := a
  obtain ⟨v2, l2⟩ := b
  unfold rowKeyL at h
  dsimp only at h
  simp only [List.append_assoc, List.singleton_append] at h
  obtain ⟨h1, h2⟩ := sep_inj 59 _ _ _ _ (itoa_not _ _ (by decide) (by decide)) (itoa_not _ _ (by decide) (by decide)) h
  have h3 := itoa_inj h1
  obtain ⟨rfl, h4⟩ := keyL_split v1 v2 _ _ (by omega) h2
  rw [linKey_inj _ _ h4]
theorem linKey_length {l : List Int} (h : ∀ x ∈ l, In64 x) : (linKey l).length ≤ 30 * l.length := by
  induction l with
  | nil => simp [linKey]
  | cons x l ih =>
    have h1 := ih fun y hy => h y (.tail _ hy)
    have h2 := Lib.itoa_length_le x (h x (.head _)).1 (h x (.head _)).2
    have e : linKey (x :: l) = 44 :: (Lib.itoa x ++ linKey l) := by simp [linKey]
    rw [e, List.length_cons, List.length_append, List.length_cons]
    omega
theorem itoa_le {n : Int} (h : In64 n) : (Lib.itoa n).length ≤ 21 := Lib.itoa_length_le n h.1 h.2
end Go.Proofs.YtfmbbfidjcgeiaaGreatDoor

namespace Go.Proofs.YtfmbbfidjcgeiaaGreatDoor
open Go.RowKit

/-- Rows whose keys a machine can hold. -/
structure Keyable (r : GRow) : Prop where
  vals : ∀ x ∈ r.vals, In64 x.kind ∧ In64 x.n ∧ x.s.size ≤ maxLen
  lin : ∀ x ∈ r.lin, In64 x
  nv : r.vals.length ≤ 1000
  nl : r.lin.length ≤ 1000
  key : (keyL r.vals).length ≤ 140737488000000
theorem rowKey_take (r : GRow) (k : Nat) (x : Int) (hx : r.lin[k]? = some x) : linKey (r.lin.take (k + 1)) = linKey (r.lin.take k) ++ (44 :: Lib.itoa x) := by rw [take_get hx, linKey_snoc]
set_option maxHeartbeats 4000000 in
set_option maxRecDepth 100000 in
theorem rowKey_any (v u : Value) (vals : List GVal) (lin : List Int) (lo hi : Int) (w : World) (hv : Sl valE w free v vals) (hu : Sl intE w free u lin) (hK : Keyable ⟨vals, lin⟩) (hT : Pow w) :
    Calls Tryz.prog 45 #[.agg #[v, .int .i64 lo, .int .i64 hi, u]] w fun e w' => e = .returned (.string ⟨(rowKeyL ⟨vals, lin⟩).toArray⟩) ∧ Below w.heap.size w w' := by
  obtain ⟨a1, c1, rfl⟩ := hv.shape
  obtain ⟨e1, d1, rfl⟩ := hu.shape
  obtain ⟨hk1, hk2, hk3, hk4, hk5⟩ := hK
  dsimp only at hk1 hk2 hk3 hk4 hk5
  have HKEY : ∀ W, Below w.heap.size w W → Pow W → Hid (Calls Tryz.prog 17 #[.slice a1 vals.length c1] W fun e w' => e = .returned (.string ⟨(keyL vals).toArray⟩) ∧ Below W.heap.size W w') := fun W hW hP => Lib.hid (key_any _ vals W (hv.below hW) hk1 (by omega) hP)
  have HU := Lib.hid hu
  have HT := Lib.hid hT
  have HLIN := Lib.hid hk2
  obtain ⟨kl, hkl⟩ : ∃ kl, kl = keyL vals := ⟨_, rfl⟩
  have HRK : Hid (rowKeyL ⟨vals, lin⟩ = Lib.itoa vals.length ++ [59] ++ kl ++ linKey lin) := by show _ = _; rw [hkl]; rfl
  rw [← hkl] at hk5 HKEY
  obtain ⟨n, hn⟩ : ∃ n, n = vals.length := ⟨_, rfl⟩
  obtain ⟨m, hm⟩ : ∃ m, m = lin.length := ⟨_, rfl⟩
  have HM := Lib.hid hm
  rw [← hn] at hk3 HKEY HRK ⊢
  rw [← hm] at hk4 HU ⊢
  have hi1 : In64 (n : Int) := by unfold In64; omega
  have hl1 := itoa_le hi1
  obtain ⟨rk, hrk⟩ : ∃ rk, rk = rowKeyL ⟨vals, lin⟩ := ⟨_, rfl⟩
  rw [← hrk] at HRK ⊢
  clear hv hu hk1 hk2 hT hkl hn hm hrk
  have j1 : ¬ 9223372036854775807 < (Lib.itoa (n : Int)).length + 1 := by omega
  have j2 : ¬ 9223372036854775807 < (Lib.itoa (n : Int)).length + 1 + kl.length := by omega
  have hB0 : Below w.heap.size w ((w.alloc (.cells #[.slice a1 n c1, .int .i64 lo, .int .i64 hi, .slice e1 m d1] 48)).alloc (.cells #[.pointer none, .slice none 0 0] 92)) := below_alloc_two w _ _
  have hT0 := HT.out.below hB0
  have hX0 : ((w.alloc (.cells #[.slice a1 n c1, .int .i64 lo, .int .i64 hi, .slice e1 m d1] 48)).alloc (.cells #[.pointer none, .slice none 0 0] 92)).heap[w.heap.size]? = some (.cells #[.slice a1 n c1, .int .i64 lo, .int .i64 hi, .slice e1 m d1] 48) := heap_alloc_old' w _ _
  obtain ⟨⟨c0, _, _, c3⟩, _⟩ := box_four hX0
  have hL0 : Bld (w.heap.size + 1) (w.heap.size + 1) (Lib.byteCells []) ((w.alloc (.cells #[.slice a1 n c1, .int .i64 lo, .int .i64 hi, .slice e1 m d1] 48)).alloc (.cells #[.pointer none, .slice none 0 0] 92)) := by
    have := bld_fresh (w.alloc (.cells #[.slice a1 n c1, .int .i64 lo, .int .i64 hi, .slice e1 m d1] 48))
    rw [World.size_alloc] at this
    exact this
  have HW : ∀ W : World, Hid (Bld (w.heap.size + 1) (w.heap.size + 1) (Lib.byteCells []) W → w.heap.size + 1 ≤ W.heap.size → Calls Tryz.prog 38 #[.pointer (some ⟨w.heap.size + 1, 0, none⟩), .string ((ByteArray.mk (Lib.itoa (n : Int)).toArray) ++ (ByteArray.mk #[59]) ++ (ByteArray.mk kl.toArray))] W fun e w' =>
      e = .returned (.tuple #[.int .i64 (((ByteArray.mk (Lib.itoa (n : Int)).toArray) ++ (ByteArray.mk #[59]) ++ (ByteArray.mk kl.toArray)).size : Int), .nilIface]) ∧ Bld (w.heap.size + 1) (w.heap.size + 1) (Lib.byteCells (Lib.itoa (n : Int) ++ [59] ++ kl)) w' ∧ Below (w.heap.size + 1) W w') := fun W => Lib.hid fun hL hz => by
    have h4 : (ByteArray.mk (Lib.itoa (n : Int)).toArray) ++ (ByteArray.mk #[59]) ++ (ByteArray.mk kl.toArray) = ByteArray.mk (Lib.itoa (n : Int) ++ [59] ++ kl).toArray := by
      rw [show (ByteArray.mk #[59]) = ByteArray.mk [59].toArray from rfl, app_bytes, app_bytes]
    rw [h4]
    have h5 : (ByteArray.mk (Lib.itoa (n : Int) ++ [59] ++ kl).toArray).size = (Lib.itoa (n : Int) ++ [59] ++ kl).length := by simp [ByteArray.size]
    refine (bld_WriteString _ _ _ _ _ hL (by rw [h5]; simp [Lib.byteCells]; omega) hz).mono ?_
    rintro e w' ⟨h6, h7, h8, _⟩
    refine ⟨h6, ?_, h8⟩
    rw [strCells_mk, show Lib.byteCells [] = [] from rfl, List.nil_append] at h7
    exact h7
  go_enter Tryz.func45, Tryz.ntmps45
  go_wp2_with fail
  go_region_held3 (fun W => Below w.heap.size w W ∧ Pow W ∧ W.heap[w.heap.size]? = some (.cells #[.slice a1 n c1, .int .i64 lo, .int .i64 hi, .slice e1 m d1] 48) ∧ W.cell? ⟨w.heap.size, 0, none⟩ = some (.slice a1 n c1) ∧ W.cell? ⟨w.heap.size, 3, none⟩ = some (.slice e1 m d1))
    ((go_split_ands; refine ⟨?_, ?_, ?_, ?_, ?_⟩ <;> first | (with_reducible assumption) | with_reducible exact Below.drew (by assumption) | with_reducible exact pow_drew (by assumption) | with_reducible exact box_drew (by assumption) | with_reducible exact cell_drew (by assumption) | with_reducible exact below_keep (by assumption) (by assumption) | with_reducible exact Pow.keep (by assumption) (by assumption) | with_reducible exact box_kept (by assumption) (by assumption) | with_reducible exact cell_keep (by assumption) (by assumption)))
    (first
      | (go_at_call 39; go_split_ands; refine (itoa_pow _ (by assumption) _ (by assumption)).mono ?_; rintro e w' ⟨rfl, hb⟩; have hL := bld_keep (by first | assumption | exact bld_drew (by assumption)) hb)
      | (go_at_call 17; go_split_ands; refine (HKEY _ (by first | assumption | exact Below.drew (by assumption)) (by first | assumption | exact pow_drew (by assumption))).out.mono ?_; rintro e w' ⟨rfl, hb⟩; have hL := bld_keep (by first | assumption | exact bld_drew (by assumption)) hb)
      | (go_at_call 38; go_split_ands; refine ((HW _).out (by first | assumption | exact bld_drew (by assumption)) (by first | exact Nat.le_of_lt (bld_lt (B := w.heap.size + 1) (b := w.heap.size + 1) (bs := Lib.byteCells []) (by assumption)) | exact Nat.le_of_lt (bld_lt (B := w.heap.size + 1) (b := w.heap.size + 1) (bs := Lib.byteCells []) (bld_drew (by assumption))))).mono ?_; rintro e w4 ⟨rfl, hL4, hb4⟩; have hB4 := below_tr (by assumption) (hb4.mono (Nat.le_succ _)); have hT4 := HT.out.below hB4; have hX4 := (hb4.block w.heap.size (Nat.lt_succ_self _)).trans (by assumption); obtain ⟨⟨f0, _, _, f3⟩, _⟩ := box_four hX4))
  all_goals
    go_split_ands
    have HL4 := Lib.hid hL4
    have HB4 := Lib.hid hB4
    have HT4 := Lib.hid hT4
    have HX4 := Lib.hid hX4
    obtain ⟨pre, hpre⟩ : ∃ pre, pre = Lib.itoa (n : Int) ++ [59] ++ kl := ⟨_, rfl⟩
    have hprl : pre.length ≤ 140737488000030 := by rw [hpre]; simp only [List.length_append, List.length_singleton]; omega
    rw [← hpre] at HL4 HRK
    clear hL4 hB4 hb4 hT4 hX4 HW HKEY j1 j2 hk5 hl1 hi1 hpre hk3 hB0 hT0 hX0 hL0 c0 c3
    go_wp2_with fail
    go_loopw [19] (fun i wr => ∃ k : Nat, k ≤ m ∧ i = .int .i64 k ∧ Hid (Bld (w.heap.size + 1) (w.heap.size + 1) (Lib.byteCells (pre ++ linKey (lin.take k))) wr) ∧ Hid (Below w.heap.size w wr)) (fun i _ => m - (intOf i).toNat)
    case atStart => exact ⟨0, Nat.zero_le _, rfl, Lib.hid (by simpa [linKey] using HL4.out), HB4⟩
    case round =>
      obtain ⟨k, hk, rfl, HBl, HB⟩ := hrel
      obtain ⟨wo, rfl⟩ : ∃ wo : World, wo = wr := ⟨_, rfl⟩
      by_cases hlt : k < m
      · obtain ⟨x, hx⟩ := lget_some lin k (by rw [← HM.out]; exact hlt)
        obtain ⟨b, o, rfl, p0⟩ := ints_at' (HU.out.below HB.out) hx
        have hx64 := HLIN.out x (List.mem_of_getElem? hx)
        have HIT := Lib.hid (itoa_pow x hx64 wo (HT.out.below HB.out))
        have hlen := linKey_length (l := lin.take k) fun y hy => HLIN.out y (List.mem_of_mem_take hy)
        have hlen2 : (lin.take k).length ≤ k := List.length_take_le _ _
        have hixl := itoa_le hx64
        have HNX : Hid (pre ++ linKey (lin.take (k + 1)) = pre ++ linKey (lin.take k) ++ (44 :: Lib.itoa x)) := by show _ = _; rw [take_get hx, linKey_snoc, List.append_assoc]
        obtain ⟨ix, hix⟩ : ∃ ix, ix = Lib.itoa x := ⟨_, rfl⟩
        rw [← hix] at HIT hixl HNX
        obtain ⟨tx, htx⟩ : ∃ tx, tx = pre ++ linKey (lin.take k) := ⟨_, rfl⟩
        have htl : tx.length ≤ 140737488060030 := by rw [htx, List.length_append]; omega
        rw [← htx] at HBl HNX
        have j1 : ¬ 9223372036854775807 < 1 + ix.length := by omega
        clear hx hx64 hlen hlen2 hix htx hprl
        go_wp2_with fail
        refine HIT.out.mono ?_
        rintro _ w5 ⟨rfl, hb5⟩
        have HB5 := Lib.hid (below_keep HB.out hb5)
        have HBl5 := Lib.hid (bld_keep HBl.out hb5)
        have HW : Hid (Calls Tryz.prog 38 #[.pointer (some ⟨w.heap.size + 1, 0, none⟩), .string ((ByteArray.mk #[44]) ++ (ByteArray.mk ix.toArray))] w5 fun e w' =>
            e = .returned (.tuple #[.int .i64 (((ByteArray.mk #[44]) ++ (ByteArray.mk ix.toArray)).size : Int), .nilIface]) ∧ Bld (w.heap.size + 1) (w.heap.size + 1) (Lib.byteCells (pre ++ linKey (lin.take (k + 1)))) w' ∧ Below (w.heap.size + 1) w5 w') := Lib.hid (by
          have h4 : (ByteArray.mk #[44]) ++ (ByteArray.mk ix.toArray) = ByteArray.mk (44 :: ix).toArray := by
            rw [show (ByteArray.mk #[44]) = ByteArray.mk [44].toArray from rfl, app_bytes]; rfl
          rw [h4]
          have h5 : (ByteArray.mk (44 :: ix).toArray).size = ix.length + 1 := by simp [ByteArray.size]
          refine (bld_WriteString _ _ _ _ _ HBl5.out (by rw [h5]; simp [Lib.byteCells]; omega) (Nat.le_of_lt (bld_lt HBl5.out))).mono ?_
          rintro e w' ⟨h6, h7, h8, _⟩
          refine ⟨h6, ?_, h8⟩
          rw [HNX.out, byteCells_append, ← strCells_mk (44 :: ix)]
          exact h7)
        clear hb5 HB HBl HIT
        go_wp2_with fail
        refine HW.out.mono ?_
        rintro _ w6 ⟨rfl, hL6, hb6⟩
        have HL6 := Lib.hid hL6
        have HB6 : Hid (Below w.heap.size w w6) := Lib.hid (below_tr HB5.out (hb6.mono (Nat.le_succ _)))
        clear hL6 hb6 HW HBl5 HB5
        go_wp2_with fail
        go_roundw
        case rel => exact ⟨k + 1, by omega, by go_num, HL6, HB6⟩
        case measure => simp [intOf]; omega
      · have hkm : k = m := by omega
        subst hkm
        have HS : Hid (pre ++ linKey (lin.take k) = rk) := by show _ = _; rw [HRK.out, List.take_of_length_le (by rw [← HM.out]; exact Nat.le_refl _)]
        have hbl := HBl.out
        rw [HS.out] at hbl
        have HBk := Lib.hid hbl
        clear hbl HBl
        go_wp2_with (go_at_call 41; refine (bld_String _ _ _ _ HBk.out (Nat.le_of_lt (bld_lt HBk.out))).mono ?_; rintro e w' ⟨rfl, hw⟩)
        go_ret
        exact ⟨rfl, HB.out.trans (hw.mono (Nat.le_succ _))⟩
end Go.Proofs.YtfmbbfidjcgeiaaGreatDoor

namespace Go.Proofs.YtfmbbfidjcgeiaaGreatDoor
open Go.RowKit

theorem gval_small (x y : Nat) : ∀ g ∈ [gval0 x, gval1 y], In64 g.kind ∧ In64 g.n ∧ g.s.size ≤ 10 := by
  intro g hg
  simp at hg
  rcases hg with rfl | rfl
  · unfold gval0
    split
    · exact ⟨by decide, by decide, by decide⟩
    · refine ⟨(by show In64 1; decide), ?_, (by show (ByteArray.mk #[]).size ≤ 10; decide)⟩
      unfold gint In64
      dsimp only
      omega
  · unfold gval1
    split
    · exact ⟨by decide, by decide, by decide⟩
    · refine ⟨(by show In64 2; decide), (by show In64 0; decide), ?_⟩
      have : (gtext y).size ≤ 2 := by
        unfold gtext
        split <;> (try split) <;> decide
      show (gtext y).size ≤ 10
      omega
theorem keyOf_len {g : GVal} (h : In64 g.kind ∧ In64 g.n ∧ g.s.size ≤ 10) : (keyOf g).length ≤ 100 := by
  have := keyOf_length g h.1 h.2.1 (by omega)
  omega
theorem keyable_small (x y : Nat) (lin : List Int) (hl : lin.length ≤ 1000) (hi : ∀ i ∈ lin, In64 i) : Keyable ⟨[gval0 x, gval1 y], lin⟩ := by
  have hs := gval_small x y
  refine ⟨fun g hg => ⟨(hs g hg).1, (hs g hg).2.1, by have := (hs g hg).2.2; unfold maxLen; omega⟩, hi, by simp, hl, ?_⟩
  have h1 := keyOf_len (hs (gval0 x) (by simp))
  have h2 := keyOf_len (hs (gval1 y) (by simp))
  show (keyL [gval0 x, gval1 y]).length ≤ _
  simp only [keyL, List.flatMap_cons, List.flatMap_nil, List.append_nil, List.length_append]
  omega
theorem tups_keyable (l : List U5) (m : Nat) : ∀ x ∈ tupsOf l m, Keyable x.row := by
  intro x hx
  obtain ⟨u, _, rfl⟩ := List.mem_map.1 hx
  exact keyable_small u.x2 u.x3 [1 + ((u.x4 % 5 : Nat) : Int)] (by simp) (by intro i hi; simp at hi; subst hi; unfold In64; omega)
theorem tups_small (l : List U5) (m : Nat) : ∀ x ∈ tupsOf l m, x.vals.length ≤ 1000 ∧ x.lin.length ≤ 1000 := by
  intro x hx
  obtain ⟨u, _, rfl⟩ := List.mem_map.1 hx
  exact ⟨by show (2 : Nat) ≤ 1000; decide, by show (1 : Nat) ≤ 1000; decide⟩
theorem IsNF.keyable {l T : List Tup} (h : IsNF l T) (hk : ∀ x ∈ l, Keyable x.row) : ∀ x ∈ T, Keyable x.row := by
  intro x hx
  obtain ⟨y, hy, e, _⟩ := h.vals x hx
  rw [← e]
  exact hk y hy
theorem IsNF.small {l T : List Tup} (h : IsNF l T) (hk : ∀ x ∈ l, Keyable x.row) : ∀ x ∈ T, x.vals.length ≤ 1000 ∧ x.lin.length ≤ 1000 := fun x hx => ⟨(h.keyable hk x hx).nv, (h.keyable hk x hx).nl⟩
theorem pincl_dec {lo hi t : Int} (h : pvalid lo hi = true) : pincl lo hi t = decide (lo ≤ t ∧ t < hi) := by
  rw [Bool.eq_iff_iff, pincl_iff, decide_eq_true_eq]
  exact ⟨fun h => h.2, fun k => ⟨h, k⟩⟩
theorem day_cons {r : GRow} {lo hi t : Int} {l : List Tup} (h : pvalid lo hi = true) : atDay ((⟨r.vals, lo, hi, r.lin⟩ : Tup) :: l) t = if lo ≤ t ∧ t < hi then r :: atDay l t else atDay l t := by
  rw [atDay_cons, pincl_dec h]
  simp only [decide_eq_true_eq]
  rfl
theorem atDay_nil (t : Int) : atDay [] t = [] := rfl
theorem same_row_sorted {v : List GVal} {u : List Int} {a b c d : Int} (h : a < c ∨ a = c ∧ b ≤ d) : ¬ cmpTup ⟨v, c, d, u⟩ ⟨v, a, b, u⟩ < 0 := by
  have e : cmpRow (Tup.row ⟨v, c, d, u⟩) (Tup.row ⟨v, a, b, u⟩) = 0 := cmpRow_zero.2 rfl
  unfold cmpTup or2
  rw [if_pos e]
  dsimp only
  unfold cmpI
  split <;> (try split) <;> (try split) <;> omega
theorem awake_nf (v : List GVal) : IsNF [⟨v, 0, 5, [1]⟩, ⟨v, 3, 9, [1]⟩] [⟨v, 0, 9, [1]⟩, ⟨v, 3, 5, [1]⟩] := by
  refine ⟨⟨fun x hx => ?_, ?_⟩, ?_, fun t => ?_⟩
  · simp at hx
    rcases hx with rfl | rfl <;> exact pvalid_iff.2 (by dsimp only; omega)
  · simp only [List.pairwise_cons, List.mem_singleton, forall_eq, List.not_mem_nil, false_implies, implies_true, List.Pairwise.nil, and_true]
    exact fun _ => by dsimp only; omega
  · simp only [List.pairwise_cons, List.mem_singleton, forall_eq, List.not_mem_nil, false_implies, implies_true, List.Pairwise.nil, and_true]
    exact same_row_sorted (.inl (by decide))
  · have e1 := day_cons (r := ⟨v, [1]⟩) (lo := 0) (hi := 9) (t := t) (l := [⟨v, 3, 5, [1]⟩]) (pvalid_iff.2 (by decide))
    have e2 := day_cons (r := ⟨v, [1]⟩) (lo := 3) (hi := 5) (t := t) (l := []) (pvalid_iff.2 (by decide))
    have e3 := day_cons (r := ⟨v, [1]⟩) (lo := 0) (hi := 5) (t := t) (l := [⟨v, 3, 9, [1]⟩]) (pvalid_iff.2 (by decide))
    have e4 := day_cons (r := ⟨v, [1]⟩) (lo := 3) (hi := 9) (t := t) (l := []) (pvalid_iff.2 (by decide))
    dsimp only at e1 e2 e3 e4
    rw [e1, e2, e3, e4, atDay_nil]
    split <;> split <;> split <;> split <;> first | exact List.Perm.refl _ | (exfalso; omega)
/-- A tuple without its lineage. -/
def bare (t : Tup) : Tup := ⟨t.vals, t.lo, t.hi, []⟩
theorem bare_keyable {x : Tup} (h : Keyable x.row) : Keyable (bare x).row := ⟨h.vals, by simp [bare, Tup.row], h.nv, by simp [bare, Tup.row], h.key⟩
theorem bares_keyable {l : List Tup} (h : ∀ x ∈ l, Keyable x.row) : ∀ x ∈ l.map bare, Keyable x.row := by
  intro x hx
  obtain ⟨y, hy, rfl⟩ := List.mem_map.1 hx
  exact bare_keyable (h y hy)
def bareR (r : GRow) : GRow := ⟨r.vals, []⟩
theorem atDay_bare (l : List Tup) (t : Int) : atDay (l.map bare) t = (atDay l t).map bareR := by
  unfold atDay
  rw [List.filter_map, List.map_map, List.map_map]
  rfl
theorem bare_bare (l : List Tup) : (l.map bare).map bare = l.map bare := by rw [List.map_map]; rfl
theorem coal_nf (v : List GVal) : IsNF [⟨v, 0, 5, []⟩, ⟨v, 5, 9, []⟩] [⟨v, 0, 9, []⟩] := by
  refine ⟨⟨fun x hx => ?_, ?_⟩, ?_, fun t => ?_⟩
  · simp at hx
    subst hx
    exact pvalid_iff.2 (by dsimp only; omega)
  · simp
  · simp
  · have e1 := day_cons (r := ⟨v, []⟩) (lo := 0) (hi := 9) (t := t) (l := []) (pvalid_iff.2 (by decide))
    have e3 := day_cons (r := ⟨v, []⟩) (lo := 0) (hi := 5) (t := t) (l := [⟨v, 5, 9, []⟩]) (pvalid_iff.2 (by decide))
    have e4 := day_cons (r := ⟨v, []⟩) (lo := 5) (hi := 9) (t := t) (l := []) (pvalid_iff.2 (by decide))
    dsimp only at e1 e3 e4
    rw [e1, e3, e4, atDay_nil]
    split <;> split <;> (try split) <;> first | exact List.Perm.refl _ | (exfalso; omega)
/-- A normal form's normal form is itself. -/
theorem IsNF.again {l T T' : List Tup} (h : IsNF l T) (h' : IsNF T T') : T' = T := h'.unique h.self
/-- The tuples that change from period to period. -/
def chL (v : List GVal) (f : Nat → List Int) (k : Nat) : List Tup := (List.range k).map fun (i : Nat) => (⟨v, 3 * (i : Int), 3 * (i : Int) + 3, f i⟩ : Tup)
theorem chL_succ (v : List GVal) (f : Nat → List Int) (k : Nat) : chL v f (k + 1) = chL v f k ++ [⟨v, 3 * (k : Int), 3 * (k : Int) + 3, f k⟩] := by unfold chL; rw [List.range_succ, List.map_append]; rfl
theorem chL_length (v : List GVal) (f : Nat → List Int) (k : Nat) : (chL v f k).length = k := by simp [chL]
theorem chL_mem {v : List GVal} {f : Nat → List Int} {k : Nat} {x : Tup} (h : x ∈ chL v f k) : ∃ i : Nat, i < k ∧ x = ⟨v, 3 * (i : Int), 3 * (i : Int) + 3, f i⟩ := by
  unfold chL at h
  obtain ⟨i, hi, rfl⟩ := List.mem_map.1 h
  exact ⟨i, List.mem_range.1 hi, rfl⟩
theorem ch_valid {k i : Nat} (hi : i < k) (hk : k ≤ 10) : pvalid (3 * (i : Int)) (3 * (i : Int) + 3) = true := pvalid_iff.2 (by omega)
theorem ch_nf (v : List GVal) (k : Nat) (hk : k ≤ 10) : IsNF (chL v (fun i => [1 + (i : Int)]) k) (chL v (fun i => [1 + (i : Int)]) k) := by
  refine ⟨⟨fun x hx => ?_, ?_⟩, ?_, fun t => .refl _⟩
  · obtain ⟨i, hi, rfl⟩ := chL_mem hx
    exact ch_valid hi hk
  · unfold chL
    rw [List.pairwise_map]
    refine List.pairwise_lt_range.imp ?_
    intro i j hij e
    unfold Tup.row at e
    simp at e
    omega
  · unfold chL
    rw [List.pairwise_map]
    refine List.pairwise_lt_range.imp ?_
    intro i j hij
    have e1 : cmpRow (Tup.row ⟨v, 3 * (j : Int), 3 * (j : Int) + 3, [1 + (j : Int)]⟩) (Tup.row ⟨v, 3 * (i : Int), 3 * (i : Int) + 3, [1 + (i : Int)]⟩) = 1 := by
      unfold cmpRow Tup.row
      dsimp only
      rw [if_pos ((cmpRows_zero _ _).2 rfl), cmpInts_cons]
      have : cmpI (1 + (j : Int)) (1 + (i : Int)) = 1 := by unfold cmpI; rw [if_neg (by omega), if_pos (by omega)]
      rw [this, if_neg (by decide)]
    unfold cmpTup or2
    rw [e1]
    simp
theorem one_nf (v : List GVal) (k : Nat) (h0 : 0 < k) (hk : k ≤ 10) : IsNF (chL v (fun _ => [1]) k) [⟨v, 0, 3 * (k : Int), [1]⟩] := by
  have key : ∀ (k : Nat), k ≤ 10 → ∀ t, atDay (chL v (fun _ => [1]) k) t = if 0 ≤ t ∧ t < 3 * (k : Int) then [⟨v, [1]⟩] else [] := by
    intro k
    induction k with
    | zero => intro _ t; rw [if_neg (by omega)]; rfl
    | succ k ih =>
      intro hk t
      have e1 := day_cons (r := ⟨v, [1]⟩) (lo := 3 * (k : Int)) (hi := 3 * (k : Int) + 3) (t := t) (l := []) (ch_valid (k := k + 1) (by omega) hk)
      dsimp only at e1
      rw [chL_succ, atDay_append, ih (by omega) t, e1, atDay_nil]
      split <;> split <;> split <;> first | rfl | (exfalso; omega)
  refine ⟨⟨fun x hx => ?_, by simp⟩, by simp, fun t => ?_⟩
  · simp at hx
    subst hx
    exact pvalid_iff.2 (by dsimp only; omega)
  · have e1 := day_cons (r := ⟨v, [1]⟩) (lo := 0) (hi := 3 * (k : Int)) (t := t) (l := []) (pvalid_iff.2 (by omega))
    dsimp only at e1
    rw [key k hk t, e1, atDay_nil]
end Go.Proofs.YtfmbbfidjcgeiaaGreatDoor

namespace Go.Proofs.YtfmbbfidjcgeiaaGreatDoor
open Go.RowKit Go.Lib

/-- The row of the days from x to y. -/
def gRow (e : List GExp) (kind : Int) (l : List Tup) (x y : Int) : Tup := ⟨[aggT e 0 kind (holdL l x)], x, y, mergeL (linsOf l x) []⟩
def gTo (e : List GExp) (kind : Int) (l : List Tup) (pts : List Int) : Nat → List Tup
  | 0 => []
  | i + 1 => gTo e kind l pts i ++ [gRow e kind l (pts[i]?.getD 0) (pts[i + 1]?.getD 0)]
theorem gTo_len (e : List GExp) (kind : Int) (l : List Tup) (pts : List Int) : ∀ i, (gTo e kind l pts i).length = i
  | 0 => rfl
  | i + 1 => by rw [gTo, List.length_append, gTo_len, List.length_singleton]
theorem gTo_mem {e : List GExp} {kind : Int} {l : List Tup} {pts : List Int} : ∀ {i : Nat} {t : Tup}, t ∈ gTo e kind l pts i → ∃ x y, t = gRow e kind l x y
  | 0, t, h => by cases h
  | i + 1, t, h => by
    rcases List.mem_append.1 h with h | h
    · exact gTo_mem h
    · rw [List.mem_singleton] at h
      exact ⟨_, _, h⟩
/-- The grouping on a day: one row, the aggregate of the tuples that hold. -/
theorem gTo_day {e : List GExp} {kind : Int} {l : List Tup} (hd : InDays l) {d : Int} (h0 : 0 ≤ d) : ∀ i, i < (mvPts l).length →
    ((mvPts l)[i]?.getD 0 ≤ d → atDay (gTo e kind l (mvPts l) i) d = []) ∧ (d < (mvPts l)[i]?.getD 0 → ∃ lin, atDay (gTo e kind l (mvPts l) i) d = [⟨[aggT e 0 kind (holdL l d)], lin⟩])
  | 0, _ => by
    refine ⟨fun _ => rfl, fun h => ?_⟩
    rw [mvPts_zero hd] at h
    exact absurd h (by simp; omega)
  | i + 1, hi => by
    obtain ⟨h1, h2⟩ := gTo_day (e := e) (kind := kind) hd h0 i (by omega)
    obtain ⟨x, hx⟩ : ∃ x, (mvPts l)[i]? = some x := ⟨_, List.getElem?_eq_getElem (by omega)⟩
    obtain ⟨y, hy⟩ : ∃ y, (mvPts l)[i + 1]? = some y := ⟨_, List.getElem?_eq_getElem hi⟩
    have hxy : x < y := by
      have := List.pairwise_iff_getElem.1 (mvPts_asc l) i (i + 1) (by omega) hi (by omega)
      rw [List.getElem?_eq_getElem (by omega)] at hx
      rw [List.getElem?_eq_getElem hi] at hy
      cases hx; cases hy; exact this
    have hxr := mvPts_range hd (List.mem_of_getElem? hx)
    have hyr := mvPts_range hd (List.mem_of_getElem? hy)
    have hpi : ∀ d, pincl x y d = true ↔ x ≤ d ∧ d < y := fun d => by
      rw [pincl_iff, pvalid_iff]
      omega
    have hone : ∀ lin v, atDay [⟨v, x, y, lin⟩] d = if x ≤ d ∧ d < y then [⟨v, lin⟩] else [] := fun lin v => by
      unfold atDay
      rw [List.filter_cons, List.filter_nil]
      by_cases hc : x ≤ d ∧ d < y
      · rw [if_pos hc, if_pos ((hpi d).2 hc)]; rfl
      · rw [if_neg hc, if_neg (fun h => hc ((hpi d).1 h))]; rfl
    rw [gTo, atDay_append]
    rw [hx] at h1 h2
    rw [hx, hy]
    simp only [Option.getD_some] at h1 h2 ⊢
    unfold gRow
    rw [hone]
    refine ⟨fun h => ?_, fun h => ?_⟩
    · rw [h1 (by omega), if_neg (by omega)]
      rfl
    · by_cases hc : x ≤ d
      · rw [h1 hc, if_pos ⟨hc, h⟩, hold_same hd hx hy hc h]
        exact ⟨_, rfl⟩
      · obtain ⟨lin, e2⟩ := h2 (by omega)
        rw [e2, if_neg (by omega)]
        exact ⟨lin, rfl⟩
/-- The whole grouping. -/
def gAll (e : List GExp) (kind : Int) (l : List Tup) : List Tup := gTo e kind l (mvPts l) ((mvPts l).length - 1)
theorem gAll_day {e : List GExp} {kind : Int} {l : List Tup} (hd : InDays l) {d : Int} (h0 : 0 ≤ d) (h1 : d < 1000000) : ∃ lin, atDay (gAll e kind l) d = [⟨[aggT e 0 kind (holdL l d)], lin⟩] := by
  have he := mvPts_end hd
  have hz := mvPts_zero hd
  have hp : 0 < (mvPts l).length := (List.getElem?_eq_some_iff.1 hz).1
  refine (gTo_day hd h0 _ (by omega)).2 ?_
  rw [he]
  exact h1
/-- A window of one day changes no tuple that lies within all days. -/
theorem extL_one : ∀ {l : List Tup}, InDays l → extL 1 l = l
  | [], _ => rfl
  | t :: l, h => by
    have ih := extL_one fun t ht => h t (List.mem_cons_of_mem _ ht)
    have ht := h t (List.mem_cons_self ..)
    have e1 : extT 1 t = [t] := by
      unfold extT
      rw [if_pos ⟨pvalid_iff.2 ⟨ht.1, ht.2.1, by omega⟩, by omega⟩]
      have : min (min t.hi 1000000 + 1 - 1) 1000000 = t.hi := by omega
      rw [this]
    unfold extL at *
    rw [List.flatMap_cons, e1, ih]
    rfl
theorem clampD_one : clampD 1 = 1 := rfl
theorem moving_one {e : List GExp} {kind : Int} {l : List Tup} (hd : InDays l) {d : Int} (h0 : 0 ≤ d) (h1 : d < 1000000) : valueL (movL l e 0 1 kind) d = aggT e 0 kind (holdL l d) := by
  rw [movL_value l e 0 1 kind h0 h1, clampD_one, extL_one hd]
/-- Null or a machine's number. -/
def NumG (g : GVal) : Prop := g = gnull ∨ ∃ n, g = gint n ∧ In64 n
theorem numG_agg {vals : List GVal} (h : ∀ g ∈ vals, NumG g) (hl : vals.length ≤ 1000000) (kind : Int) : NumG (aggP kind vals) := by
  have hbest : ∀ sg : Int, sg = 1 ∨ sg = -1 → NumG (extG sg (nonNull vals)) := fun sg hs => by
    by_cases e : nonNull vals = []
    · rw [e]; exact .inl rfl
    · exact h _ (List.mem_filter.1 (extG_best hs e).1).1
  unfold aggP
  split
  · exact .inr ⟨_, rfl, by unfold In64; omega⟩
  · split
    · unfold sumG
      split
      · exact .inl rfl
      · rename_i hs
        exact .inr ⟨_, rfl, by
          by_cases h64 : In64 (sumI (intsL vals))
          · exact h64
          · exact absurd (.inr h64) hs⟩
    · split
      · exact hbest _ (.inr rfl)
      · split
        · exact hbest _ (.inl rfl)
        · exact .inl rfl
theorem col_numG (l : List U5) (m : Nat) : ∀ t ∈ tupsOf l m, NumG (evalG [colX] 0 t.vals) := by
  intro t ht
  obtain ⟨x, _, rfl⟩ := List.mem_map.1 ht
  have e : evalG [colX] 0 (tupOf x).vals = gval0 x.x2 := eval_col _ _
  rw [e]
  unfold gval0
  split
  · exact .inl rfl
  · exact .inr ⟨_, rfl, by unfold In64; omega⟩
theorem aggT_numG (l : List U5) (m : Nat) (hm : m ≤ 1000) (kind x : Int) : NumG (aggT [colX] 0 kind (holdL (tupsOf l m) x)) := by
  refine numG_agg (fun g hg => ?_) ?_ kind
  · obtain ⟨t, ht, rfl⟩ := List.mem_map.1 hg
    exact col_numG l m t (List.mem_filter.1 ht).1
  · rw [List.length_map]
    have h1 := List.length_filter_le (fun y : Tup => pincl y.lo y.hi x) (tupsOf l m)
    have h2 := tupsOf_length l m
    unfold holdL
    omega
theorem keyable_one {g : GVal} {lin : List Int} (hg : NumG g) (hl : lin.length ≤ 1000) (hi : ∀ i ∈ lin, In64 i) : Keyable ⟨[g], lin⟩ := by
  have hs : In64 g.kind ∧ In64 g.n ∧ g.s.size ≤ 10 := by
    rcases hg with rfl | ⟨n, rfl, hn⟩
    · exact ⟨by decide, by decide, by decide⟩
    · exact ⟨(by show In64 1; decide), hn, (by show (ByteArray.mk #[]).size ≤ 10; decide)⟩
  refine ⟨fun g' hg' => ?_, hi, by simp, hl, ?_⟩
  · rw [List.mem_singleton.1 hg']
    exact ⟨hs.1, hs.2.1, by have := hs.2.2; unfold maxLen; omega⟩
  · have h1 := keyOf_len hs
    show (keyL [g]).length ≤ _
    simp only [keyL, List.flatMap_cons, List.flatMap_nil, List.append_nil]
    omega
theorem linsOf_len1 {t : Int} : ∀ {l : List Tup}, (∀ x ∈ l, x.lin.length ≤ 1) → (linsOf l t).length ≤ l.length
  | [], _ => by simp [linsOf, holdL]
  | x :: l, h => by
    have h1 := linsOf_len1 (t := t) (l := l) fun y hy => h y (List.mem_cons_of_mem _ hy)
    have h2 := h x (List.mem_cons_self ..)
    unfold linsOf holdL at *
    rw [List.filter_cons, List.length_cons]
    split
    · rw [List.flatMap_cons, List.length_append]; omega
    · omega
theorem gAll_keyable (l : List U5) (m : Nat) (hm : m ≤ 12) (kind : Int) : ∀ t ∈ gAll [colX] kind (tupsOf l m), Keyable t.row := by
  intro t ht
  obtain ⟨x, y, rfl⟩ := gTo_mem ht
  have hl1 : ∀ u ∈ tupsOf l m, u.lin.length ≤ 1 := fun u hu => by
    obtain ⟨z, _, rfl⟩ := List.mem_map.1 hu
    exact Nat.le_refl _
  have hsub : ∀ i ∈ linsOf (tupsOf l m) x, In64 i := fun i hi => by
    obtain ⟨u, hu, hiu⟩ := List.mem_flatMap.1 hi
    obtain ⟨z, _, rfl⟩ := List.mem_map.1 (List.mem_filter.1 hu).1
    have hiu : i ∈ [1 + ((z.x4 % 5 : Nat) : Int)] := hiu
    rw [List.mem_singleton] at hiu
    subst hiu
    unfold In64
    omega
  have hlen : (linsOf (tupsOf l m) x).length ≤ 12 := by
    have h1 := linsOf_len1 (t := x) (l := tupsOf l m) hl1
    have h2 := tupsOf_length l m
    omega
  refine keyable_one (aggT_numG l m (by omega) kind x) ?_ (fun i hi => ?_)
  · have := mergeL_length (linsOf (tupsOf l m) x) []
    simp only [List.length_nil, Nat.add_zero] at this
    show (mergeL (linsOf (tupsOf l m) x) []).length ≤ 1000
    omega
  · have h1 := (mergeL_mem (linsOf (tupsOf l m) x) [] i).1 hi
    simp only [List.not_mem_nil, or_false] at h1
    exact hsub i h1
end Go.Proofs.YtfmbbfidjcgeiaaGreatDoor

namespace Go.Proofs.YtfmbbfidjcgeiaaGreatDoor
open Go.RowKit

def keyT (x : Tup) : List UInt8 := rowKeyL x.row
/-- The periods of the tuples with that key. -/
def perOf (l : List Tup) (s : List UInt8) : List (Int × Int) := (l.filter fun x => pvalid x.lo x.hi && (keyT x == s)).map fun x => (x.lo, x.hi)
theorem perOf_snoc (l : List Tup) (x : Tup) (s : List UInt8) : perOf (l ++ [x]) s = perOf l s ++ if (pvalid x.lo x.hi && (keyT x == s)) = true then [(x.lo, x.hi)] else [] := by
  unfold perOf
  rw [List.filter_append, List.map_append]
  congr 1
  rw [List.filter_cons, List.filter_nil]
  split <;> rfl
theorem perOf_valid (l : List Tup) (s : List UInt8) : ∀ p ∈ perOf l s, pvalid p.1 p.2 = true := by
  intro p hp
  unfold perOf at hp
  obtain ⟨x, hx, rfl⟩ := List.mem_map.1 hp
  have := (List.mem_filter.1 hx).2
  rw [Bool.and_eq_true] at this
  exact this.1
theorem perOf_len (l : List Tup) (s : List UInt8) : (perOf l s).length ≤ l.length := by unfold perOf; rw [List.length_map]; exact List.length_filter_le _ _
theorem perOf_cnt (l : List Tup) (r : GRow) (t : Int) : atDay (l.filter fun x => keyT x == rowKeyL r) t = List.replicate (cntP (perOf l (rowKeyL r)) t) r := by
  induction l with
  | nil => rfl
  | cons x l ih =>
    by_cases h1 : keyT x = rowKeyL r
    · have hr : x.row = r := rowKey_inj h1
      rw [List.filter_cons, if_pos (by simpa using h1), atDay_cons, ih]
      by_cases h2 : pvalid x.lo x.hi = true
      · have e : perOf (x :: l) (rowKeyL r) = (x.lo, x.hi) :: perOf l (rowKeyL r) := by unfold perOf; rw [List.filter_cons, if_pos (by simp [h1, h2])]; rfl
        have ec : cntP ((x.lo, x.hi) :: perOf l (rowKeyL r)) t = cntP (perOf l (rowKeyL r)) t + if pincl x.lo x.hi t = true then 1 else 0 := by unfold cntP; rw [List.countP_cons]
        rw [e, ec]
        split
        · rw [List.replicate_succ, hr]
        · rfl
      · have e : perOf (x :: l) (rowKeyL r) = perOf l (rowKeyL r) := by unfold perOf; rw [List.filter_cons, if_neg (by simp [h2])]
        rw [e, if_neg (fun h => h2 (pincl_iff.1 h).1)]
    · have e : perOf (x :: l) (rowKeyL r) = perOf l (rowKeyL r) := by unfold perOf; rw [List.filter_cons, if_neg (by simp [h1])]
      rw [List.filter_cons, if_neg (by simpa using h1), ih, e]
/-- What is made of the tuples whose keys are done. -/
structure NrmI (l : List Tup) (L : List UInt8 → Bool) (out : List Tup) : Prop where
  lev : Lev out
  key : ∀ x ∈ out, L (keyT x) = false
  day : ∀ t, (atDay out t).Perm (atDay (l.filter fun x => !L (keyT x)) t)
  len : out.length ≤ (l.filter fun x => pvalid x.lo x.hi && !L (keyT x)).length
theorem NrmI.start {l : List Tup} {L : List UInt8 → Bool} (h : ∀ x ∈ l, pvalid x.lo x.hi = true → L (keyT x) = true) : NrmI l L [] := by
  refine ⟨Lev.nil, by simp, fun t => ?_, Nat.zero_le _⟩
  have : atDay (l.filter fun x => !L (keyT x)) t = [] := by
    refine List.eq_nil_iff_forall_not_mem.2 fun r hr => ?_
    obtain ⟨x, hx, _, hi⟩ := mem_atDay.1 hr
    obtain ⟨h1, h2⟩ := List.mem_filter.1 hx
    rw [h x h1 (pincl_iff.1 hi).1] at h2
    cases h2
  rw [this]
  exact .refl _
theorem filter_parts {l : List Tup} {p q r : Tup → Bool} (h : ∀ x, r x = (p x || q x)) (hd : ∀ x, p x = true → q x = false) : (l.filter p ++ l.filter q).Perm (l.filter r) := by
  have h1 := List.filter_append_perm p (l.filter r)
  rw [List.filter_filter, List.filter_filter] at h1
  have e1 : (fun a => p a && r a) = p := by funext x; rw [h x]; cases p x <;> simp
  have e2 : (fun a => !p a && r a) = q := by
    funext x
    rw [h x]
    cases hp : p x
    · simp
    · simp [hd x hp]
  rw [e1, e2] at h1
  exact h1
theorem NrmI.step {l out M : List _} {L : List UInt8 → Bool} {r : GRow} (h : NrmI l L out) (hL : L (rowKeyL r) = true) (hM : LevOf (perOf l (rowKeyL r)) M) (hlen : M.length ≤ (perOf l (rowKeyL r)).length) :
    NrmI l (fun z => L z && !(z == rowKeyL r)) (out ++ M.map fun p => (⟨r.vals, p.1, p.2, r.lin⟩ : Tup)) := by
  obtain ⟨h1, h2⟩ := lev_rows hM r
  have hk : ∀ y ∈ M.map (fun p => (⟨r.vals, p.1, p.2, r.lin⟩ : Tup)), keyT y = rowKeyL r := by
    intro y hy
    obtain ⟨p, _, rfl⟩ := List.mem_map.1 hy
    rfl
  refine ⟨⟨fun x hx => ?_, ?_⟩, fun x hx => ?_, fun t => ?_, ?_⟩
  · rcases List.mem_append.1 hx with hx | hx
    · exact h.lev.valid x hx
    · exact h1.valid x hx
  · rw [List.pairwise_append]
    refine ⟨h.lev.lam, h1.lam, fun x hx y hy e => ?_⟩
    have h3 := h.key x hx
    have h4 : keyT x = keyT y := congrArg rowKeyL e
    rw [h4, hk y hy, hL] at h3
    cases h3
  · rcases List.mem_append.1 hx with hx | hx
    · rw [h.key x hx]; rfl
    · rw [hk x hx]; simp
  · rw [atDay_append, h2 t, ← perOf_cnt l r t]
    refine ((h.day t).append_right _).trans ?_
    rw [← atDay_append]
    refine atDay_perm (filter_parts (fun x => ?_) fun x hx => ?_) t
    · cases L (keyT x) <;> cases (keyT x == rowKeyL r) <;> rfl
    · rw [beq_eq_false_iff_ne]
      intro e
      rw [e, hL] at hx
      cases hx
  · have hp := (filter_parts (l := l) (p := fun x => pvalid x.lo x.hi && !L (keyT x)) (q := fun x => pvalid x.lo x.hi && (keyT x == rowKeyL r)) (r := fun x => pvalid x.lo x.hi && !(L (keyT x) && !(keyT x == rowKeyL r))) (fun x => by
      cases pvalid x.lo x.hi <;> cases L (keyT x) <;> cases (keyT x == rowKeyL r) <;> rfl) fun x hx => by
        cases hk : (keyT x == rowKeyL r)
        · simp
        · rw [beq_iff_eq] at hk
          rw [hk, hL] at hx
          simp at hx).length_eq
    rw [List.length_append] at hp
    rw [List.length_append, List.length_map]
    have e : (perOf l (rowKeyL r)).length = (l.filter fun x => pvalid x.lo x.hi && (keyT x == rowKeyL r)).length := by unfold perOf; rw [List.length_map]
    have := h.len
    omega
theorem NrmI.done {l out T : List Tup} {L : List UInt8 → Bool} (h : NrmI l L out) (hL : ∀ s, L s = false) (hp : T.Perm out) (hs : T.Pairwise fun a b => ¬ cmpTup b a < 0) : IsNF l T := by
  refine ⟨h.lev.perm hp.symm, hs, fun t => (atDay_perm hp t).trans ((h.day t).trans ?_)⟩
  have : (l.filter fun x => !L (keyT x)) = l := List.filter_eq_self.2 fun x _ => by rw [hL]; rfl
  rw [this]
theorem NrmI.small {l out : List Tup} {L : List UInt8 → Bool} (h : NrmI l L out) : out.length ≤ l.length := Nat.le_trans h.len (List.length_filter_le _ _)
end Go.Proofs.YtfmbbfidjcgeiaaGreatDoor

namespace Go.Proofs.YtfmbbfidjcgeiaaGreatDoor
open Go.RowKit Go.Lib Go.Maps

theorem str_law : Keyed Tryz.prog 9 := string_keyed Tryz.underlying9
/-- An element is read as itself. -/
def rawElem (v : Value) : Option (DataW Value × List MemPlace) := some (.held v, [])
theorem skey {s : ByteArray} (h : s.size ≤ maxLen) : Go.keyOf Tryz.prog 9 (.string s) = some (.string s.data.toList) := by simp [Go.keyOf, mapKey, Tryz.underlying9, h]
theorem skey_inv {key : Value} {kl : Lit} (h : Go.keyOf Tryz.prog 9 key = some kl) : ∃ s : ByteArray, key = .string s ∧ kl = .string s.data.toList ∧ s.size ≤ maxLen := by
  cases key <;> simp [Go.keyOf, mapKey, Tryz.underlying9] at h
  exact ⟨_, rfl, h.2.symm, h.1⟩
theorem sAtKey_not_has {D : DataW Value} {k : Lit} (h : has D k = false) (hm : IsMap D) (z : DataW Value) : D.atKey k z = z := by
  obtain ⟨es, rfl⟩ := hm
  simp only [DataW.atKey]
  cases hf : es.find? (fun p => p.1.sameKey k) with
  | none => rfl
  | some p =>
    have h1 := List.find?_some hf
    have h2 := List.mem_of_find?_eq_some hf
    rw [has_eq] at h
    have := List.any_eq_false.1 h p h2
    exact absurd h1 (by simpa using this)
/-- What a map holds. -/
structure HoldsS (D : DataW Value) (f : List UInt8 → Option Value) : Prop where
  has : ∀ s, has D (.string s) = (f s).isSome
  at' : ∀ s v, f s = some v → ∀ zd, D.atKey (.string s) zd = .held v
/-- A map of the call's own from strings: what it holds. -/
def OwnSV (w : World) (b n : Nat) (f : List UInt8 → Option Value) : Prop :=
  ∃ D : DataW Value, w.ownsMap Tryz.prog 9 rawElem b n D ∧ HoldsS D f
theorem OwnSV.kept {w w' : World} {b n : Nat} {f : List UInt8 → Option Value} {G : Nat → Prop} (h : OwnSV w b n f) (hk : Kept G w w') (hb : ¬ G b) : OwnSV w' b n f := by
  obtain ⟨D, ⟨es, clock, h1, h2⟩, h3⟩ := h
  exact ⟨D, ⟨es, clock, (hk.2 b (Array.getElem?_eq_some_iff.1 h1).1 hb).trans h1, h2⟩, h3⟩
theorem OwnSV.below {w w' : World} {b n : Nat} {f : List UInt8 → Option Value} (h : OwnSV w b n f) (hb : Below w.heap.size w w') : OwnSV w' b n f := h.kept (G := fun _ => False) (.of_below hb) (fun h => h)
theorem OwnSV.lt {w : World} {b n : Nat} {f : List UInt8 → Option Value} (h : OwnSV w b n f) : b < w.heap.size := by obtain ⟨D, h1, _⟩ := h; exact h1.lt
theorem OwnSV.made (w : World) : OwnSV (w.alloc (.map #[] 0)) w.heap.size 0 (fun _ => none) := ⟨.map [], World.ownsMap_made w _ _ _, ⟨fun _ => rfl, fun _ _ h => by cases h⟩⟩
/-- The block of a map is no row's. -/
theorem OwnSV.no_row {P : Program} {α : Type} {E : El P α} {w : World} {b n B : Nat} {f : List UInt8 → Option Value} {v : Value} {l : List α} (h : OwnSV w b n f) (hO : Own E w B v l) : v.ownBlock ≠ some b := by
  intro e
  obtain ⟨D, ⟨es, clock, h1, _⟩, _⟩ := h
  obtain ⟨xs, ⟨_, h2⟩, _⟩ := hO
  rcases h2 with ⟨rfl, _⟩ | ⟨g, cap, cur, rfl, _, hh, _⟩
  · cases e
  · have e' : some g = some b := e
    cases e'
    rw [h1] at hh
    cases hh
section
variable {t e : TypeId} (ht : Tryz.prog.underlying t = some (.map 9 e))
include ht
/-- 'm[x]'. -/
theorem OwnSV.look {w : World} {b n : Nat} {f : List UInt8 → Option Value} {z : Value} (h : OwnSV w b n f) (hz : (zeroValue e).run Tryz.prog w = .ok z w) {s : ByteArray} (hs : s.size ≤ maxLen) :
    (Instr.lookup t (.map (some b)) (.string s) false).run Tryz.prog w = .ok ((f s.data.toList).getD z) w := by
  obtain ⟨D, h1, h2⟩ := h
  obtain ⟨v, ps, hrun, hv⟩ := h1.lookup str_law ht hz (zd := .held z) (zp := []) rfl (skey hs)
  rw [hrun]
  cases hf : f s.data.toList with
  | none =>
    rw [sAtKey_not_has (by rw [h2.has, hf]; rfl) h1.isMap] at hv
    cases hv
    rfl
  | some d =>
    rw [h2.at' _ d hf] at hv
    cases hv
    rfl
end
section
variable {t e : TypeId} (ht : Tryz.prog.underlying t = some (.map 9 e)) {ops : Array Oper} {rest : List Oper} {o : Oper} {a : Act} {Q : Exit → Act → World → Prop}
include ht
/-- 'm[x] = v'. -/
theorem OwnSV.put {w : World} {b n : Nat} {f : List UInt8 → Option Value} (h : OwnSV w b n f) (hn : n < maxLen) {s : ByteArray} (hs : s.size ≤ maxLen) (c : Value) :
    ∃ w', (Instr.mapUpdate t (.map (some b)) (.string s) c).run Tryz.prog w = .ok () w' ∧ OwnSV w' b (n + 1) (fun y => if y = s.data.toList then some c else f y) ∧ w.grownBy w' (some b) := by
  obtain ⟨D, h1, h2⟩ := h
  obtain ⟨w', hrun, r1, r2⟩ := h1.update str_law ht hn (skey hs) (val := c) rfl
  refine ⟨w', hrun, ?_, r2⟩
  have hm' := h1.isMap
  have hk : WideAt.IsKeyLit (.string s.data.toList) := str_law.key (skey hs)
  have hne : ∀ y, y ≠ s.data.toList → (Lit.string y) ≠ .string s.data.toList := fun y h e => h (by cases e; rfl)
  refine ⟨_, r1, ⟨fun y => ?_, fun y d hd zd => ?_⟩⟩
  · by_cases e : y = s.data.toList
    · subst e; rw [has_put_same hm' hk, if_pos rfl]; rfl
    · rw [has_put_other (hne y e), if_neg e, h2.has y]
  · by_cases e : y = s.data.toList
    · subst e; rw [if_pos rfl] at hd; cases hd; exact atKey_put_same hm' hk _ _
    · rw [if_neg e] at hd; rw [atKey_put_other (hne y e)]; exact h2.at' y d hd zd
theorem wpList_putSV (w : World) (hg : o.guard = none) (m x v : Operand) (hop : o.op = Op.mapUpdate t m x v) (b n : Nat) (f : List UInt8 → Option Value) (hm : a.eval m = .map (some b)) (hown : OwnSV w b n f) (hn : n < maxLen) (s : ByteArray) (c : Value)
    (hx : a.eval x = .string s) (hv : a.eval v = c) (hs : s.size ≤ maxLen)
    (hK : ∀ w', OwnSV w' b (n + 1) (fun y => if y = s.data.toList then some c else f y) → w.grownBy w' (some b) → wpList Tryz.prog ops Q rest (a.put o.dst undef) w') : wpList Tryz.prog ops Q (o :: rest) a w := by
  refine wpList_plain hg fun K' hK' => ?_
  obtain ⟨w', hrun, r1, r2⟩ := hown.put ht hn hs c
  unfold Oper.wp
  simp [execOp, hop, hm, hx, hv, hrun, Result.andThen]
  exact hK' _ _ (hK w' r1 r2)
end
/-- A range over such a map: what it holds, what is still to come. -/
def RngSV (w : World) (b r n : Nat) (f : List UInt8 → Option Value) (L : List UInt8 → Bool) (cnt : Nat) : Prop :=
  ∃ (D : DataW Value) (left : Lit → Bool), w.ranges Tryz.prog 9 rawElem b r n D left cnt ∧ HoldsS D f ∧ ∀ s, left (.string s) = L s
theorem RngSV.left_eq {w : World} {b r n : Nat} {f : List UInt8 → Option Value} {L : List UInt8 → Bool} {cnt : Nat} (h : RngSV w b r n f L cnt) : w.rangeLeft b r = cnt := by obtain ⟨D, left, h1, _⟩ := h; exact h1.left_eq
theorem RngSV.kept {w w' : World} {b r n : Nat} {f : List UInt8 → Option Value} {L : List UInt8 → Bool} {cnt : Nat} {G : Nat → Prop} (h : RngSV w b r n f L cnt) (hk : Kept G w w') (hb : ¬ G b) (hr : ¬ G r) : RngSV w' b r n f L cnt := by
  obtain ⟨D, left, ⟨es, clock, since, seen, c0, h1, F, hs, hD, h2, rest⟩, h3⟩ := h
  exact ⟨D, left, ⟨es, clock, since, seen, c0, (hk.2 b (Array.getElem?_eq_some_iff.1 h1).1 hb).trans h1, F, hs, hD, (hk.2 r (Array.getElem?_eq_some_iff.1 h2).1 hr).trans h2, rest⟩, h3⟩
theorem RngSV.below {w w' : World} {B b r n : Nat} {f : List UInt8 → Option Value} {L : List UInt8 → Bool} {cnt : Nat} (h : RngSV w b r n f L cnt) (hb : Below B w w') (h1 : b < B) (h2 : r < B) : RngSV w' b r n f L cnt :=
  h.kept (G := fun k => B ≤ k) ⟨hb.size, fun k _ hn => hb.block k (by omega)⟩ (by omega) (by omega)
section
variable {t e : TypeId} (ht : Tryz.prog.underlying t = some (.map 9 e)) {ops : Array Oper} {rest : List Oper} {o : Oper} {a : Act} {Q : Exit → Act → World → Prop}
include ht
/-- 'range m'. -/
theorem wpList_rangeSV (w : World) (hg : o.guard = none) (m : Operand) (hop : o.op = Op.range t m) (b n : Nat) (f : List UInt8 → Option Value) (hm : a.eval m = .map (some b)) (hown : OwnSV w b n f)
    (hK : ∀ w' cnt, RngSV w' b w.heap.size n f (fun s => (f s).isSome) cnt → w.grownBy w' none → w'.heap.size = w.heap.size + 1 → wpList Tryz.prog ops Q rest (a.put o.dst (.pointer (some ⟨w.heap.size, 0, none⟩))) w') :
    wpList Tryz.prog ops Q (o :: rest) a w := by
  obtain ⟨D, h1, h2⟩ := hown
  exact wpList_range_own w hg m t hop 9 e str_law ht rawElem b n D hm h1 fun w' h3 h4 h5 => hK w' _ ⟨D, _, h3, h2, h2.has⟩ h4 h5
end
section
variable {ops : Array Oper} {rest : List Oper} {o : Oper} {a : Act} {Q : Exit → Act → World → Prop}
/-- The step. -/
theorem wpList_nextSV (w : World) (hg : o.guard = none) (it : Operand) (hop : o.op = Op.next it false) (b r n : Nat) (f : List UInt8 → Option Value) (L : List UInt8 → Bool) (cnt : Nat) (hit : a.eval it = .pointer (some ⟨r, 0, none⟩)) (h : RngSV w b r n f L cnt)
    (hDone : (∀ s, L s = false) → wpList Tryz.prog ops Q rest (a.put o.dst (.tuple #[.bool false])) w)
    (hMore : ∀ (s : ByteArray) (v : Value) (w' : World) (cnt' : Nat), s.size ≤ maxLen → f s.data.toList = some v → L s.data.toList = true → RngSV w' b r n f (fun z => L z && !(z == s.data.toList)) cnt' → cnt' < cnt →
      w.grownBy w' (some r) → w'.heap.size = w.heap.size → (Instr.entry (.pointer (some ⟨r, 0, none⟩))).run Tryz.prog w' = .ok (.tuple #[.string s, v]) w' → wpList Tryz.prog ops Q rest (a.put o.dst (.tuple #[.bool true, .string s, v])) w') :
    wpList Tryz.prog ops Q (o :: rest) a w := by
  obtain ⟨D, left, h1, h2, h3⟩ := h
  refine wpList_next_ranges w hg it hop 9 str_law rawElem Value.string (fun v : Value => v) (fun key kl hkey => by obtain ⟨x, rfl, _⟩ := skey_inv hkey; exact ⟨x, rfl⟩) (fun v y _ => ⟨v, rfl⟩)
    b r n D left cnt hit h1 (fun _ hl => hDone fun s => by rw [← h3]; exact hl _) (fun s c kl y w' cnt' hkey hlk hv hat hrg hlt hgr hsz hen => ?_)
  obtain ⟨s', es, rfl, hss⟩ := skey_inv hkey
  cases es
  cases hv
  have hh := has_true_of_atKey hat
  rw [h2.has] at hh
  obtain ⟨v, hv⟩ := Option.isSome_iff_exists.1 hh
  have e1 := (hat .nil).symm.trans (h2.at' _ v hv .nil)
  cases e1
  refine hMore s c w' cnt' hss hv (by rw [← h3]; exact hlk) ⟨D, _, hrg, h2, fun z => ?_⟩ hlt hgr hsz hen
  dsimp only
  rw [h3]
  congr 1
end
end Go.Proofs.YtfmbbfidjcgeiaaGreatDoor

namespace Go.Proofs.YtfmbbfidjcgeiaaGreatDoor
open Go.Shelf
def sh_sortTups_ren : Go.Shelf.Ren := ⟨fun | 6 => 47 | 15 => 64 | 14 => 77 | 28 => 92 | 29 => 93 | 20 => 115 | 21 => 116 | 22 => 117 | 23 => 118 | 24 => 119 | 25 => 120 | 26 => 121 | 27 => 122 | 46 => 146 | 47 => 126 | 48 => 127 | 49 => 147 | 50 => 148 | 57 => 158 | n => n, fun | 22 => 24 | 24 => 48 | 25 => 109 | 3 => 3 | 39 => 133 | 0 => 0 | 53 => 163 | 55 => 113 | 4 => 4 | 46 => 156 | 45 => 155 | 50 => 160 | 5 => 5 | 9 => 9 | 66 => 191 | 70 => 195 | 76 => 210 | 77 => 211 | n => n, fun | n => n⟩
theorem sh_sortTups : Go.Proofs.SlLaysF0.n6 Tryz.prog sh_sortTups_ren := {
  mixed := by kernel_rfl
  f6 := ⟨Tryz.f47.name, by decide, Tryz.func47.trans (congrArg some (by kernel_rfl))⟩
  f14 := ⟨Tryz.f77.name, by decide, Tryz.func77.trans (congrArg some (by kernel_rfl))⟩
  f15 := Tryz.func64.trans (congrArg some (by kernel_rfl))
  f20 := ⟨Tryz.f115.name, by decide, Tryz.func115.trans (congrArg some (by kernel_rfl))⟩
  f21 := ⟨Tryz.f116.name, by decide, Tryz.func116.trans (congrArg some (by kernel_rfl))⟩
  f22 := ⟨Tryz.f117.name, by decide, Tryz.func117.trans (congrArg some (by kernel_rfl))⟩
  f23 := ⟨Tryz.f118.name, by decide, Tryz.func118.trans (congrArg some (by kernel_rfl))⟩
  f24 := ⟨Tryz.f119.name, by decide, Tryz.func119.trans (congrArg some (by kernel_rfl))⟩
  f25 := ⟨Tryz.f120.name, by decide, Tryz.func120.trans (congrArg some (by kernel_rfl))⟩
  f26 := ⟨Tryz.f121.name, by decide, Tryz.func121.trans (congrArg some (by kernel_rfl))⟩
  f27 := ⟨Tryz.f122.name, by decide, Tryz.func122.trans (congrArg some (by kernel_rfl))⟩
  f28 := Tryz.func92.trans (congrArg some (by kernel_rfl))
  f29 := Tryz.func93.trans (congrArg some (by kernel_rfl))
  f46 := ⟨Tryz.f146.name, by decide, Tryz.func146.trans (congrArg some (by kernel_rfl))⟩
  f47 := Tryz.func126.trans (congrArg some (by kernel_rfl))
  f48 := Tryz.func127.trans (congrArg some (by kernel_rfl))
  f49 := ⟨Tryz.f147.name, by decide, Tryz.func147.trans (congrArg some (by kernel_rfl))⟩
  f50 := ⟨Tryz.f148.name, by decide, Tryz.func148.trans (congrArg some (by kernel_rfl))⟩
  f57 := ⟨Tryz.f158.name, by decide, Tryz.func158.trans (congrArg some (by kernel_rfl))⟩
  t0 := Tryz.underlying0
  a0 := Tryz.isAgg0
  z0 := Tryz.sizeOf0
  v0 := Tryz.zeroValue0
  t3 := Tryz.underlying3
  a3 := Tryz.isAgg3
  z3 := Tryz.sizeOf3
  v3 := Tryz.zeroValue3
  t4 := Tryz.underlying4
  a4 := Tryz.isAgg4
  z4 := Tryz.sizeOf4
  v4 := Tryz.zeroValue4
  t5 := Tryz.underlying5
  a5 := Tryz.isAgg5
  z5 := Tryz.sizeOf5
  v5 := Tryz.zeroValue5
  t9 := Tryz.underlying9
  a9 := Tryz.isAgg9
  z9 := Tryz.sizeOf9
  v9 := Tryz.zeroValue9
  t22 := Tryz.underlying24
  a22 := Tryz.isAgg24
  z22 := Tryz.sizeOf24
  v22 := Tryz.zeroValue24
  t25 := Tryz.underlying109
  a25 := Tryz.isAgg109
  z25 := Tryz.sizeOf109
  v25 := Tryz.zeroValue109
  t39 := Tryz.underlying133
  a39 := Tryz.isAgg133
  z39 := Tryz.sizeOf133
  v39 := Tryz.zeroValue133
  t45 := Tryz.underlying155
  a45 := Tryz.isAgg155
  z45 := Tryz.sizeOf155
  v45 := Tryz.zeroValue155
  t46 := Tryz.underlying156
  a46 := Tryz.isAgg156
  z46 := Tryz.sizeOf156
  v46 := Tryz.zeroValue156
  t50 := Tryz.underlying160
  a50 := Tryz.isAgg160
  z50 := Tryz.sizeOf160
  v50 := Tryz.zeroValue160
  t53 := Tryz.underlying163
  a53 := Tryz.isAgg163
  z53 := Tryz.sizeOf163
  v53 := Tryz.zeroValue163
  t55 := Tryz.underlying113
  a55 := Tryz.isAgg113
  z55 := Tryz.sizeOf113
  v55 := Tryz.zeroValue113
  t66 := Tryz.underlying191
  a66 := Tryz.isAgg191
  z66 := Tryz.sizeOf191
  v66 := Tryz.zeroValue191
  t70 := Tryz.underlying195
  a70 := Tryz.isAgg195
  z70 := Tryz.sizeOf195
  v70 := Tryz.zeroValue195
  t76 := Tryz.underlying210
  a76 := Tryz.isAgg210
  z76 := Tryz.sizeOf210
  v76 := Tryz.zeroValue210
  t77 := Tryz.underlying211
  a77 := Tryz.isAgg211
  z77 := Tryz.sizeOf211
  v77 := Tryz.zeroValue211 }
end Go.Proofs.YtfmbbfidjcgeiaaGreatDoor

namespace Go.Proofs.YtfmbbfidjcgeiaaGreatDoor
open Go.RowKit Go.Lib Go.Shelf Go.Sort

theorem row_g (v u : Value) (lo hi : Int) (w : World) (a b : Option Addr) (n c m d : Nat) (hv : v = .slice a n c) (hu : u = .slice b m d) :
    Calls Tryz.prog 13 #[.agg #[v, .int .i64 lo, .int .i64 hi, u]] w fun e w' => e = .returned (.agg #[v, u]) ∧ Grew w w' := by
  subst hv hu
  go_enter Tryz.func13, Tryz.ntmps13
  go_wp2
  refine bodyPost_ret (v := .agg #[.slice a n c, .slice b m d]) ?_ rfl ⟨rfl, grew_alloc2 w _ _⟩
  simp [results, Tryz.results13, go_sem]
set_option maxHeartbeats 8000000 in
set_option maxRecDepth 100000 in
theorem tupCmp_g (a b : Tup) (v u v2 u2 : Value) (w : World) (hv : Sl valE w free v a.vals) (hu : Sl intE w free u a.lin) (hv2 : Sl valE w free v2 b.vals) (hu2 : Sl intE w free u2 b.lin) :
    Calls Tryz.prog 48 #[.agg #[v, .int .i64 a.lo, .int .i64 a.hi, u], .agg #[v2, .int .i64 b.lo, .int .i64 b.hi, u2]] w fun e w' => e = .returned (.int .i64 (cmpTup a b)) ∧ Grew w w' := by
  obtain ⟨r1, hr1⟩ : ∃ r, r = cmpRow a.row b.row := ⟨_, rfl⟩
  obtain ⟨fc, hfc⟩ : ∃ fc, fc = cmpI := ⟨_, rfl⟩
  have CB : ∀ W, Grew w W → Hid (Calls Tryz.prog 35 #[.agg #[v, u], .agg #[v2, u2]] W fun e w' => e = .returned (.int .i64 r1) ∧ Grew W w') := fun W h => hr1 ▸ bagCmp_g a.row b.row v u v2 u2 W (hv.below h.below) (hu.below h.below) (hv2.below h.below) (hu2.below h.below)
  have CC : ∀ x y W, Hid (Calls Tryz.prog 57 #[.int .i64 x, .int .i64 y] W fun e w' => e = .returned (.int .i64 (fc x y)) ∧ W = w') := fun x y W => hfc ▸ cmpInt_any x y W
  have HR : Hid (orL [r1, fc a.lo b.lo, fc a.hi b.hi] = cmpTup a b) := by
    show _ = _
    rw [hr1, hfc]
    unfold cmpTup or2 orL orL orL orL
    split <;> (try split) <;> simp_all
  have COR : ∀ W : World, Hid (Calls Tryz.prog 56 #[.slice (some ⟨W.heap.size, 0, none⟩) 3 3] (W.alloc (.cells #[.int .i64 r1, .int .i64 (fc a.lo b.lo), .int .i64 (fc a.hi b.hi)] 3)).drew fun e w' => e = .returned (.int .i64 (cmpTup a b)) ∧ (W.alloc (.cells #[.int .i64 r1, .int .i64 (fc a.lo b.lo), .int .i64 (fc a.hi b.hi)] 3)).drew = w') := fun W => by
    have := cmpOr_any (.slice (some ⟨W.heap.size, 0, none⟩) 3 3) [r1, fc a.lo b.lo, fc a.hi b.hi] (W.alloc (.cells #[.int .i64 r1, .int .i64 (fc a.lo b.lo), .int .i64 (fc a.hi b.hi)] 3)).drew (Sl.of_block (n := 3) (m := 3) (show (W.alloc (.cells #[.int .i64 r1, .int .i64 (fc a.lo b.lo), .int .i64 (fc a.hi b.hi)] 3)).drew.heap[W.heap.size]? = some (.cells #[.int .i64 r1, .int .i64 (fc a.lo b.lo), .int .i64 (fc a.hi b.hi)] 3) from World.alloc_heap_new W _) (Els.cons (cs := [.int .i64 r1]) rfl (Els.cons (cs := [.int .i64 (fc a.lo b.lo)]) rfl (Els.one (cs := [.int .i64 (fc a.hi b.hi)]) rfl))) id rfl (by simp) (by simp))
    rw [HR.out] at this
    exact Lib.hid this
  have CORn : ∀ W : World, Hid (Calls Tryz.prog 56 #[.slice (some ⟨W.heap.size, 0, none⟩) 3 3] (W.alloc (.cells #[.int .i64 r1, .int .i64 (fc a.lo b.lo), .int .i64 (fc a.hi b.hi)] 3)) fun e w' => e = .returned (.int .i64 (cmpTup a b)) ∧ (W.alloc (.cells #[.int .i64 r1, .int .i64 (fc a.lo b.lo), .int .i64 (fc a.hi b.hi)] 3)) = w') := fun W => by
    have := cmpOr_any (.slice (some ⟨W.heap.size, 0, none⟩) 3 3) [r1, fc a.lo b.lo, fc a.hi b.hi] (W.alloc (.cells #[.int .i64 r1, .int .i64 (fc a.lo b.lo), .int .i64 (fc a.hi b.hi)] 3)) (Sl.of_block (n := 3) (m := 3) (World.alloc_heap_new W _) (Els.cons (cs := [.int .i64 r1]) rfl (Els.cons (cs := [.int .i64 (fc a.lo b.lo)]) rfl (Els.one (cs := [.int .i64 (fc a.hi b.hi)]) rfl))) id rfl (by simp) (by simp))
    rw [HR.out] at this
    exact Lib.hid this
  obtain ⟨a1, c1, rfl⟩ := hv.shape
  obtain ⟨a2, c2, rfl⟩ := hu.shape
  obtain ⟨a3, c3, rfl⟩ := hv2.shape
  obtain ⟨a4, c4, rfl⟩ := hu2.shape
  generalize a.vals.length = n1 at CB ⊢
  generalize a.lin.length = n2 at CB ⊢
  generalize b.vals.length = n3 at CB ⊢
  generalize b.lin.length = n4 at CB ⊢
  obtain ⟨z, hz⟩ : ∃ z, z = cmpTup a b := ⟨_, rfl⟩
  rw [← hz] at COR CORn ⊢
  generalize a.lo = l1 at COR CORn ⊢
  generalize a.hi = h1 at COR CORn ⊢
  generalize b.lo = l2 at COR CORn ⊢
  generalize b.hi = h2 at COR CORn ⊢
  clear hv hu hv2 hu2 hr1 HR hz hfc
  go_enter Tryz.func48, Tryz.ntmps48
  go_wp2_with fail
  have hB0 := grew_alloc2 w (.cells #[.slice a1 n1 c1, .int .i64 l1, .int .i64 h1, .slice a2 n2 c2] 48) (.cells #[.slice a3 n3 c3, .int .i64 l2, .int .i64 h2, .slice a4 n4 c4] 48)
  obtain ⟨⟨d0, d1, d2, d3⟩, _⟩ := box_four (heap_alloc_old' w (.cells #[.slice a1 n1 c1, .int .i64 l1, .int .i64 h1, .slice a2 n2 c2] 48) (.cells #[.slice a3 n3 c3, .int .i64 l2, .int .i64 h2, .slice a4 n4 c4] 48))
  obtain ⟨⟨e0, e1, e2, e3⟩, _⟩ := box_four (heap_alloc_new' w (.cells #[.slice a1 n1 c1, .int .i64 l1, .int .i64 h1, .slice a2 n2 c2] 48) (.cells #[.slice a3 n3 c3, .int .i64 l2, .int .i64 h2, .slice a4 n4 c4] 48))
  go_region_held3 (fun W => Grew w W ∧ W.cell? ⟨w.heap.size, 0, none⟩ = some (.slice a1 n1 c1) ∧ W.cell? ⟨w.heap.size, 1, none⟩ = some (.int .i64 l1) ∧ W.cell? ⟨w.heap.size, 2, none⟩ = some (.int .i64 h1) ∧ W.cell? ⟨w.heap.size, 3, none⟩ = some (.slice a2 n2 c2) ∧ W.cell? ⟨w.heap.size + 1, 0, none⟩ = some (.slice a3 n3 c3) ∧ W.cell? ⟨w.heap.size + 1, 1, none⟩ = some (.int .i64 l2) ∧ W.cell? ⟨w.heap.size + 1, 2, none⟩ = some (.int .i64 h2) ∧ W.cell? ⟨w.heap.size + 1, 3, none⟩ = some (.slice a4 n4 c4))
    ((go_split_ands; refine ⟨?_, ?_, ?_, ?_, ?_, ?_, ?_, ?_, ?_⟩ <;> first | (with_reducible assumption) | with_reducible exact Grew.drew (by assumption) | with_reducible exact cell_drew (by assumption) | with_reducible exact grew_keep (by assumption) (by assumption) | with_reducible exact cell_grew (by assumption) (by assumption) | with_reducible exact grew_alloc_keep (by assumption) | with_reducible exact cell_alloc (by assumption) | with_reducible exact grew_alloc_drew (by assumption) | with_reducible exact cell_alloc_drew (by assumption)))
    (first
      | (go_at_call 13; (with_reducible refine (row_g _ _ _ _ _ _ _ _ _ _ _ rfl rfl).mono ?_); rintro e' wR ⟨rfl, hgR⟩)
      | (go_at_call 35; go_split_ands; refine (CB _ (by first | assumption | exact Grew.drew (by assumption))).out.mono ?_; rintro e' wB ⟨rfl, hgB⟩)
      | (go_at_call 57; (with_reducible refine (CC _ _ _).out.mono ?_); rintro e' wI ⟨rfl, rfl⟩)
      | (go_at_call 56; first | (with_reducible refine (COR _).out.mono ?_) | (with_reducible refine (CORn _).out.mono ?_); rintro e' wO ⟨rfl, rfl⟩))
  all_goals go_split_ands
  all_goals go_wp2_with fail
  all_goals go_ret
  all_goals exact ⟨rfl, by assumption⟩
theorem swo_tup {β : Type} (f : β → Tup) : SWO (ltOf fun x y : β => cmpTup (f x) (f y)) where
  irrefl x := by
    show decide (cmpTup (f x) (f x) < 0) = false
    rw [cmpTup_zero.2 rfl]
    rfl
  trans x y z h1 h2 := by
    have h := sgn_tup (f x) (f y) (f z)
    have h1' : decide (cmpTup (f x) (f y) < 0) = true := h1
    have h2' : decide (cmpTup (f y) (f z) < 0) = true := h2
    show decide (cmpTup (f x) (f z) < 0) = true
    unfold Sgn3 at h
    rw [decide_eq_true_eq] at h1' h2' ⊢
    omega
  ntrans x y z h1 h2 := by
    have h := sgn_tup (f z) (f y) (f x)
    rw [cmpTup_swap (f y) (f z), cmpTup_swap (f x) (f y), cmpTup_swap (f x) (f z)] at h
    have h1' : decide (cmpTup (f x) (f y) < 0) = false := h1
    have h2' : decide (cmpTup (f y) (f z) < 0) = false := h2
    show decide (cmpTup (f x) (f z) < 0) = false
    unfold Sgn3 at h
    rw [decide_eq_false_iff_not] at h1' h2' ⊢
    omega
theorem sortTups_any (v : Value) (l : List Tup) (B : Nat) (w : World) (hO : Own tupE w B v l) (hl : l.length ≤ 1000000) :
    Calls Tryz.prog 47 #[v, .func (.func 48) #[] #[]] w fun e w' => e = .returned (.tuple #[]) ∧ ∃ l' : List Tup, l'.Perm l ∧ l'.Pairwise (fun x y => ¬ cmpTup y x < 0) ∧ Own tupE w' B v l' ∧ RowKit.Below B w w' := by
  rcases Nat.eq_zero_or_pos l.length with h0 | hpos
  · have hl0 : l = [] := List.eq_nil_of_length_eq_zero h0
    subst hl0
    obtain ⟨a, c, rfl⟩ := hO.shape
    refine (AnyF.slices_SortFunc_none sh_sortTups a c _ w).mono ?_
    rintro _ w' ⟨rfl, rfl⟩
    exact ⟨rfl, [], .refl _, .nil, hO, .refl _ _⟩
  · obtain ⟨g, c, rfl⟩ := Own.shape_lt hO hpos
    have hgl := (hO.lt g rfl).2
    refine (own_sorted cmpTup hO rfl hpos fun d hd hH hK => ?_).mono ?_
    · have eg : ∀ args w, (callFunc 48 args).run Tryz.prog w = .ok (.enter 48 args) w := enters_of Tryz.func48 (by kernel_rfl) rfl
      have hcmp : CmpLays Tryz.prog 48 #[] (Cel.cells (E := tupE) (w := w) (g := g)) 4 (fun x y => cmpTup x.val y.val) g 0 d.size w := fun m os dk hdk x y => by
        obtain ⟨v1, u1, e1, p1, q1⟩ := x.is
        obtain ⟨v2, u2, e2, p2, q2⟩ := y.is
        have hk := hK m os dk (hdk.trans hd)
        rw [e1, e2]
        exact tupCmp_g x.val y.val v1 u1 v2 u2 _ (p1.kept hk).free (q1.kept hk).free (p2.kept hk).free (q2.kept hk).free
      have := AnyQ.slices_SortFunc sh_sortTups 4 (fun w => Tryz.isAgg48 w) (fun w => Tryz.sizeOf48 w) (Cel.cells (E := tupE) (w := w) (g := g)) Cel.len Cel.one (fun x y => cmpTup x.val y.val) (swo_tup Cel.val) 48 #[] g 0 c d w eg hcmp hH hgl (by omega)
      have e : Value.slice (some ⟨g, 0, none⟩) d.size c = .slice (some ⟨g, 0, none⟩) l.length c := by rw [hd]
      rw [e] at this
      exact this
    · rintro _ w' ⟨rfl, l', hp, hs, hO', _, hb⟩
      exact ⟨rfl, l', hp, hs, hO', hb⟩
end Go.Proofs.YtfmbbfidjcgeiaaGreatDoor

namespace Go.Proofs.YtfmbbfidjcgeiaaGreatDoor
open Go.RowKit Go.Lib Go.Maps

theorem rowKey_len {r : GRow} (h : Keyable r) : (rowKeyL r).length ≤ 140737488355328 := by
  have h1 : In64 (r.vals.length : Int) := by have := h.nv; unfold In64; omega
  have h2 := itoa_le h1
  have h3 := linKey_length h.lin
  have h4 := h.key
  have h5 := h.nl
  unfold rowKeyL
  simp only [List.length_append, List.length_singleton]
  omega
theorem OwnSV.mono {w : World} {b n m : Nat} {f : List UInt8 → Option Value} (h : OwnSV w b n f) (hn : n ≤ m) : OwnSV w b m f := by
  obtain ⟨D, h1, h2⟩ := h; exact ⟨D, h1.mono hn, h2⟩
/-- The rows by their keys. -/
structure RowsIn (w0 : World) (l : List Tup) (f : List UInt8 → Option Value) : Prop where
  at' : ∀ s c, f s = some c → ∃ x ∈ l, pvalid x.lo x.hi = true ∧ keyT x = s ∧ ∃ v u, c = .agg #[v, u] ∧ Sl valE w0 free v x.vals ∧ Sl intE w0 free u x.lin
  dom : ∀ x ∈ l, pvalid x.lo x.hi = true → (f (keyT x)).isSome = true
theorem RowsIn.nil (w0 : World) : RowsIn w0 [] (fun _ => none) := ⟨(fun _ _ h => by cases h), (fun x hx => by simp at hx)⟩
theorem RowsIn.skip {w0 : World} {l : List Tup} {f : List UInt8 → Option Value} {x : Tup} (h : RowsIn w0 l f) (hx : pvalid x.lo x.hi = false) : RowsIn w0 (l ++ [x]) f := by
  refine ⟨fun s c hs => ?_, fun y hy hv => ?_⟩
  · obtain ⟨y, hy, r⟩ := h.at' s c hs
    exact ⟨y, by simp [hy], r⟩
  · rcases List.mem_append.1 hy with hy | hy
    · exact h.dom y hy hv
    · simp at hy; subst hy; rw [hx] at hv; cases hv
theorem RowsIn.put {w0 : World} {l : List Tup} {f : List UInt8 → Option Value} {x : Tup} {v u : Value} (h : RowsIn w0 l f) (hx : pvalid x.lo x.hi = true) (hv : Sl valE w0 free v x.vals) (hu : Sl intE w0 free u x.lin) :
    RowsIn w0 (l ++ [x]) (fun y => if y = keyT x then some (.agg #[v, u]) else f y) := by
  refine ⟨fun s c hs => ?_, fun y hy hyv => ?_⟩
  · split at hs
    · rename_i e
      cases hs
      exact ⟨x, by simp, hx, e.symm, v, u, rfl, hv, hu⟩
    · obtain ⟨y, hy, r⟩ := h.at' s c hs
      exact ⟨y, by simp [hy], r⟩
  · split
    · rfl
    · rename_i hne
      rcases List.mem_append.1 hy with hy | hy
      · exact h.dom y hy hyv
      · simp at hy; subst hy; exact absurd rfl hne
/-- The periods by their rows' keys: each a row of the call's own. -/
structure PersIn (w : World) (B : Nat) (l : List Tup) (f : List UInt8 → Option Value) : Prop where
  own : ∀ s v, f s = some v → Own perE w B v (perOf l s)
  none : ∀ s, f s = none → perOf l s = []
  apart : ∀ s s' v v', s ≠ s' → f s = some v → f s' = some v' → Apart v v'
theorem PersIn.nil (w : World) (B : Nat) : PersIn w B [] (fun _ => Option.none) := ⟨(fun _ _ h => by cases h), (fun _ _ => rfl), (fun _ _ _ _ _ h => by cases h)⟩
theorem PersIn.get {w : World} {B : Nat} {l : List Tup} {f : List UInt8 → Option Value} (h : PersIn w B l f) (s : List UInt8) : Own perE w B ((f s).getD (.slice Option.none 0 0)) (perOf l s) := by
  cases hf : f s with
  | none => rw [h.none s hf]; exact Own.nil _ _ _
  | some v => exact h.own s v hf
theorem PersIn.below {w w' : World} {B : Nat} {l : List Tup} {f : List UInt8 → Option Value} (h : PersIn w B l f) (hb : Below w.heap.size w w') : PersIn w' B l f :=
  ⟨fun s v hs => (h.own s v hs).below hb, h.none, h.apart⟩
theorem PersIn.kept {w w' : World} {B b n : Nat} {l : List Tup} {f g : List UInt8 → Option Value} (h : PersIn w B l f) (hm : OwnSV w b n g) (hg : w.grownBy w' (some b)) : PersIn w' B l f :=
  ⟨fun s v hs => (h.own s v hs).kept_flat perE_flat (.of_grown hg) fun _ hk e => hm.no_row (h.own s v hs) (hk.trans e), h.none, h.apart⟩
theorem PersIn.skip {w : World} {B : Nat} {l : List Tup} {f : List UInt8 → Option Value} {x : Tup} (h : PersIn w B l f) (hx : pvalid x.lo x.hi = false) : PersIn w B (l ++ [x]) f := by
  have e : ∀ s, perOf (l ++ [x]) s = perOf l s := fun s => by rw [perOf_snoc, if_neg (by simp [hx]), List.append_nil]
  exact ⟨fun s v hs => by rw [e]; exact h.own s v hs, fun s hs => by rw [e]; exact h.none s hs, h.apart⟩
theorem PersIn.get_apart {w : World} {B : Nat} {l : List Tup} {f : List UInt8 → Option Value} (h : PersIn w B l f) {s s' : List UInt8} {v : Value} (hne : s ≠ s') (hs : f s' = some v) : Apart ((f s).getD (.slice Option.none 0 0)) v := by
  cases hf : f s with
  | none => exact apart_none _
  | some u => exact h.apart s s' u v hne hf hs
theorem PersIn.put {w w' : World} {B g cap n : Nat} {l : List Tup} {f : List UInt8 → Option Value} {x : Tup} (h : PersIn w B l f) (hx : pvalid x.lo x.hi = true) (hp : Pushed perE B w w' ((f (keyT x)).getD (.slice Option.none 0 0)) (perOf l (keyT x) ++ [(x.lo, x.hi)]) g cap) (hn : (perOf l (keyT x)).length + 1 = n) :
    PersIn w' B (l ++ [x]) (fun y => if y = keyT x then some (.slice (some ⟨g, 0, Option.none⟩) n cap) else f y) := by
  have hlt : ∀ s v, f s = some v → ∀ k, v.ownBlock = some k → k < w.heap.size := fun s v hs k hk => ((h.own s v hs).lt k hk).2
  refine ⟨fun s v hs => ?_, fun s hs => ?_, fun s s' v v' hne hs hs' => ?_⟩
  · split at hs
    · rename_i e
      cases hs
      subst e
      rw [perOf_snoc, if_pos (by simp [hx])]
      exact hp.own' (by simp; omega)
    · rename_i e
      rw [perOf_snoc, if_neg (by simp [Ne.symm e]), List.append_nil]
      exact hp.keep perE_flat (h.get_apart (Ne.symm e) hs) (h.own s v hs)
  · split at hs
    · cases hs
    · rename_i e
      rw [perOf_snoc, if_neg (by simp [Ne.symm e]), List.append_nil]
      exact h.none s hs
  · split at hs
    · rename_i e
      cases hs
      split at hs'
      · rename_i e'; exact absurd (e.trans e'.symm) hne
      · rename_i e'
        exact hp.apart (h.get_apart (Ne.symm e') hs') (hlt s' v' hs')
    · rename_i e
      split at hs'
      · cases hs'
        exact (hp.apart (h.get_apart (Ne.symm e) hs) (hlt s v hs)).symm
      · exact h.apart s s' v v' hne hs hs'
theorem slPer_zero (w : World) : (zeroValue 106).run Tryz.prog w = .ok (.slice none 0 0) w := by kernel_rfl
set_option maxHeartbeats 8000000 in
set_option maxRecDepth 100000 in
theorem normalize_any (v : Value) (l : List Tup) (w : World) (hv : Tups w v l) (hl : l.length ≤ 100000) (hK : ∀ x ∈ l, Keyable x.row) (hT : Pow w) :
    Calls Tryz.prog 21 #[v] w fun e w' => ∃ T, IsNF l T ∧ T.length ≤ l.length ∧ RetOwn tupE w T e w' := by
  obtain ⟨a, c, rfl⟩ := hv.shape
  have HV := Lib.hid hv
  have HK := Lib.hid hK
  have HT := Lib.hid hT
  obtain ⟨n, hn⟩ : ∃ n, n = l.length := ⟨_, rfl⟩
  have HN := Lib.hid hn
  rw [← hn] at hl HV ⊢
  have hmm := @run_makeMap Tryz.prog
  have HM1 : Hid (OwnSV ((w.alloc (.map #[] 0)).alloc (.map #[] 0)) w.heap.size 0 (fun _ => none)) := Lib.hid ((OwnSV.made w).below (below_alloc _ _))
  have HM2 : Hid (OwnSV ((w.alloc (.map #[] 0)).alloc (.map #[] 0)) (w.heap.size + 1) 0 (fun _ => none)) := Lib.hid (by
    have := OwnSV.made (w.alloc (.map #[] 0))
    rw [World.size_alloc] at this
    exact this)
  clear hv hK hT hn
  go_enter Tryz.func21, Tryz.ntmps21
  go_wp2_with fail
  go_loopw [17] (fun i wr => ∃ (k : Nat) (fr fp : List UInt8 → Option Value), k ≤ n ∧ i = .int .i64 k ∧ OwnSV wr w.heap.size k fr ∧ OwnSV wr (w.heap.size + 1) k fp ∧ Hid (RowsIn w (l.take k) fr) ∧ Hid (PersIn wr w.heap.size (l.take k) fp) ∧ Hid (Below w.heap.size w wr)) (fun i _ => n - (RowKit.intOf i).toNat)
  case atStart => exact ⟨0, _, _, Nat.zero_le _, rfl, HM1.out, HM2.out, Lib.hid (RowsIn.nil _), Lib.hid (PersIn.nil _ _), Lib.hid (below_alloc_two _ _ _)⟩
  case round =>
    obtain ⟨k, fr, fp, hk, rfl, hR, hP, HRI, HPI, HB⟩ := hrel
    obtain ⟨wo, rfl⟩ : ∃ wo : World, wo = wr := ⟨_, rfl⟩
    by_cases hlt : k < n
    · obtain ⟨x, hx⟩ := lget_some l k (by rw [← HN.out]; exact hlt)
      obtain ⟨b, o, a1, n1, e1, m1, rfl, hvv, hll, p0, p1, p2, p3⟩ := tups_at HV.out hx
      replace p0 := cell_keep HB.out p0
      replace p1 := cell_keep HB.out p1
      replace p2 := cell_keep HB.out p2
      replace p3 := cell_keep HB.out p3
      have HTK : Hid (l.take (k + 1) = l.take k ++ [x]) := Lib.hid (take_get hx)
      have hky := HK.out x (List.mem_of_getElem? hx)
      have hlk : (l.take k).length ≤ 100000 := by rw [List.length_take]; omega
      obtain ⟨lk, hlke⟩ : ∃ lk, lk = l.take k := ⟨_, rfl⟩
      rw [← hlke] at HTK hlk HRI HPI
      obtain ⟨q, hq⟩ : ∃ q, q = pvalid x.lo x.hi := ⟨_, rfl⟩
      have HQ := Lib.hid hq
      have HPV := fun W => Lib.hid (pvalid_any x.lo x.hi W)
      rw [← hq] at HPV
      have HKY := Lib.hid hky
      have HVV := Lib.hid hvv
      have HLL := Lib.hid hll
      have HLK := Lib.hid hlk
      obtain ⟨xv, xlo, xhi, xl⟩ := x
      dsimp only at p0 p1 p2 p3 HVV HLL HPV HQ
      have hg := World.alloc_heap_new wo (.cells #[.slice a1 xv.length n1, .int .i64 xlo, .int .i64 xhi, .slice e1 xl.length m1] 48)
      have hb0 := below_alloc wo (.cells #[.slice a1 xv.length n1, .int .i64 xlo, .int .i64 xhi, .slice e1 xl.length m1] 48)
      have HB1 : Hid (Below w.heap.size w (wo.alloc (.cells #[.slice a1 xv.length n1, .int .i64 xlo, .int .i64 xhi, .slice e1 xl.length m1] 48))) := Lib.hid (below_alloc_keep HB.out)
      have HR1 := Lib.hid (hR.below hb0)
      have HP1 := Lib.hid (hP.below hb0)
      have HPI1 := Lib.hid (HPI.out.below hb0)
      have HG := Lib.hid hg
      have hzo := HB.out.size
      have hr1 := hR.lt
      have hr2 := hP.lt
      clear hx hvv hll hlke hq hky hR hP HPI hb0 hg hlk
      go_wp2_with fail
      refine (HPV _).out.mono ?_
      rintro _ w3 ⟨rfl, hb3⟩
      have HG3 := Lib.hid (box_kept HG.out hb3)
      obtain ⟨⟨d0, d1, d2, d3⟩, _, _, _, _⟩ := box_four HG3.out
      have HB3 : Hid (Below w.heap.size w w3) := Lib.hid (below_keep HB1.out hb3)
      have HR3 := Lib.hid (HR1.out.below hb3)
      have HP3 := Lib.hid (HP1.out.below hb3)
      have HPI3 := Lib.hid (HPI1.out.below hb3)
      clear hb3 HG HB1 HR1 HP1 HPI1 HPV
      cases q
      · go_wp2_with fail
        go_roundw
        case rel => exact ⟨k + 1, fr, fp, by omega, by go_num, HR3.out.mono (Nat.le_succ _), HP3.out.mono (Nat.le_succ _), by rw [HTK.out]; exact Lib.hid (HRI.out.skip HQ.out.symm), by rw [HTK.out]; exact Lib.hid (HPI3.out.skip HQ.out.symm), HB3⟩
        case measure => simp [RowKit.intOf]; omega
      · have HKEY : ∀ W, Below w.heap.size w W → Hid (Calls Tryz.prog 45 #[.agg #[.slice a1 xv.length n1, .int .i64 xlo, .int .i64 xhi, .slice e1 xl.length m1]] W fun e w' => e = .returned (.string ⟨(rowKeyL ⟨xv, xl⟩).toArray⟩) ∧ Below W.heap.size W w') := fun W hW => Lib.hid (rowKey_any _ _ xv xl xlo xhi W (HVV.out.below hW) (HLL.out.below hW) HKY.out (HT.out.below hW))
        have hkz := rowKey_len HKY.out
        obtain ⟨ks, hks⟩ : ∃ ks : ByteArray, ks = ⟨(rowKeyL (Tup.row ⟨xv, xlo, xhi, xl⟩)).toArray⟩ := ⟨_, rfl⟩
        have HKS : Hid (ks.size ≤ maxLen) := by show ks.size ≤ maxLen; rw [hks]; show (rowKeyL _).toArray.size ≤ maxLen; rw [List.size_toArray]; unfold maxLen; omega
        have HKL : Hid (ks.data.toList = keyT ⟨xv, xlo, xhi, xl⟩) := by show _ = _; rw [hks]; rfl
        have e : (⟨(rowKeyL ⟨xv, xl⟩).toArray⟩ : ByteArray) = ks := hks.symm
        rw [e] at HKEY
        have HKM : Hid (k < maxLen) := by show k < maxLen; unfold maxLen; omega
        clear hks hkz e
        go_wp2_with fail
        refine (HKEY _ HB3.out).out.mono ?_
        rintro _ w4 ⟨rfl, hb4⟩
        have HG4 := Lib.hid (box_kept HG3.out hb4)
        clear d0 d1 d2 d3
        obtain ⟨⟨d0, d1, d2, d3⟩, _, _, _, _⟩ := box_four HG4.out
        have HB4 : Hid (Below w.heap.size w w4) := Lib.hid (below_keep HB3.out hb4)
        have HR4 := Lib.hid (HR3.out.below hb4)
        have HP4 := Lib.hid (HP3.out.below hb4)
        have HPI4 := Lib.hid (HPI3.out.below hb4)
        clear hb4 HG3 HB3 HR3 HP3 HPI3 HKEY
        go_wp2_with fail
        refine (tupleRow_any _ _ _ _ _ _ _ _ _ _ _ rfl rfl).mono ?_
        rintro _ w5 ⟨rfl, hb5⟩
        have HG5 := Lib.hid (box_kept HG4.out hb5)
        have HB5 : Hid (Below w.heap.size w w5) := Lib.hid (below_keep HB4.out hb5)
        have HR5 := Lib.hid (HR4.out.below hb5)
        have HP5 := Lib.hid (HP4.out.below hb5)
        have HPI5 := Lib.hid (HPI4.out.below hb5)
        clear hb5 HG4 HB4 HR4 HP4 HPI4 d0 d1 d2 d3
        go_wp2_with (at_mapUpdate; refine wpList_putSV Tryz.underlying103 _ rfl _ _ _ rfl w.heap.size k fr rfl HR5.out HKM.out ks (.agg #[.slice a1 xv.length n1, .slice e1 xl.length m1]) rfl rfl HKS.out ?_; intro w6 hR6 hg6)
        have HG6 : Hid (w6.heap[wo.heap.size]? = some (.cells #[.slice a1 xv.length n1, .int .i64 xlo, .int .i64 xhi, .slice e1 xl.length m1] 48 (0, 0))) := Lib.hid ((hg6.block wo.heap.size (Array.getElem?_eq_some_iff.1 HG5.out).1 (by simp; omega)).trans HG5.out)
        obtain ⟨⟨d0, d1, d2, d3⟩, _, _, _, _⟩ := box_four HG6.out
        have HB6 : Hid (Below w.heap.size w w6) := Lib.hid (HB5.out.grown hg6 HB5.out.size (fun j hj => by cases hj; exact Nat.le_refl _))
        have HP6 := Lib.hid (HP5.out.kept (.of_grown hg6) (by simp))
        have HPI6 := Lib.hid (HPI5.out.kept HR5.out hg6)
        have HR6 := Lib.hid hR6
        have hO6 := HPI6.out.get (keyT ⟨xv, xlo, xhi, xl⟩)
        have hlook := HP6.out.look Tryz.underlying104 (slPer_zero w6) HKS.out
        rw [HKL.out] at hlook
        obtain ⟨pv, hpv⟩ : ∃ pv, pv = (fp (keyT ⟨xv, xlo, xhi, xl⟩)).getD (.slice none 0 0) := ⟨_, rfl⟩
        rw [← hpv] at hlook hO6
        obtain ⟨pl, hpl⟩ : ∃ pl, pl = perOf lk (keyT ⟨xv, xlo, xhi, xl⟩) := ⟨_, rfl⟩
        rw [← hpl] at hO6
        have hplz : pl.length ≤ 100000 := by rw [hpl]; exact Nat.le_trans (perOf_len _ _) HLK.out
        obtain ⟨ap, cp, rfl⟩ := hO6.shape
        have HO6 := Lib.hid hO6
        have HPV := Lib.hid hpv
        have HPL := Lib.hid hpl
        have hn1 := HP6.out.no_row hO6
        have hn2 := HR6.out.no_row hO6
        have HN1 := Lib.hid hn1
        have HN2 := Lib.hid hn2
        clear hR6 hg6 HG5 HB5 HR5 HP5 HPI5 hO6 hpv hpl hn1 hn2
        rw [hlook]
        go_wp2_with (at_builtin; refine wpList_push rfl (.tmp 34) (.tmp 37) 106 rfl perE Tryz.underlying106 w.heap.size (.slice ap pl.length cp) pl rfl HO6.out [(xlo, xhi)] #[.int .i64 xlo, .int .i64 xhi] (Els.one rfl) 1 1 rfl rfl (by decide) (by unfold maxLen; omega) (by show _ * 16 ≤ _; omega) HB6.out.size ?_; intro g cap w7 hP7 hPa)
        have HP7 := Lib.hid (HP6.out.kept hP7.kept (fun e => HN1.out e.symm))
        have HR7 := Lib.hid (HR6.out.kept hP7.kept (fun e => HN2.out e.symm))
        have HB7 : Hid (Below w.heap.size w w7) := Lib.hid (HB6.out.trans hP7.below)
        have HPI7 : Hid (PersIn w7 w.heap.size (lk ++ [⟨xv, xlo, xhi, xl⟩]) (fun y => if y = keyT ⟨xv, xlo, xhi, xl⟩ then some (.slice (some ⟨g, 0, none⟩) (pl.length + 1) cap) else fp y)) := Lib.hid (by
          have h1 := hP7
          rw [HPV.out, HPL.out] at h1
          have h2 := HPI6.out.put (x := ⟨xv, xlo, xhi, xl⟩) HQ.out.symm (n := pl.length + 1) h1 (by rw [HPL.out])
          exact h2)
        clear hP7 hPa HP6 HR6 HB6 HPI6 HO6 HG6 d0 d1 d2 d3 hlook HN1 HN2 HPV HPL
        obtain ⟨w8, hrun8, hP8, hg8⟩ := HP7.out.put Tryz.underlying104 HKM.out HKS.out (.slice (some ⟨g, 0, none⟩) (pl.length + 1) cap)
        rw [hrun8]
        clear hrun8
        go_wp2_with fail
        have HB8 : Hid (Below w.heap.size w w8) := Lib.hid (HB7.out.grown hg8 HB7.out.size (fun j hj => by cases hj; exact Nat.le_succ _))
        have HR8 := Lib.hid (HR7.out.kept (.of_grown hg8) (by simp))
        have HPI8 := Lib.hid (HPI7.out.kept HP7.out hg8)
        rw [HKL.out] at hP8 HR8
        go_roundw
        case rel => exact ⟨k + 1, _, _, by omega, by go_num, HR8.out, hP8, by rw [HTK.out]; exact Lib.hid (HRI.out.put HQ.out.symm HVV.out HLL.out), by rw [HTK.out]; exact HPI8, HB8⟩
        case measure => simp [RowKit.intOf]; omega
    · have hkk : l.take k = l := List.take_of_length_le (by rw [← HN.out]; omega)
      rw [hkk] at HRI HPI
      have HR := Lib.hid hR
      have HP := Lib.hid hP
      have hzo := HB.out.size
      have hr1 := hR.lt
      have hr2 := hP.lt
      clear hkk hR hP hmm
      go_wp2_with (at_range; refine wpList_rangeSV Tryz.underlying103 _ rfl _ rfl w.heap.size k fr rfl HR.out ?_; intro w2 cnt0 hrg0 hg0 hs0)
      go_frame
      have hb2 : Below wo.heap.size wo w2 := (Below.refl _ _).grown hg0 (Nat.le_refl _) (fun j hj => by cases hj)
      have HBO2 := Lib.hid hb2
      have HB2 := Lib.hid (below_keep HB.out hb2)
      have HRG0 := Lib.hid hrg0
      have HZ2 := Lib.hid hs0
      have hz2 : wo.heap.size < w2.heap.size := by omega
      clear hrg0 hg0 hs0 hb2 HR
      go_loopw [8] (fun o wr => ∃ (L : List UInt8 → Bool) (cnt : Nat) (out : List Tup), RngSV wr w.heap.size wo.heap.size k fr L cnt ∧ Own (tupE.avoid fun k => k = wo.heap.size) wr (wo.heap.size + 1) o out ∧ Hid (NrmI l L out) ∧ Hid (Below wo.heap.size w2 wr)) (fun _ wr => wr.rangeLeft w.heap.size wo.heap.size)
      case atStart => exact ⟨_, _, [], HRG0.out, Own.nil _ _ _, Lib.hid (NrmI.start HRI.out.dom), Lib.hid (.refl _ _)⟩
      case round =>
        obtain ⟨L, cnt, out, hrg, hO, HI, HBR⟩ := hrel
        obtain ⟨w6, rfl⟩ : ∃ w6 : World, w6 = wr := ⟨_, rfl⟩
        obtain ⟨ao, co, rfl⟩ := hO.shape
        have HRG := Lib.hid hrg
        have HO := Lib.hid hO
        have hol := HI.out.small
        rw [← HN.out] at hol
        have HB6 : Hid (Below w.heap.size w w6) := Lib.hid (HB2.out.trans (HBR.out.mono (by omega)))
        clear hrg hO
        go_wp2_with (at_next; refine wpList_nextSV _ rfl _ rfl w.heap.size wo.heap.size k fr L cnt rfl HRG.out ?_ ?_)
        · intro hdone
          have HD := Lib.hid hdone
          have HSR := Lib.hid (sortTups_any _ out _ w6 HO.out.forget (by omega))
          clear hdone
          go_wp2_with fail
          refine HSR.out.mono ?_
          rintro _ w7 ⟨rfl, T, hp, hs, hO7, hb7⟩
          obtain ⟨aT, cT, eT⟩ := hO7.shape
          have HO7 := Lib.hid hO7
          have HPM := Lib.hid hp
          have HST := Lib.hid hs
          have HB7 : Hid (Below w.heap.size w w7) := Lib.hid (HB6.out.trans (hb7.mono (by omega)))
          clear hp hs hO7 hb7 eT HSR
          go_wp2_with fail
          go_ret
          exact ⟨T, HI.out.done HD.out HPM.out (HST.out.imp (by intro a b h; omega)), by rw [HPM.out.length_eq, HN.out]; exact HI.out.small, _, rfl, HO7.out.mono (by omega), HB7.out⟩
        · intro s c w7 cnt7 hss hf hL hrg7 hlt7 hg7 hsz7 hen7
          obtain ⟨x, hxl, hxv, hxk, v1, u1, rfl, hv1, hu1⟩ := HRI.out.at' _ _ hf
          obtain ⟨a1, c1, rfl⟩ := hv1.shape
          obtain ⟨b1, d1, rfl⟩ := hu1.shape
          have hky := HK.out x hxl
          obtain ⟨xv, xlo, xhi, xl⟩ := x
          dsimp only at hv1 hu1 hen7
          have HV1 := Lib.hid hv1
          have HU1 := Lib.hid hu1
          have HKY := Lib.hid hky
          have HXK : Hid (rowKeyL (Tup.row ⟨xv, xlo, xhi, xl⟩) = s.data.toList) := Lib.hid hxk
          have HL := Lib.hid hL
          have HLT7 := Lib.hid hlt7
          have HRG7 := Lib.hid hrg7
          have HSS := Lib.hid hss
          have hz6 := HBR.out.size
          have HBR7 : Hid (Below wo.heap.size w2 w7) := Lib.hid (HBR.out.grown hg7 (by omega) (fun j hj => by cases hj; exact Nat.le_refl _))
          have HO7 := Lib.hid (HO.out.else (w' := w7) ⟨by omega, fun k hk hne => hg7.block k hk (fun e => hne (by cases e; rfl))⟩ (fun k hk e => by have := (HO.out.lt k hk).1; cases e; omega))
          have hbo7 : Below wo.heap.size wo w7 := HBO2.out.trans HBR7.out
          have hb8 := below_alloc w7 (.cells #[.slice a1 xv.length c1, .slice b1 xl.length d1] 38)
          have hbo8 := below_keep hbo7 hb8
          have hO8 := (HPI.out.below hbo8).get s.data.toList
          have hlook := (HP.out.below hbo8).look Tryz.underlying104 (slPer_zero _) HSS.out
          obtain ⟨pv, hpv⟩ : ∃ pv, pv = (fp s.data.toList).getD (.slice none 0 0) := ⟨_, rfl⟩
          rw [← hpv] at hlook hO8
          obtain ⟨pl, hpl⟩ : ∃ pl, pl = perOf l s.data.toList := ⟨_, rfl⟩
          rw [← hpl] at hO8
          have hplz : pl.length ≤ 100000 := by rw [hpl]; exact Nat.le_trans (perOf_len _ _) (by rw [← HN.out]; exact hl)
          have hpv2 : ∀ p ∈ pl, pvalid p.1 p.2 = true := by rw [hpl]; exact perOf_valid _ _
          have HLV := Lib.hid (levels_any _ pl _ hO8.sl hplz hpv2)
          obtain ⟨ap, cp, rfl⟩ := hO8.shape
          have HPL := Lib.hid hpl
          have hX8 := World.alloc_heap_new w7 (.cells #[.slice a1 xv.length c1, .slice b1 xl.length d1] 38)
          have HX8 := Lib.hid hX8
          have HO8 := Lib.hid (HO7.out.below hb8)
          have HBR8 : Hid (Below (wo.heap.size + 1) w7 (w7.alloc (.cells #[.slice a1 xv.length c1, .slice b1 xl.length d1] 38))) := Lib.hid (hb8.mono (by omega))
          have hz7 : wo.heap.size < w7.heap.size := by have := HBR7.out.size; omega
          clear hsz7 hv1 hu1 hky hxk hL hlt7 hrg7 hss hf hg7 hbo7 hbo8 hO8 hpv hpl hpv2 hb8 hX8 hxl hxv HO
          go_wp2_with fail
          clear hlook
          refine HLV.out.mono ?_
          rintro _ w9 ⟨M, hM, hMl, vM, rfl, hOM, hb9⟩
          obtain ⟨aM, cM, rfl⟩ := hOM.shape
          have HX9 := Lib.hid (box_kept HX8.out hb9)
          have HO9 := Lib.hid (HO8.out.below hb9)
          have HBR9 := Lib.hid (HBR8.out.trans (hb9.mono (by simp; omega)))
          have HOM := Lib.hid (hOM.mono (B' := w7.heap.size + 1) (by simp))
          have HM := Lib.hid hM
          have HML := Lib.hid hMl
          have hal : ∀ k, (Value.slice ao out.length co).ownBlock = some k → k < w7.heap.size := fun k hk => (HO7.out.lt k hk).2
          have HAP : Hid (Apart (Value.slice ao out.length co) (.slice aM M.length cM)) := Lib.hid (fun k hk e => by have h1 := hal k hk; have h2 := (HOM.out.lt k e).1; omega)
          have HNE : Hid ((Value.slice ao out.length co).ownBlock ≠ some w7.heap.size) := Lib.hid (fun e => by have := hal _ e; omega)
          have hz9 : w7.heap.size < w9.heap.size := (Array.getElem?_eq_some_iff.1 HX9.out).1
          clear hM hOM hb9 hal HLV HX8 HO8 HBR8
          go_wp2_with fail
          go_loopw [52, 8] (fun i o wr => ∃ j : Nat, j ≤ M.length ∧ i = .int .i64 j ∧ Own (tupE.avoid fun k => k = wo.heap.size) wr (wo.heap.size + 1) o (out ++ (M.take j).map fun p => (⟨xv, p.1, p.2, xl⟩ : Tup)) ∧ Own perE wr (w7.heap.size + 1) (.slice aM M.length cM) M ∧ Hid (Apart o (.slice aM M.length cM)) ∧ Hid (o.ownBlock ≠ some w7.heap.size) ∧ Hid (wr.heap[w7.heap.size]? = some (.cells #[.slice a1 xv.length c1, .slice b1 xl.length d1] 38 (0, 0))) ∧ Hid (Below (wo.heap.size + 1) w7 wr)) (fun i _ _ => M.length - (RowKit.intOf i).toNat)
          case atStart => exact ⟨0, Nat.zero_le _, rfl, by simpa using HO9.out, HOM.out, HAP, HNE, HX9, HBR9⟩
          case round =>
            obtain ⟨j, hj, rfl, hOj, hMj, HAj, HNj, HXj, HBj⟩ := hrel
            obtain ⟨wx, rfl⟩ : ∃ wx : World, wx = wr := ⟨_, rfl⟩
            obtain ⟨acc, hacc⟩ : ∃ acc, acc = out ++ (M.take j).map fun p => (⟨xv, p.1, p.2, xl⟩ : Tup) := ⟨_, rfl⟩
            rw [← hacc] at hOj
            obtain ⟨aj, cj, rfl⟩ := hOj.shape
            by_cases hjlt : j < M.length
            · obtain ⟨p, hp⟩ := lget_some M j hjlt
              obtain ⟨b, o, rfl, p0, p1⟩ := pers_at hMj.sl hp
              have HAC : Hid (out ++ (M.take (j + 1)).map (fun p => (⟨xv, p.1, p.2, xl⟩ : Tup)) = acc ++ [⟨xv, p.1, p.2, xl⟩]) := by show _ = _; rw [hacc, take_get hp, List.map_append, List.append_assoc]; rfl
              have hacl : acc.length ≤ 200000 := by rw [hacc, List.length_append, List.length_map, List.length_take]; have := HML.out; omega
              obtain ⟨pl1, ph1⟩ := p
              dsimp only at p0 p1 HAC
              have hba := below_alloc wx (.cells #[.int .i64 pl1, .int .i64 ph1] 46)
              have hXa := box_kept HXj.out hba
              obtain ⟨e0, e1⟩ := box_two' hXa
              have HOa := Lib.hid (hOj.below hba)
              have HMa := Lib.hid (hMj.below hba)
              have HXa := Lib.hid hXa
              have HBa := Lib.hid (below_tr HBj.out (hba.mono (by have := HBj.out.size; omega)))
              have HWa : Hid (Below w.heap.size w (wx.alloc (.cells #[.int .i64 pl1, .int .i64 ph1] 46))) := Lib.hid (below_tr (below_tr HB2.out (HBR7.out.mono (by omega))) (HBa.out.mono (by omega)))
              have hzx := HBj.out.size
              clear hp hOj hMj hba hXa hacc
              go_wp2_with fail
              refine (during_any _ _ ⟨xv, pl1, ph1, xl⟩ _ (HV1.out.below HWa.out).vals (HU1.out.below HWa.out).ints HKY.out.nv HKY.out.nl).mono ?_
              rintro _ wD hN
              obtain ⟨a4, c4, b4, d4, rfl, his⟩ := hN.cells
              have hbD := hN.below
              have HOD := Lib.hid (HOa.out.below hbD)
              have HMD := Lib.hid (HMa.out.below hbD)
              have HXD := Lib.hid (box_kept HXa.out hbD)
              have HBD := Lib.hid (below_tr HBa.out (hbD.mono (by have := HBa.out.size; omega)))
              have HIS : Hid (Els (tupE.avoid fun k => k = wo.heap.size) wD (fun k => some k = (Value.slice aj acc.length cj).ownBlock) [⟨xv, pl1, ph1, xl⟩] [.slice a4 xv.length c4, .int .i64 pl1, .int .i64 ph1, .slice b4 xl.length d4]) := Lib.hid (Els.one (tupE.mono his (fun k _ hk => by
                rcases hk with hk | hk
                · exact (HOa.out.lt k hk.symm).2
                · have := HBa.out.size; omega)))
              have hzD := HBD.out.size
              clear hN his hbD HOa HMa HXa HBa HWa e0 e1
              go_wp2_with (at_builtin; refine wpList_push rfl (.tmp 56) (.tmp 60) 24 rfl (tupE.avoid fun k => k = wo.heap.size) Tryz.underlying24 (wo.heap.size + 1) (.slice aj acc.length cj) acc rfl HOD.out [⟨xv, pl1, ph1, xl⟩] #[.slice a4 xv.length c4, .int .i64 pl1, .int .i64 ph1, .slice b4 xl.length d4] HIS.out 1 1 rfl rfl (by decide) (by unfold maxLen; omega) (by show _ * 64 ≤ _; omega) (by omega) ?_; intro g cap w5 hP hPa)
              go_roundw
              case rel =>
                refine ⟨j + 1, by omega, by go_num, ?_, ?_, ?_, ?_, ?_, ?_⟩
                · rw [HAC.out]; exact hP.own' (by simp)
                · exact hP.keep perE_flat HAj.out HMD.out
                · exact Lib.hid (hP.apart HAj.out (fun k hk => (HMD.out.lt k hk).2))
                · exact Lib.hid (fun e => hP.ne' (n := acc.length + 1) (fun e2 => HNj.out e2.symm) HXD.out e.symm)
                · exact Lib.hid (hP.block (fun e2 => HNj.out e2.symm) HXD.out)
                · exact Lib.hid (HBD.out.trans hP.below)
              case measure => simp [RowKit.intOf]; omega
            · have hjM : j = M.length := by omega
              subst hjM
              have HRGj : Hid (RngSV wx w.heap.size wo.heap.size k fr (fun z => L z && !(z == s.data.toList)) cnt7) := Lib.hid (HRG7.out.below HBj.out (by omega) (Nat.lt_succ_self _))
              have HIj : Hid (NrmI l (fun z => L z && !(z == s.data.toList)) acc) := Lib.hid (by
                have h1 := HPL.out
                have h2 := HM.out
                have h3 := HML.out
                rw [h1, ← HXK.out] at h2 h3
                have h4 := HI.out.step (r := Tup.row ⟨xv, xlo, xhi, xl⟩) (by rw [HXK.out]; exact HL.out) h2 h3
                rw [HXK.out] at h4
                rw [hacc, List.take_of_length_le (Nat.le_refl _)]
                exact h4)
              have HOJ := Lib.hid hOj
              have HBJ : Hid (Below wo.heap.size w2 wx) := Lib.hid (below_tr HBR7.out (HBj.out.mono (by omega)))
              clear hOj hMj hacc
              go_wp2_with fail
              go_roundw
              case rel => exact ⟨_, _, _, HRGj.out, HOJ.out, HIj, HBJ⟩
              case measure =>
                rw [HRGj.out.left_eq, HRG.out.left_eq]
                exact HLT7.out
end Go.Proofs.YtfmbbfidjcgeiaaGreatDoor

namespace Go.Proofs.YtfmbbfidjcgeiaaGreatDoor
open Go.RowKit Go.Lib

section
variable {P : Program} {α : Type}
theorem Sl.toD {E : El P α} {D : Nat → Prop} {w : World} {v : Value} {l : List α} (h : Sl E w D v l) : Sl (E.avoid D) w Go.Proofs.YtfmbbfidjcgeiaaGreatDoor.free v l := by
  obtain ⟨h1, a, c, h2, h3, h4⟩ := h
  refine ⟨h1, a, c, h2, h3, fun hn => ?_⟩
  obtain ⟨b, o, h5, _, h6⟩ := h4 hn
  refine ⟨b, o, h5, id, fun i x hx => ?_⟩
  obtain ⟨cs, h7, h8⟩ := h6 i x hx
  exact ⟨cs, E.mono h7 (fun k _ hk => hk.resolve_left id), h8⟩
/-- A row of the call's own lies in no elder block. -/
theorem Own.slD {E : El P α} {D : Nat → Prop} {w : World} {B : Nat} {v : Value} {l : List α} (h : Own (E.avoid D) w B v l) (hD : ∀ k, D k → k < B) : Sl E w D v l := by
  have hlt := h.lt
  obtain ⟨h1, a, c, rfl, h3, h4⟩ := h.sl
  refine ⟨h1, a, c, rfl, h3, fun hn => ?_⟩
  obtain ⟨b, o, rfl, _, h6⟩ := h4 hn
  refine ⟨b, o, rfl, fun hd => ?_, fun i x hx => ?_⟩
  · have := (hlt b rfl).1
    have := hD b hd
    omega
  · obtain ⟨cs, h7, h8⟩ := h6 i x hx
    exact ⟨cs, E.mono h7 (fun k _ hk => .inr hk), h8⟩
theorem Sl.forget {E : El P α} {D G : Nat → Prop} {w : World} {v : Value} {l : List α} (h : Sl (E.avoid D) w G v l) : Sl E w G v l := by
  obtain ⟨h1, a, c, h2, h3, h4⟩ := h
  refine ⟨h1, a, c, h2, h3, fun hn => ?_⟩
  obtain ⟨b, o, h5, hg, h6⟩ := h4 hn
  refine ⟨b, o, h5, hg, fun i x hx => ?_⟩
  obtain ⟨cs, h7, h8⟩ := h6 i x hx
  exact ⟨cs, E.mono h7 (fun k _ hk => .inl hk), h8⟩
theorem RetOwn.forget {E : El P α} {D : Nat → Prop} {w : World} {l : List α} {e : Ending} {w' : World} (h : RetOwn (E.avoid D) w l e w') : RetOwn E w l e w' := by
  obtain ⟨v, rfl, ho, hb⟩ := h
  exact ⟨v, rfl, ho.forget, hb⟩
end
theorem rowsD_at {D : Nat → Prop} {w : World} {G : Nat → Prop} {a : Option Addr} {n c k : Nat} {l : List GRow} {x : GRow} (h : Sl (rowE.avoid D) w G (.slice a n c) l) (hk : l[k]? = some x) :
    ∃ b o a1 n1 e1 m1, a = some ⟨b, o, none⟩ ∧ Sl valE w (fun k => G k ∨ D k) (.slice a1 x.vals.length n1) x.vals ∧ Sl intE w (fun k => G k ∨ D k) (.slice e1 x.lin.length m1) x.lin ∧
      w.cell? ⟨b, o + k * 2, none⟩ = some (.slice a1 x.vals.length n1) ∧ w.cell? ⟨b, o + k * 2 + 1, none⟩ = some (.slice e1 x.lin.length m1) := by
  obtain ⟨b, o, cs, ha, ⟨v, u, rfl, hv, hu⟩, hc⟩ := Sl.at h hk
  obtain ⟨a1, n1, rfl⟩ := hv.shape
  obtain ⟨e1, m1, rfl⟩ := hu.shape
  exact ⟨b, o, a1, n1, e1, m1, ha, hv, hu, hc 0 _ rfl, hc 1 _ rfl⟩
theorem tupsD_at {D : Nat → Prop} {w : World} {G : Nat → Prop} {a : Option Addr} {n c k : Nat} {l : List Tup} {x : Tup} (h : Sl (tupE.avoid D) w G (.slice a n c) l) (hk : l[k]? = some x) :
    ∃ b o a1 n1 e1 m1, a = some ⟨b, o, none⟩ ∧ Sl valE w (fun k => G k ∨ D k) (.slice a1 x.vals.length n1) x.vals ∧ Sl intE w (fun k => G k ∨ D k) (.slice e1 x.lin.length m1) x.lin ∧
      w.cell? ⟨b, o + k * 4, none⟩ = some (.slice a1 x.vals.length n1) ∧ w.cell? ⟨b, o + k * 4 + 1, none⟩ = some (.int .i64 x.lo) ∧ w.cell? ⟨b, o + k * 4 + 2, none⟩ = some (.int .i64 x.hi) ∧ w.cell? ⟨b, o + k * 4 + 3, none⟩ = some (.slice e1 x.lin.length m1) := by
  obtain ⟨b, o, cs, ha, ⟨v, u, rfl, hv, hu⟩, hc⟩ := Sl.at h hk
  obtain ⟨a1, n1, rfl⟩ := hv.shape
  obtain ⟨e1, m1, rfl⟩ := hu.shape
  exact ⟨b, o, a1, n1, e1, m1, ha, hv, hu, hc 0 _ rfl, hc 1 _ rfl, hc 2 _ rfl, hc 3 _ rfl⟩
end Go.Proofs.YtfmbbfidjcgeiaaGreatDoor

namespace Go.Proofs.YtfmbbfidjcgeiaaGreatDoor
open Go.RowKit Go.Lib

/-- Since the world wS, in which the row was oS: only that row's block was changed, and the row is there or in a new block. -/
structure Since (oS : Value) (wS : World) (o : Value) (w : World) : Prop where
  kept : Kept (fun k => some k = oS.ownBlock) wS w
  place : ∀ k, o.ownBlock = some k → oS.ownBlock = some k ∨ wS.heap.size ≤ k
theorem Since.refl (o : Value) (w : World) : Since o w o w := ⟨⟨Nat.le_refl _, fun _ _ _ => rfl⟩, fun _ h => .inl h⟩
theorem Since.below {oS o : Value} {wS w w' : World} (h : Since oS wS o w) (hb : Below w.heap.size w w') : Since oS wS o w' :=
  ⟨⟨Nat.le_trans h.kept.1 hb.size, fun k h1 h2 => (hb.block k (Nat.lt_of_lt_of_le h1 h.kept.1)).trans (h.kept.2 k h1 h2)⟩, h.place⟩
theorem Since.trans {oS oT o : Value} {wS wT w : World} (h : Since oS wS oT wT) (k : Since oT wT o w) : Since oS wS o w := by
  refine ⟨⟨Nat.le_trans h.kept.1 k.kept.1, fun j h1 h2 => (k.kept.2 j (Nat.lt_of_lt_of_le h1 h.kept.1) fun e => ?_).trans (h.kept.2 j h1 h2)⟩, fun j hj => ?_⟩
  · rcases h.place j e.symm with h3 | h3
    · exact h2 h3.symm
    · omega
  · rcases k.place j hj with h3 | h3
    · exact h.place j h3
    · exact .inr (Nat.le_trans h.kept.1 h3)
theorem Since.push {P : Program} {α : Type} {E : El P α} {B g cap n : Nat} {l : List α} {oS o : Value} {wS w w' : World} (h : Since oS wS o w) (hp : Pushed E B w w' o l g cap) : Since oS wS (.slice (some ⟨g, 0, none⟩) n cap) w' := by
  refine h.trans ⟨hp.kept, fun k hk => ?_⟩
  have e : some g = some k := hk
  cases e
  exact hp.place
theorem Since.sl {P : Program} {α : Type} {E : El P α} {oS o v : Value} {wS w : World} {l : List α} (h : Since oS wS o w) (hv : Sl E wS (fun k => some k = oS.ownBlock) v l) : Sl E w (fun k => some k = oS.ownBlock) v l := hv.kept h.kept
theorem Since.cell {oS o u : Value} {wS w : World} {p : Addr} (h : Since oS wS o w) (hp : some p.block ≠ oS.ownBlock) (hc : wS.cell? p = some u) : w.cell? p = some u := h.kept.cell hp hc
theorem Since.block {oS o : Value} {wS w : World} {k : Nat} {x : Obj} (h : Since oS wS o w) (hp : some k ≠ oS.ownBlock) (hc : wS.heap[k]? = some x) : w.heap[k]? = some x :=
  (h.kept.2 k (Array.getElem?_eq_some_iff.1 hc).1 hp).trans hc
/-- Kept, as one limb of a region's condition. -/
structure Keeps (G : Nat → Prop) (w W : World) : Prop where
  out : Kept G w W
theorem Keeps.refl (G : Nat → Prop) (w : World) : Keeps G w w := ⟨⟨Nat.le_refl _, fun _ _ _ => rfl⟩⟩
theorem keeps_drew {G : Nat → Prop} {w W : World} (h : Keeps G w W) : Keeps G w W.drew := ⟨h.out⟩
theorem keeps_alloc {G : Nat → Prop} {w W : World} {o : Obj} (h : Keeps G w W) : Keeps G w (W.alloc o) :=
  ⟨⟨by rw [World.size_alloc]; exact Nat.le_trans h.out.1 (Nat.le_succ _), fun k h1 h2 => (Below.heap_alloc W o k (Nat.lt_of_lt_of_le h1 h.out.1)).trans (h.out.2 k h1 h2)⟩⟩
theorem keeps_below {G : Nat → Prop} {w W : World} (h : Below w.heap.size w W) : Keeps G w W := ⟨.of_below h⟩
theorem keeps_push {P : Program} {α : Type} {E : El P α} {B g cap : Nat} {w W w' : World} {v : Value} {l : List α} (h : Keeps (fun m => some m = v.ownBlock) w W) (hp : Pushed E B W w' v l g cap) : Keeps (fun m => some m = v.ownBlock) w w' := ⟨h.out.trans hp.kept⟩
/-- A row of the call's own lies in no elder block. -/
theorem Own.slG {w : World} {B : Nat} {v : Value} {l : List Int} {G : Nat → Prop} (h : Own intE w B v l) (hG : ∀ k, G k → k < B) : Sl (P := Tryz.prog) intE w G v l := by
  obtain ⟨h1, a, c, rfl, h2, h3⟩ := h.sl
  refine ⟨h1, a, c, rfl, h2, fun hn => ?_⟩
  obtain ⟨b, o, rfl, _, h4⟩ := h3 hn
  refine ⟨b, o, rfl, fun hg => ?_, fun i x hx => ?_⟩
  · have := (h.lt b rfl).1
    have := hG b hg
    omega
  · obtain ⟨cs, h5, h6⟩ := h4 i x hx
    exact ⟨cs, h5, h6⟩
end Go.Proofs.YtfmbbfidjcgeiaaGreatDoor

namespace Go.Proofs.YtfmbbfidjcgeiaaGreatDoor
open Go.RowKit Go.Lib Go.Maps

/-- What sequenced grouping without keys returns: the normal form of the groups' rows. -/
def GagRet (w : World) (e : List GExp) (kind : Int) (l : List Tup) (en : Ending) (w' : World) : Prop := ∃ T, IsNF (gAll e kind l) T ∧ T.length ≤ (gAll e kind l).length ∧ RetOwn tupE w T en w'
/-- What the call asks for. -/
structure GagPre (w : World) (ba : Nat) (v ve : Value) (l : List Tup) (e : List GExp) (kind : Int) : Prop where
  tups : Tups w v l
  exps : Sl expE w free ve e
  a0 : w.cell? ⟨ba, 0, none⟩ = some (.int .i64 kind)
  a1 : w.cell? ⟨ba, 1, none⟩ = some (.int .i64 0)
  len : l.length ≤ 12
  elen : e.length ≤ 1000
  e64 : ∀ x ∈ e, In64 x.c.n
  days : InDays l
  v64 : ∀ x ∈ l, ∀ g ∈ x.vals, In64 g.n
  lin : ∀ x ∈ l, x.lin.length ≤ 1
  key : ∀ t ∈ gAll e kind l, Keyable t.row
  alld : Days w
  pow : Pow w
theorem slTup_zero (w : World) : (zeroValue 24).run Tryz.prog w = .ok (.slice none 0 0) w := by kernel_rfl
theorem slVal_zero (w : World) : (zeroValue 35).run Tryz.prog w = .ok (.slice none 0 0) w := by kernel_rfl
theorem keyL_nil : keyL [] = [] := rfl
/-- The empty key. -/
abbrev ks0 : ByteArray := ⟨#[]⟩
theorem ks0_list : ks0.data.toList = [] := rfl
theorem Kept.mono8 {G D : Nat → Prop} {w w' : World} (h : Kept G w w') (hs : ∀ k, G k → D k) : Kept D w w' := ⟨h.1, fun k h1 h2 => h.2 k h1 fun h3 => h2 (hs k h3)⟩
theorem cell_keepB {B : Nat} {w w' : World} (hb : Below B w w') {p : Addr} {u : Value} (hp : p.block < B) (hc : w.cell? p = some u) : w'.cell? p = some u := by
  rw [World.cell?_of_block (hb.block _ hp)]; exact hc
theorem gTo_mono {e : List GExp} {kind : Int} {l : List Tup} {pts : List Int} {t : Tup} {i : Nat} : ∀ {j : Nat}, i ≤ j → t ∈ gTo e kind l pts i → t ∈ gTo e kind l pts j
  | 0, h, ht => by obtain rfl : i = 0 := by omega
                   exact ht
  | j + 1, h, ht => by
    rcases Nat.lt_or_eq_of_le h with h | rfl
    · exact List.mem_append.2 (.inl (gTo_mono (by omega) ht))
    · exact ht
theorem keeps_then {G : Nat → Prop} {w W W' : World} (h : Keeps G w W) (hb : Below W.heap.size W W') : Keeps G w W' := ⟨h.out.trans (.of_below hb)⟩
/-- What the two maps and the group's row are, at the head of the tuples' loop. -/
structure GagI (w w7 wr : World) (b10 b11 k : Nat) (gv : Value) (fv fg : List UInt8 → Option Value) (lk : List Tup) : Prop where
  vals : OwnSV wr b10 k fv
  groups : OwnSV wr b11 (k + 1) fg
  fv0 : ∀ s, s ≠ [] → fv s = none
  fvn : (fv []).getD (.slice none 0 0) = .slice none 0 0
  fg0 : ∀ s, s ≠ [] → fg s = none
  fgn : fg [] = some gv
  row : Own (tupE.avoid fun j => w.heap.size ≤ j) wr w7.heap.size gv lk
  kept : Kept (fun j => j = b10 ∨ j = b11) w7 wr
  below : Below w.heap.size w wr
set_option maxHeartbeats 16000000 in
set_option maxRecDepth 100000 in
theorem gagg_any (ba ca : Nat) (v ve : Value) (l : List Tup) (e : List GExp) (kind : Int) (w : World) (h : GagPre w ba v ve l e kind) :
    Calls Tryz.prog 6 #[v, ve, .slice none 0 0, .slice (some ⟨ba, 0, none⟩) 1 ca] w (GagRet w e kind l) := by
  obtain ⟨sa, sc, rfl⟩ := h.tups.shape
  obtain ⟨ea, ec, rfl⟩ := h.exps.shape
  have HH := Lib.hid h
  obtain ⟨n, hn⟩ : ∃ n, n = l.length := ⟨_, rfl⟩
  obtain ⟨ne, hne⟩ : ∃ n, n = e.length := ⟨_, rfl⟩
  have HN := Lib.hid hn
  have HNE := Lib.hid hne
  rw [← hn, ← hne] at HH ⊢
  have hn12 : n ≤ 12 := by rw [hn]; exact h.len
  have hmm := @run_makeMap Tryz.prog
  obtain ⟨w0, hw0⟩ : ∃ w0, w0 = w.alloc (.cells #[.slice ea ne ec, .slice (some ⟨ba, 0, none⟩) 1 ca] 56) := ⟨_, rfl⟩
  obtain ⟨w5, hw5⟩ : ∃ w5, w5 = (w0.alloc (.map #[] 0)).alloc (.map #[] 0) := ⟨_, rfl⟩
  have hz0 : w0.heap.size = w.heap.size + 1 := by rw [hw0, World.size_alloc]
  have hz5 : w5.heap.size = w.heap.size + 3 := by rw [hw5, World.size_alloc, World.size_alloc, hz0]
  have hb0 : Below w.heap.size w w0 := by rw [hw0]; exact below_alloc _ _
  have hb5 : Below w0.heap.size w0 w5 := by rw [hw5]; exact below_alloc_two _ _ _
  have hbx0 : w0.heap[w.heap.size]? = some (.cells #[.slice ea ne ec, .slice (some ⟨ba, 0, none⟩) 1 ca] 56 (0, 0)) := by rw [hw0]; exact World.alloc_heap_new _ _
  have HBX5 := Lib.hid (box_kept hbx0 hb5)
  obtain ⟨b10, hb10⟩ : ∃ b, b = w.heap.size + 1 := ⟨_, rfl⟩
  obtain ⟨b11, hb11⟩ : ∃ b, b = w.heap.size + 1 + 1 := ⟨_, rfl⟩
  have HM10 : Hid (OwnSV w5 b10 0 (fun _ => none)) := Lib.hid (by
    have h1 := (OwnSV.made w0).below (below_alloc _ (.map #[] 0))
    rw [← hw5, hz0] at h1
    rw [hb10]
    exact h1)
  have HM11 : Hid (OwnSV w5 b11 0 (fun _ => none)) := Lib.hid (by
    have h1 := OwnSV.made (w0.alloc (.map #[] 0))
    rw [← hw5, World.size_alloc, hz0] at h1
    rw [hb11]
    exact h1)
  obtain ⟨b9, hb9⟩ : ∃ b, b = w.heap.size := ⟨_, rfl⟩
  have HBS := Lib.hid (And.intro hb9 (And.intro hb10 (And.intro hb11 hz5)))
  have HB5 := Lib.hid (below_keep hb0 hb5)
  have HW0 := Lib.hid hw0
  have HW5 := Lib.hid hw5
  clear h hn hne hw0 hw5 hb0 hb5 hbx0
  go_enter Tryz.func6, Tryz.ntmps6
  go_upto_region 4 with fail
  rw [← HW0.out, ← HW5.out, ← hb11, ← hb10, ← hb9]
  clear hb9 hb10 hb11 hz0 hz5 HW0 HW5 hmm
  go_upto_region 6 with (at_mapUpdate; refine wpList_putSV Tryz.underlying58 _ rfl _ _ _ rfl b11 0 (fun _ => none) rfl HM11.out (by unfold maxLen; omega) ks0 (.slice none 0 0) rfl rfl (by decide) ?_; intro w6 hR6 hg6)
  have HB6 : Hid (Below w.heap.size w w6) := Lib.hid (HB5.out.grown hg6 HB5.out.size (fun j hj => by cases hj; have := HBS.out; omega))
  have HM10' : Hid (OwnSV w6 b10 0 (fun _ => none)) := Lib.hid (HM10.out.kept (.of_grown hg6) (by have := HBS.out; intro h; cases h; omega))
  have HM11' := Lib.hid hR6
  have HBX6 := Lib.hid ((hg6.block w.heap.size (by have := HBS.out; omega) (by have := HBS.out; intro h; cases h; omega)).trans HBX5.out)
  have hz6 : w.heap.size + 3 ≤ w6.heap.size := by have := hg6.size; have := HBS.out; omega
  have HCL := Lib.hid (clip_any w.heap.size _ l w6 HB6.out.size ((HH.out.tups.old (Nat.le_refl _)).below HB6.out) (by rw [← HN.out]; omega) HH.out.days (HH.out.alld.below HB6.out))
  clear hR6 hg6 HB5 HM10 HM11 HBX5
  go_upto_region 6 with fail
  go_wp2_with fail
  refine HCL.out.mono ?_
  rintro _ w7 ⟨v7, rfl, hO7, hb7⟩
  obtain ⟨a7, c7, rfl⟩ := hO7.shape
  rw [← HN.out] at hO7 ⊢
  have HO7 := Lib.hid hO7
  have HI7 : Hid (GagI w w7 w7 b10 b11 0 (.slice none 0 0) (fun _ => none) (fun y => if y = ks0.data.toList then some (.slice none 0 0) else none) []) := Lib.hid
    ⟨HM10'.out.below hb7, HM11'.out.below hb7, fun _ _ => rfl, rfl, (fun s hs => if_neg hs), if_pos rfl, Own.nil _ _ _, ⟨Nat.le_refl _, fun _ _ _ => rfl⟩, below_keep HB6.out hb7⟩
  have HBX7 := Lib.hid (box_kept HBX6.out hb7)
  have HB7 := Lib.hid (below_keep HB6.out hb7)
  have hz7 : w6.heap.size ≤ w7.heap.size := hb7.size
  have hv7 := hO7.lt
  clear hO7 hb7 HCL HM10' HM11' HBX6 HB6
  go_wp2_with fail
  go_loopw [36] (fun i wr => ∃ (k : Nat) (gv : Value) (fv fg : List UInt8 → Option Value), k ≤ n ∧ i = .int .i64 (k : Int) ∧ Hid (GagI w w7 wr b10 b11 k gv fv fg (l.take k))) (fun i _ => n - (RowKit.intOf i).toNat)
  case atStart => exact ⟨0, _, _, _, Nat.zero_le _, rfl, HI7⟩
  case round =>
    obtain ⟨k, gv, fv, fg, hk, rfl, HI⟩ := hrel
    obtain ⟨wo, rfl⟩ : ∃ wo : World, wo = wr := ⟨_, rfl⟩
    by_cases hlt : k < n
    · obtain ⟨x, hx⟩ := lget_some l k (by rw [← HN.out]; exact hlt)
      obtain ⟨b, o, a1, n1, e1, m1, rfl, hvv7, hll7, p0, p1, p2, p3⟩ := tupsD_at HO7.out.sl hx
      have hbq := hv7 b rfl
      have hnb : ¬ (b = b10 ∨ b = b11) := by have := HBS.out; omega
      have hKD : Kept (fun j => free j ∨ w.heap.size ≤ j) w7 wo := HI.out.kept.mono8 fun j hj => .inr (by have := HBS.out; omega)
      replace p0 := HI.out.kept.cell hnb p0
      replace p1 := HI.out.kept.cell hnb p1
      replace p2 := HI.out.kept.cell hnb p2
      replace p3 := HI.out.kept.cell hnb p3
      have hvv := hvv7.kept hKD
      have hll := hll7.kept hKD
      have HT : Hid (l.take (k + 1) = l.take k ++ [x]) := Lib.hid (take_get hx)
      have hlk : (l.take k).length ≤ 12 := by rw [List.length_take]; omega
      obtain ⟨lk, hlke⟩ : ∃ lk, lk = l.take k := ⟨_, rfl⟩
      rw [← hlke] at HI HT hlk
      obtain ⟨ag, cg, hgs⟩ := HI.out.row.shape
      subst hgs
      obtain ⟨xv, xlo, xhi, xl⟩ := x
      dsimp only at p0 p1 p2 p3 hvv hll HT
      obtain ⟨wa, hwa⟩ : ∃ wa, wa = wo.alloc (.cells #[.slice a1 xv.length n1, .int .i64 xlo, .int .i64 xhi, .slice e1 xl.length m1] 48) := ⟨_, rfl⟩
      obtain ⟨bx, hbxe⟩ : ∃ bx, bx = wo.heap.size := ⟨_, rfl⟩
      have hg : wa.heap[bx]? = some (.cells #[.slice a1 xv.length n1, .int .i64 xlo, .int .i64 xhi, .slice e1 xl.length m1] 48 (0, 0)) := by rw [hwa, hbxe]; exact World.alloc_heap_new _ _
      have hba : Below wo.heap.size wo wa := by rw [hwa]; exact below_alloc _ _
      obtain ⟨⟨d0, d1, d2, d3⟩, _⟩ := box_four hg
      have hb11o : b11 < wo.heap.size := HI.out.groups.lt
      have hro := HI.out.row.lt
      have hb10o : b10 < wo.heap.size := HI.out.vals.lt
      have hzo : w7.heap.size ≤ wo.heap.size := HI.out.kept.1
      have HVA := Lib.hid (HI.out.vals.below hba)
      have HGA := Lib.hid (HI.out.groups.below hba)
      have HRA := Lib.hid (HI.out.row.below hba)
      have HKA : Hid (Kept (fun j => j = b10 ∨ j = b11) w7 wa) := Lib.hid (HI.out.kept.trans (.of_below hba))
      have HBA := Lib.hid (below_keep HI.out.below hba)
      have HG := Lib.hid hg
      have HF := Lib.hid (And.intro HI.out.fv0 (And.intro HI.out.fvn (And.intro HI.out.fg0 HI.out.fgn)))
      have HVV := Lib.hid (hvv.below hba)
      have HLL := Lib.hid (hll.below hba)
      have HKY : ∀ W, Below w.heap.size w W → Hid (Calls Tryz.prog 17 #[.slice none 0 0] W fun e' w' => e' = .returned (.string ks0) ∧ Below W.heap.size W w') := fun W hW => Lib.hid (key_any (.slice none 0 0) [] W (Sl.nil _ _ _ _ _) (by simp) (by decide) (HH.out.pow.below hW))
      have HPN := fun u W => Lib.hid (project_none (.slice ea ne ec) u W none 0)
      have HWA := Lib.hid hwa
      have HBXE := Lib.hid hbxe
      clear hx hvv7 hll7 hvv hll hlke hg hba hwa hbxe hKD HI hk
      go_upto_region 9 with fail
      rw [← HWA.out, ← HBXE.out]
      go_wp2_with fail
      refine (HPN _ _).out.mono ?_
      rintro _ _ ⟨rfl, rfl⟩
      go_wp2_with fail
      refine (HKY _ HBA.out).out.mono ?_
      rintro _ w8 ⟨rfl, hb8⟩
      have HV8 := Lib.hid (HVA.out.below hb8)
      have HG8 := Lib.hid (HGA.out.below hb8)
      have HR8 := Lib.hid (HRA.out.below hb8)
      have HK8 : Hid (Kept (fun j => j = b10 ∨ j = b11) w7 w8) := Lib.hid (HKA.out.trans (.of_below hb8))
      have HB8 := Lib.hid (below_keep HBA.out hb8)
      have HX8 := Lib.hid (box_kept HG.out hb8)
      have HVV8 := Lib.hid (HVV.out.below hb8)
      have HLL8 := Lib.hid (HLL.out.below hb8)
      have hza : wo.heap.size ≤ wa.heap.size := by rw [HWA.out, World.size_alloc]; omega
      have hz8 := hb8.size
      clear hb8 HVA HGA HRA HKA HBA HG HVV HLL d0 d1 d2 d3
      have hkm : k < maxLen := by unfold maxLen; omega
      go_upto_region 11 with (at_mapUpdate; refine wpList_putSV Tryz.underlying57 _ rfl _ _ _ rfl b10 k fv rfl HV8.out hkm ks0 (.slice none 0 0) rfl rfl (by decide) ?_; intro w9 hR9 hg9)
      have hK89 := Kept.of_grown hg9
      have hrl := HR8.out.lt
      have HV9 := Lib.hid hR9
      have HG9 := Lib.hid (HG8.out.kept hK89 (by intro h; cases h; have := HBS.out; omega))
      have HR9 := Lib.hid (HR8.out.elseG hK89 (fun j hj => by cases hj; have := HBS.out; omega) (fun j hj h => by cases h; have := (hrl _ hj).1; have := HBS.out; omega))
      have HX9 := Lib.hid ((hg9.block bx (Array.getElem?_eq_some_iff.1 HX8.out).1 (by intro h; cases h; have := HBXE.out; omega)).trans HX8.out)
      have HK9 : Hid (Kept (fun j => j = b10 ∨ j = b11) w7 w9) := Lib.hid (HK8.out.trans (hK89.mono8 fun j hj => .inl (by cases hj; rfl)))
      have HB9 : Hid (Below w.heap.size w w9) := Lib.hid (HB8.out.grown hg9 HB8.out.size (fun j hj => by cases hj; have := HBS.out; omega))
      have hKD : Kept (fun j => free j ∨ w.heap.size ≤ j) w8 w9 := hK89.mono8 fun j hj => .inr (by cases hj; have := HBS.out; omega)
      have HVV9 := Lib.hid (HVV8.out.kept hKD)
      have HLL9 := Lib.hid (HLL8.out.kept hKD)
      have hz9 := hg9.size
      obtain ⟨⟨d0, d1, d2, d3⟩, _⟩ := box_four HX9.out
      have hbxn : ¬ (bx = b11 ∨ some bx = (Value.slice ag lk.length cg).ownBlock) := by
        rintro (h | h)
        · have := HBXE.out; omega
        · have := (hro _ h.symm).2; have h2 := HBXE.out; omega
      have HKP : Hid (∀ W, Keeps (fun j => j = b11 ∨ some j = (Value.slice ag lk.length cg).ownBlock) w9 W → W.cell? ⟨bx, 0, none⟩ = some (.slice a1 xv.length n1) ∧ W.cell? ⟨bx, 1, none⟩ = some (.int .i64 xlo) ∧ W.cell? ⟨bx, 2, none⟩ = some (.int .i64 xhi) ∧ W.cell? ⟨bx, 3, none⟩ = some (.slice e1 xl.length m1)) := Lib.hid fun W hW => ⟨hW.out.cell hbxn d0, hW.out.cell hbxn d1, hW.out.cell hbxn d2, hW.out.cell hbxn d3⟩
      have hb11n : ¬ (some b11 = (Value.slice ag lk.length cg).ownBlock) := fun h => by have := (hrl b11 h.symm).1; have := HBS.out; omega
      have hbb : Keeps (fun j => j = b11 ∨ some j = (Value.slice ag lk.length cg).ownBlock) w9 w9 := Keeps.refl _ _
      have HLK : Hid (∀ W, Below w9.heap.size w9 W → (Instr.lookup 58 (.map (some b11)) (.string ks0) false).run Tryz.prog W = .ok (.slice ag lk.length cg) W) := Lib.hid fun W hW => by
        have h1 := (HG9.out.below hW).look Tryz.underlying58 (slTup_zero W) (s := ks0) (by decide)
        have h2 : fg ks0.data.toList = some (.slice ag lk.length cg) := HF.out.2.2.2
        rw [h2] at h1
        exact h1
      have hz79 : w7.heap.size ≤ w9.heap.size := by omega
      have HIS : Hid (∀ W, Below w9.heap.size w9 W → Els (tupE.avoid fun j => w.heap.size ≤ j) W (fun j => some j = (Value.slice ag lk.length cg).ownBlock) [⟨xv, xlo, xhi, xl⟩] [.slice a1 xv.length n1, .int .i64 xlo, .int .i64 xhi, .slice e1 xl.length m1]) := Lib.hid fun W hW => Els.one ⟨_, _, rfl, (HVV9.out.below hW).mono (fun j _ hj => .inr (hj.elim (fun hj => by have := (hrl j hj.symm).1; have := HBS.out; omega) id)), (HLL9.out.below hW).mono (fun j _ hj => .inr (hj.elim (fun hj => by have := (hrl j hj.symm).1; have := HBS.out; omega) id))⟩
      have HPUT : Hid (∀ W, Below w9.heap.size w9 W → ∀ {W' : World} {v' : Value} {G : Nat → Prop} {B : Nat}, Kept G W W' → Below B W W' → ¬ G b11 → ∃ w12, (Instr.mapUpdate 58 (.map (some b11)) (.string ks0) v').run Tryz.prog W' = .ok () w12 ∧ OwnSV w12 b11 (k + 1 + 1) (fun y => if y = ks0.data.toList then some v' else fg y) ∧ W'.grownBy w12 (some b11)) := Lib.hid fun W hW {W' v' G B} hk2 _ hn => ((HG9.out.below hW).kept hk2 hn).put Tryz.underlying58 (by unfold maxLen; omega) (by decide) v'
      clear hR9 hg9 hK89 HV8 HG8 HR8 HX8 HK8 HB8 HVV8 HLL8 hKD
      go_upto_region 11 with fail
      go_region_held3 (fun W => Keeps (fun j => j = b11 ∨ some j = (Value.slice ag lk.length cg).ownBlock) w9 W ∧ W.cell? ⟨bx, 0, none⟩ = some (.slice a1 xv.length n1) ∧ W.cell? ⟨bx, 1, none⟩ = some (.int .i64 xlo) ∧ W.cell? ⟨bx, 2, none⟩ = some (.int .i64 xhi) ∧ W.cell? ⟨bx, 3, none⟩ = some (.slice e1 xl.length m1))
        ((go_split_ands; refine (fun hKK => ⟨hKK, HKP.out _ hKK⟩) ?_; first | with_reducible assumption | with_reducible exact keeps_drew (by assumption) | with_reducible exact keeps_alloc (by assumption) | with_reducible exact keeps_drew (keeps_alloc (by assumption))))
        (first
          | (go_at_call 17; (with_reducible refine (HKY _ (by first | exact HB9.out.drew | exact below_keep HB9.out (by assumption) | exact (below_alloc_keep HB9.out).drew | exact below_alloc_keep HB9.out.drew | exact below_alloc_keep (below_keep HB9.out (by assumption)))).out.mono ?_); rintro _ wk ⟨rfl, hbk⟩; have hBk : Below w9.heap.size w9 wk := (by first | exact (Below.refl w9.heap.size w9).drew.trans hbk | exact below_keep (by assumption) hbk | exact below_keep ((below_alloc w9 _).drew) hbk | exact below_keep (below_alloc_keep (Below.refl w9.heap.size w9).drew) hbk | exact below_keep (below_alloc_keep (by assumption)) hbk); have hKk := keeps_below (G := fun j => j = b11 ∨ some j = (Value.slice ag lk.length cg).ownBlock) hBk; have hlk1 := HLK.out _ hBk; have hlk2 := fun oo => HLK.out _ (below_alloc_keep (o := oo) hBk))
          | (refine step_push rfl (.tmp 55) (.tmp 57) 24 rfl (tupE.avoid fun j => w.heap.size ≤ j) Tryz.underlying24 w7.heap.size (.slice ag lk.length cg) lk rfl (HR9.out.below hBk) [⟨xv, xlo, xhi, xl⟩] #[.slice a1 xv.length n1, .int .i64 xlo, .int .i64 xhi, .slice e1 xl.length m1] (HIS.out _ hBk) 1 1 rfl rfl (by decide) (by unfold maxLen; omega) (by show _ * 64 ≤ _; omega) (Nat.le_trans hz79 hBk.size) ?_; intro g cap w11 hU hUa; obtain ⟨w12, hrun, hP12, hg12⟩ := (HPUT.out _ hBk (v' := .slice (some ⟨g, 0, none⟩) (lk.length + 1) cap) hU.kept hU.below hb11n); have hK11 : Keeps (fun j => j = b11 ∨ some j = (Value.slice ag lk.length cg).ownBlock) w9 w11 := ⟨hKk.out.trans (hU.kept.mono8 fun j hj => .inr hj)⟩; have hK12 : Keeps (fun j => j = b11 ∨ some j = (Value.slice ag lk.length cg).ownBlock) w9 w12 := ⟨hK11.out.trans ((Kept.of_grown hg12).mono8 fun j hj => .inl (by cases hj; rfl))⟩)
          | (refine step_push_at rfl (.tmp 55) (.tmp 57) 24 rfl (tupE.avoid fun j => w.heap.size ≤ j) Tryz.underlying24 w7.heap.size (.slice ag lk.length cg) lk rfl (HR9.out.below hBk) [⟨xv, xlo, xhi, xl⟩] [.slice a1 xv.length n1, .int .i64 xlo, .int .i64 xhi, .slice e1 xl.length m1] (HIS.out _ hBk) ⟨_, 0, none⟩ 1 1 rfl rfl (fun jj uu hu => by first | exact cell_keep hbk (cells_new _ #[.slice a1 xv.length n1, .int .i64 xlo, .int .i64 xhi, .slice e1 xl.length m1] 48 jj uu hu) | exact cell_keep hbk (cell_drew (cells_new _ #[.slice a1 xv.length n1, .int .i64 xlo, .int .i64 xhi, .slice e1 xl.length m1] 48 jj uu hu)) | exact cell_keep hbk (cell_keep (by assumption) (cell_drew (cells_new _ #[.slice a1 xv.length n1, .int .i64 xlo, .int .i64 xhi, .slice e1 xl.length m1] 48 jj uu hu))) | exact cell_keep hbk (cell_keep (by assumption) (cells_new _ #[.slice a1 xv.length n1, .int .i64 xlo, .int .i64 xhi, .slice e1 xl.length m1] 48 jj uu hu))) (by decide) (by unfold maxLen; omega) (by show _ * 64 ≤ _; omega) (Nat.le_trans hz79 hBk.size) ?_; intro g cap w11 hU; obtain ⟨w12, hrun, hP12, hg12⟩ := (HPUT.out _ hBk (v' := .slice (some ⟨g, 0, none⟩) (lk.length + 1) cap) hU.kept hU.below hb11n); have hK11 : Keeps (fun j => j = b11 ∨ some j = (Value.slice ag lk.length cg).ownBlock) w9 w11 := ⟨hKk.out.trans (hU.kept.mono8 fun j hj => .inr hj)⟩; have hK12 : Keeps (fun j => j = b11 ∨ some j = (Value.slice ag lk.length cg).ownBlock) w9 w12 := ⟨hK11.out.trans ((Kept.of_grown hg12).mono8 fun j hj => .inl (by cases hj; rfl))⟩))
      all_goals (
        have hgl := (hU.own' (n := lk.length + 1) (by simp)).lt
        have HIN : Hid (GagI w w7 w12 b10 b11 (k + 1) (.slice (some ⟨g, 0, none⟩) (lk.length + 1) cap) (fun y => if y = ks0.data.toList then some (.slice none 0 0) else fv y) (fun y => if y = ks0.data.toList then some (.slice (some ⟨g, 0, none⟩) (lk.length + 1) cap) else fg y) (lk ++ [⟨xv, xlo, xhi, xl⟩])) := Lib.hid
          ⟨HV9.out.kept hK12.out (by rintro (h | h); (have := HBS.out; omega); (have := (hrl b10 h.symm).1; have := HBS.out; omega)), hP12,
            (fun s hs => (if_neg hs).trans (HF.out.1 s hs)), by rw [if_pos ks0_list.symm]; rfl, (fun s hs => (if_neg hs).trans (HF.out.2.2.1 s hs)), if_pos ks0_list.symm,
            (hU.own' (n := lk.length + 1) (by simp)).elseG (Kept.of_grown hg12) (fun j hj => by cases hj; have := HBS.out; omega) (fun j hj h => by cases h; have := (hgl _ hj).1; have := HBS.out; omega),
            ⟨Nat.le_trans hz79 hK12.out.1, fun j hj hn => (hK12.out.2 j (by omega) (by rintro (h | h); exact hn (.inr h); have := (hrl j h.symm).1; omega)).trans (HK9.out.2 j hj hn)⟩,
            ((below_keep HB9.out hBk).trans (hU.below.mono (by have := HBS.out; omega))).grown hg12 (Nat.le_trans HB9.out.size (Nat.le_trans hBk.size hU.kept.1)) (fun j hj => by cases hj; have := HBS.out; omega)⟩
        clear hU hP12 hg12 hK11 hK12 hgl hBk hKk hbk hlk1 hlk2 hrun
        go_wp2_with fail
        go_roundw
        case rel => exact ⟨k + 1, _, _, _, by omega, by go_num, by rw [HT.out]; exact HIN⟩
        case measure => simp [RowKit.intOf]; omega)
    · have hkk : l.take k = l := List.take_of_length_le (by rw [← HN.out]; omega)
      rw [hkk] at HI
      have hb11o : b11 < wo.heap.size := HI.out.groups.lt
      have hb10o : b10 < wo.heap.size := HI.out.vals.lt
      have hzo : w7.heap.size ≤ wo.heap.size := HI.out.kept.1
      have HF := Lib.hid (And.intro HI.out.fv0 (And.intro HI.out.fvn (And.intro HI.out.fg0 HI.out.fgn)))
      have hbxo : wo.heap[w.heap.size]? = some (.cells #[.slice ea ne ec, .slice (some ⟨ba, 0, none⟩) 1 ca] 56 (0, 0)) := (HI.out.kept.2 w.heap.size (by omega) (by have := HBS.out; omega)).trans HBX7.out
      have HBXo := Lib.hid hbxo
      clear hk hkk hbxo HBX7 HI7 HB7 HO7 hv7
      go_wp2_with (at_range; refine wpList_rangeSV Tryz.underlying58 _ rfl _ rfl b11 (k + 1) fg rfl HI.out.groups ?_; intro w2 cnt0 hrg0 hg0 hs0)
      go_frame
      have hb2 : Below wo.heap.size wo w2 := (Below.refl _ _).grown hg0 (Nat.le_refl _) (fun j hj => by cases hj)
      have HBO2 := Lib.hid hb2
      have HRG0 := Lib.hid hrg0
      have hz2 : wo.heap.size < w2.heap.size := by omega
      clear hrg0 hg0 hs0 hb2
      go_loopw [15] (fun o wr => ∃ (L : List UInt8 → Bool) (cnt : Nat) (out : List Tup), RngSV wr b11 wo.heap.size (k + 1) fg L cnt ∧ Own (tupE.avoid fun j => j = wo.heap.size) wr (wo.heap.size + 1) o out ∧ Hid (L [] = true ∧ out = [] ∧ o = .slice none 0 0 ∨ L [] = false ∧ out = gAll e kind l) ∧ Hid (Below wo.heap.size w2 wr)) (fun _ wr => wr.rangeLeft b11 wo.heap.size)
      case atStart => exact ⟨_, _, [], HRG0.out, Own.nil _ _ _, Lib.hid (.inl ⟨by show (fg []).isSome = true; rw [HF.out.2.2.2]; rfl, rfl, rfl⟩), Lib.hid (.refl _ _)⟩
      case round =>
        obtain ⟨L, cnt, out, hrg, hO, HI2, HBR⟩ := hrel
        obtain ⟨w6', rfl⟩ : ∃ w6' : World, w6' = wr := ⟨_, rfl⟩
        obtain ⟨ao, co, rfl⟩ := hO.shape
        have HRG := Lib.hid hrg
        have HO := Lib.hid hO
        have HBo6 := Lib.hid (HBO2.out.trans HBR.out)
        clear hrg hO
        go_wp2_with (at_next; refine wpList_nextSV _ rfl _ rfl b11 wo.heap.size (k + 1) fg L cnt rfl HRG.out ?_ ?_)
        · intro hdone
          have hout : out = gAll e kind l := by
            rcases HI2.out with ⟨h, _, _⟩ | ⟨_, h⟩
            · rw [hdone []] at h; cases h
            · exact h
          subst hout
          have hgl : (gAll e kind l).length ≤ 100000 := by
            unfold gAll
            rw [gTo_len]
            have := mvPts_len l
            rw [← HN.out] at this
            omega
          have HNO := Lib.hid (normalize_any _ (gAll e kind l) w6' HO.out.forget.sl hgl HH.out.key (HH.out.pow.below (below_keep HI.out.below HBo6.out)))
          obtain ⟨gl, hge⟩ : ∃ n, n = (gAll e kind l).length := ⟨_, rfl⟩
          have HGE := Lib.hid hge
          rw [← hge] at HNO ⊢
          clear hdone hgl hge
          go_wp2_with fail
          refine HNO.out.mono ?_
          rintro _ w8 ⟨T, hT, hTl, vT, rfl, hOT, hbT⟩
          obtain ⟨aT, cT, rfl⟩ := hOT.shape
          have HT := Lib.hid hT
          have HTL := Lib.hid hTl
          have HOT := Lib.hid hOT
          have HBT := Lib.hid (below_keep (below_keep HI.out.below HBo6.out) hbT)
          have hzz := (below_keep HI.out.below HBo6.out).size
          clear hT hTl hOT hbT HNO
          go_wp2_with fail
          go_ret
          exact ⟨T, HT.out, by rw [← HGE.out]; exact HTL.out, _, rfl, HOT.out.mono hzz, HBT.out⟩
        · intro s c wn cntn hss hf hL hrgn hltn hgn hszn henn
          have hs0 : s.data.toList = [] := by
            rcases Classical.em (s.data.toList = []) with h | h
            · exact h
            · rw [HF.out.2.2.1 _ h] at hf; cases hf
          rw [hs0] at hf hL
          have hc : c = gv := by rw [HF.out.2.2.2] at hf; cases hf; rfl
          subst hc
          have hout : out = [] ∧ ao = none ∧ co = 0 := by
            rcases HI2.out with ⟨_, h1, h2⟩ | ⟨h, _⟩
            · exact ⟨h1, (Value.slice.inj h2).1, (Value.slice.inj h2).2.2⟩
            · rw [h] at hL; cases hL
          obtain ⟨rfl, rfl, rfl⟩ := hout
          have hbn : Below wo.heap.size wo wn := HBo6.out.grown hgn HBo6.out.size (fun j hj => by cases hj; exact Nat.le_refl _)
          have HBn := Lib.hid hbn
          have HRn := Lib.hid (HI.out.row.below hbn)
          have HVn := Lib.hid (HI.out.vals.below hbn)
          have HBXn := Lib.hid (box_kept HBXo.out hbn)
          have HBWn := Lib.hid (below_keep HI.out.below hbn)
          have HOn := Lib.hid (HO.out.else (w' := wn) ⟨by omega, fun j hj hn => hgn.block j hj (fun e => hn (by cases e; rfl))⟩ (fun j hj e => by have := (HO.out.lt j hj).1; omega))
          have HB2n : Hid (Below wo.heap.size w2 wn) := Lib.hid (HBR.out.grown hgn (Nat.le_trans (by omega) HBR.out.size) (fun j hj => by cases hj; exact Nat.le_refl _))
          obtain ⟨ag, cg, hsg⟩ := HI.out.row.shape
          subst hsg
          have HRGn := Lib.hid hrgn
          have HLTn := Lib.hid hltn
          have HS0 := Lib.hid hs0
          have HSS := Lib.hid hss
          have hzn : wo.heap.size < wn.heap.size := by have := HBR.out.size; omega
          rw [← HN.out] at henn ⊢
          have HRn' : Hid (Own (tupE.avoid fun j => w.heap.size ≤ j) wn w7.heap.size (.slice ag n cg) l) := Lib.hid (by have h := HRn.out; rw [← HN.out] at h; exact h)
          have HBD1 := Lib.hid (bnds_any _ l wn HRn'.out.forget.sl (by rw [← HN.out]; omega))
          clear hs0 hf hL hrgn hltn hgn hbn HO HBR HI2 hss
          go_wp2_with fail
          refine HBD1.out.mono ?_
          rintro _ w8 ⟨v8, rfl, hO8, hb8⟩
          obtain ⟨a8, c8, rfl⟩ := hO8.shape
          have HR8 := Lib.hid (HRn'.out.below hb8).forget.sl
          have HBn8 := Lib.hid hb8
          have HBW8 := Lib.hid (below_keep HBWn.out hb8)
          obtain ⟨g0, g1⟩ := HH.out.alld.below (below_keep HBWn.out hb8)
          have HSG : Hid (∀ o, Sl tupE (w8.alloc o) (fun j => some j = (Value.slice (some ⟨w8.heap.size, 0, none⟩) 1 1).ownBlock) (.slice ag n cg) l) := Lib.hid fun o => ((HR8.out.old (Nat.le_refl _)).below (below_alloc w8 o)).mono (fun j _ hj => by
            have hj : some j = some w8.heap.size := hj
            cases hj
            exact Nat.le_refl _)
          generalize (bnds l).length = n8 at *
          clear hO8 hb8 HBD1
          go_wp2_with (at_builtin; refine wpList_join rfl (.tmp 74) (.tmp 75) 24 rfl tupE Tryz.underlying24 w8.heap.size (.slice (some ⟨w8.heap.size, 0, none⟩) 1 1) (.slice ag n cg) [allT] l rfl rfl (own_lit (Els.one ⟨_, _, rfl, Sl.nil _ _ _ _ _, Sl.nil _ _ _ _ _⟩) rfl (by decide)) (HSG.out _) (by rw [← HN.out]; unfold maxLen; simp; omega) (by rw [← HN.out]; show _ * 64 ≤ _; simp; omega) (by simp) (n + 1) (by rw [← HN.out]; simp; omega) ?_; intro aj cj w9 hJ)
          have HBD2 := Lib.hid (bnds_any _ ([allT] ++ l) w9 hJ.own.sl (by simp; rw [← HN.out]; omega))
          have hb9 : Below w8.heap.size w8 w9 := (below_alloc _ _).trans hJ.below
          have HB9 := Lib.hid hb9
          clear hJ hb9 g0 g1
          go_wp2_with fail
          refine HBD2.out.mono ?_
          rintro _ w10 ⟨vp, rfl, hO10, hb10⟩
          have hO10' : Own intE w10 w9.heap.size vp (mvPts l) := hO10
          obtain ⟨pts, hpts⟩ : ∃ pts, pts = mvPts l := ⟨_, rfl⟩
          rw [← hpts] at hO10'
          obtain ⟨ap, cp, rfl⟩ := hO10'.shape
          obtain ⟨np, hnp⟩ : ∃ np, np = pts.length := ⟨_, rfl⟩
          have hpl : np ≤ 26 := by
            have := mvPts_len l
            rw [← hpts, ← hnp, ← HN.out] at this
            omega
          have hS := hO10'.sl
          rw [← hnp] at hS ⊢
          have HP10 := Lib.hid hS
          have HPT := Lib.hid hpts
          have HNP := Lib.hid hnp
          have hbn10 : Below wn.heap.size wn w10 := below_keep (below_keep HBn8.out HB9.out) hb10
          have HBn10 := Lib.hid hbn10
          have HR10 := Lib.hid (HRn'.out.below hbn10).forget.sl
          have HV10 := Lib.hid (HVn.out.below hbn10)
          have HBX10 := Lib.hid (box_kept HBXn.out hbn10)
          have HBW10 := Lib.hid (below_keep HBWn.out hbn10)
          have HB210 : Hid (Below wo.heap.size w2 w10) := Lib.hid (HB2n.out.trans (hbn10.mono (Nat.le_of_lt hzn)))
          have hnp1 : 1 ≤ np := by rw [hnp, hpts]; exact List.length_pos_of_mem (mvPts_mem.2 (.inl rfl))
          clear hO10 hO10' hb10 hS hnp hpts hbn10 HBD2 HR8 HBn8 HBW8 HB9
          go_wp2_with fail
          go_loopw [19, 15] (fun i o wr => ∃ q : Nat, q + 1 ≤ np ∧ i = .int .i64 ((q : Int) + 1) ∧ Own (tupE.avoid fun j => j = wo.heap.size) wr w10.heap.size o (gTo e kind l pts q) ∧ Hid (Below w10.heap.size w10 wr)) (fun i _ _ => np - (RowKit.intOf i).toNat)
          case atStart => exact ⟨0, by omega, rfl, Own.nil _ _ _, Lib.hid (.refl _ _)⟩
          case round =>
            obtain ⟨q, hq, rfl, hOq, HBq⟩ := hrel
            obtain ⟨wq, rfl⟩ : ∃ wq : World, wq = wr := ⟨_, rfl⟩
            obtain ⟨ao, co, rfl⟩ := hOq.shape
            by_cases hlq : q + 1 < np
            · obtain ⟨x, hx⟩ := lget_some pts q (by rw [← HNP.out]; omega)
              obtain ⟨y, hy⟩ := lget_some pts (q + 1) (by rw [← HNP.out]; omega)
              obtain ⟨pb, po, rfl, cx0'⟩ := ints_at' HP10.out hx
              obtain ⟨_, _, e0, cy0'⟩ := ints_at' HP10.out hy
              cases e0
              have cx0 := cell_keep HBq.out cx0'
              have cy0 := cell_keep HBq.out cy0'
              have HGT : Hid (gTo e kind l pts (q + 1) = gTo e kind l pts q ++ [gRow e kind l x y]) := Lib.hid (by rw [gTo, hx, hy]; rfl)
              have hgtl : (gTo e kind l pts q).length ≤ 100 := by rw [gTo_len]; omega
              obtain ⟨acc, hacc⟩ : ∃ acc, acc = gTo e kind l pts q := ⟨_, rfl⟩
              rw [← hacc] at hOq HGT hgtl ⊢
              have HOq := Lib.hid hOq
              have hw1 : IntKind.i64.wrap ((q : Int) + 1 - 1) = (q : Int) := by rw [IntWalk.i64_in _ (by omega)]; omega
              have hw2 : (q : Int) + 1 - 1 = (q : Int) := by omega
              have hqI : (q : Int) + 1 < (np : Int) := by omega
              have hq0 : 0 ≤ (q : Int) + 1 := by omega
              have hqI2 : (q : Int) < (np : Int) := by omega
              have A0 : ∀ oo, (wq.alloc oo).cell? ⟨pb, po + q, none⟩ = some (.int .i64 x) := fun oo => cell_alloc cx0
              have A1 : ∀ oo, (wq.alloc oo).cell? ⟨pb, po + (q + 1), none⟩ = some (.int .i64 y) := fun oo => cell_alloc cy0
              have hw3 : IntKind.i64.wrap (q : Int) = (q : Int) := IntWalk.i64_in _ (by omega)
              clear hx hy cx0' cy0' hacc hOq hq
              go_upto_region 23 with fail
              go_region
              obtain ⟨wp, hwp⟩ : ∃ wp, wp = (wq.alloc (.cells #[.int .i64 x, .int .i64 y] 46)).drew := ⟨_, rfl⟩
              obtain ⟨bp, hbp⟩ : ∃ bp, bp = wq.heap.size := ⟨_, rfl⟩
              rw [← hwp, ← hbp]
              have hpx : wp.heap[bp]? = some (.cells #[.int .i64 x, .int .i64 y] 46 (0, 0)) := by rw [hwp, hbp]; exact World.alloc_heap_new wq _
              have hbwp : Below wq.heap.size wq wp := by rw [hwp]; exact (below_alloc _ _).drew
              obtain ⟨z0, z1, _, _⟩ := box_two hpx
              have hb10p : Below w10.heap.size w10 wp := below_keep HBq.out hbwp
              have hbWp : Below w.heap.size w wp := below_keep HBW10.out hb10p
              have hlkv := (HV10.out.below hb10p).look Tryz.underlying57 (slVal_zero wp) HSS.out
              rw [HS0.out, HF.out.2.1] at hlkv
              have HRW := Lib.hid (row_any b9 ba ca (.slice ea ne ec) (.slice ag n cg) e kind l x none 0 wp (by rw [HBS.out.1]; exact box_kept HBX10.out hb10p) (cell_keep hbWp HH.out.a0) (cell_keep hbWp HH.out.a1) (HH.out.exps.below hbWp) HH.out.elen HH.out.e64 (HR10.out.below hb10p) (by rw [← HN.out]; omega) HH.out.v64 (fun z hz => by have := HH.out.lin z hz; omega))
              have HOp := Lib.hid (HOq.out.below hbwp)
              have HPX := Lib.hid hpx
              have HB10p := Lib.hid hb10p
              have HKEY := Lib.hid (HH.out.key (gRow e kind l x y) (by
                have h1 : gRow e kind l x y ∈ gTo e kind l pts (q + 1) := by rw [HGT.out]; exact List.mem_append.2 (.inr (List.mem_singleton.2 rfl))
                unfold gAll
                rw [← HPT.out]
                exact gTo_mono (by rw [← HNP.out]; omega) h1))
              clear hwp hbp hpx hbwp hb10p hbWp HOq A0 A1 cx0 cy0
              go_wp2_with fail
              refine HRW.out.mono ?_
              rintro _ w11 ⟨rv, ru, bk, rfl, hOv, hOu, hb11⟩
              obtain ⟨av, cv, hrv⟩ := hOv.shape
              obtain ⟨au, cu, hru⟩ := hOu.shape
              subst hrv
              subst hru
              have hvl : ([aggT e 0 kind (holdL l x)] : List GVal).length = 1 := rfl
              obtain ⟨w12, hw12⟩ : ∃ w12, w12 = w11.alloc (.cells #[.slice av 1 cv, .slice au (mergeL (linsOf l x) []).length cu] 38) := ⟨_, rfl⟩
              obtain ⟨b12, hb12e⟩ : ∃ b, b = w11.heap.size := ⟨_, rfl⟩
              have hb12 : Below w11.heap.size w11 w12 := by rw [hw12]; exact below_alloc _ _
              have hrx : w12.heap[b12]? = some (.cells #[.slice av 1 cv, .slice au (mergeL (linsOf l x) []).length cu] 38 (0, 0)) := by rw [hw12, hb12e]; exact World.alloc_heap_new _ _
              obtain ⟨r0, r1, _, _⟩ := box_two hrx
              have hbp12 : Below wp.heap.size wp w12 := below_keep hb11 hb12
              obtain ⟨s0, s1, _, _⟩ := box_two (box_kept HPX.out hbp12)
              have HO12 := Lib.hid (HOp.out.below hbp12)
              have HB1012 := Lib.hid (below_keep HB10p.out hbp12)
              have HDU := Lib.hid (during_any (.slice av 1 cv) (.slice au (mergeL (linsOf l x) []).length cu) ⟨[aggT e 0 kind (holdL l x)], x, y, mergeL (linsOf l x) []⟩ w12 ((hOv.below hb12).sl.vals) ((hOu.below hb12).sl.ints) HKEY.out.nv HKEY.out.nl)
              have HW12 := Lib.hid hw12
              have HB12E := Lib.hid hb12e
              clear hOv hOu hb11 hb12 hrx hbp12 hw12 hb12e HRW HOp HPX HB10p z0 z1 hlkv
              go_upto_region 25 with fail
              rw [← HW12.out, ← HB12E.out]
              go_cut [110] (fun s110 wx => s110 = .bool true ∧ wx = w12)
              case first =>
                cases bk
                · go_wp2_with fail
                  go_meet
                  exact ⟨rfl, rfl⟩
                · go_wp2_with fail
                  go_meet
                  exact ⟨rfl, rfl⟩
              case rest =>
                obtain ⟨rfl, rfl⟩ := hcut
                go_wp2_with fail
                refine HDU.out.mono ?_
                rintro _ wD hN
                obtain ⟨a4, c4, b4, d4, rfl, his⟩ := hN.cells
                have hbD := hN.below
                have HOD := Lib.hid (HO12.out.below hbD)
                have HBD := Lib.hid (below_keep HB1012.out hbD)
                have hzw : wo.heap.size < w10.heap.size := Nat.lt_of_lt_of_le hzn HBn10.out.size
                have HIS : Hid (Els (tupE.avoid fun j => j = wo.heap.size) wD (fun j => some j = (Value.slice ao acc.length co).ownBlock) [⟨[aggT e 0 kind (holdL l x)], x, y, mergeL (linsOf l x) []⟩] [.slice a4 1 c4, .int .i64 x, .int .i64 y, .slice b4 (mergeL (linsOf l x) []).length d4]) := Lib.hid (Els.one (tupE.mono his (fun j _ hj => by
                  rcases hj with hj | hj
                  · exact (HO12.out.lt j hj.symm).2
                  · have := HB1012.out.size; omega)))
                clear hN his hbD HO12 HDU r0 r1 s0 s1
                go_wp2_with (at_builtin; refine wpList_push rfl (.tmp 111) (.tmp 115) 24 rfl (tupE.avoid fun j => j = wo.heap.size) Tryz.underlying24 w10.heap.size (.slice ao acc.length co) acc rfl HOD.out [⟨[aggT e 0 kind (holdL l x)], x, y, mergeL (linsOf l x) []⟩] #[.slice a4 1 c4, .int .i64 x, .int .i64 y, .slice b4 (mergeL (linsOf l x) []).length d4] HIS.out 1 1 rfl rfl (by decide) (by unfold maxLen; omega) (by show _ * 64 ≤ _; omega) HBD.out.size ?_; intro g cap w5' hP hPa)
                go_roundw
                case rel => exact ⟨q + 1, by omega, by go_num, by rw [HGT.out]; exact hP.own' (by simp), Lib.hid (HBD.out.trans hP.below)⟩
                case measure => simp [RowKit.intOf]; omega
            · have hqe : q = pts.length - 1 := by rw [← HNP.out]; omega
              have HGA : Hid (gTo e kind l pts q = gAll e kind l) := Lib.hid (by rw [hqe, HPT.out]; rfl)
              have HRGq := Lib.hid (HRGn.out.below (below_keep HBn10.out HBq.out) (by omega) hzn)
              have hbz : wo.heap.size + 1 ≤ w10.heap.size := by have := HBn10.out.size; omega
              have HOq := Lib.hid (hOq.mono hbz)
              have HBq2 : Hid (Below wo.heap.size w2 wq) := Lib.hid (HB210.out.trans (HBq.out.mono (by omega)))
              clear hOq hqe hq
              go_wp2_with fail
              go_roundw
              case rel => exact ⟨_, _, _, HRGq.out, HOq.out, Lib.hid (.inr ⟨by show (L [] && !(([] : List UInt8) == s.data.toList)) = false; rw [HS0.out]; simp, HGA.out⟩), HBq2⟩
              case measure =>
                rw [HRGq.out.left_eq, HRG.out.left_eq]
                exact HLTn.out
end Go.Proofs.YtfmbbfidjcgeiaaGreatDoor

namespace Go.Proofs.YtfmbbfidjcgeiaaGreatDoor
open Go.RowKit Go.Lib Go.Shelf

def ndCells (d : Nd) : List Value := [.int .i64 (hiW d.s), .int .u64 (loW d.s), .int .i64 d.mn, .int .i64 d.mx]
theorem node_info : (Tryz.prog.info? 117).map (fun i => (i.zero, i.size, i.bytes)) = some (some (.agg #[.int .i64 0, .int .u64 0, .int .i64 0, .int .i64 0]), 4, 32) := by kernel_rfl
def nodeE : El Tryz.prog Nd := El.flat 117 4 32 (by decide) (info_mk node_info rfl) ndCells (fun _ => rfl) (by intro x u hu; simp [ndCells] at hu; rcases hu with rfl | rfl | rfl | rfl <;> rfl)
def nd0 : Nd := ⟨0, 0, 0⟩
theorem ndCells0 : ndCells nd0 = [.int .i64 0, .int .u64 0, .int .i64 0, .int .i64 0] := by
  unfold ndCells nd0 hiW loW
  simp
theorem nd_set {l : List Nd} {k : Nat} (hk : k < l.length) (y : Nd) :
    ((((l.flatMap ndCells).set (k * 4) (.int .i64 (hiW y.s))).set (k * 4 + 1) (.int .u64 (loW y.s))).set (k * 4 + 2) (.int .i64 y.mn)).set (k * 4 + 3) (.int .i64 y.mx) = (l.set k y).flatMap ndCells := by
  induction l generalizing k with
  | nil => simp at hk
  | cons x l ih =>
    cases k with
    | zero => simp [ndCells]
    | succ k =>
      have e0 : (k + 1) * 4 = k * 4 + 1 + 1 + 1 + 1 := by omega
      have h := ih (k := k) (by simpa using hk)
      rw [e0]
      simp only [List.flatMap_cons, List.set_cons_succ, ← h]
      simp [ndCells]
theorem made_nodes (n : Nat) : (madeCells #[.int .i64 0, .int .u64 0, .int .i64 0, .int .i64 0] (n * 4)).toList = (List.replicate n nd0).flatMap ndCells := by
  refine List.ext_getElem? fun j => ?_
  rcases Nat.lt_or_ge j (n * 4) with hj | hj
  · have hi : j / 4 < n := by omega
    have hx : (List.replicate n nd0)[j / 4]? = some nd0 := by simp [hi]
    obtain ⟨r, hr, e⟩ : ∃ r, r < 4 ∧ j = j / 4 * 4 + r := ⟨j % 4, by omega, by omega⟩
    have hm : j % 4 = r := by omega
    have hl : (madeCells #[.int .i64 0, .int .u64 0, .int .i64 0, .int .i64 0] (n * 4)).toList[j]? = some (#[.int .i64 0, .int .u64 0, .int .i64 0, Value.int .i64 0][r]!) := by
      simp [madeCells, hj, hm]
    rw [hl, e]
    rcases (by omega : r = 0 ∨ r = 1 ∨ r = 2 ∨ r = 3) with rfl | rfl | rfl | rfl
    · exact (flatMap_at ndCells 4 (fun _ => rfl) _ _ _ 0 _ hx (by rw [ndCells0]; rfl)).symm
    · exact (flatMap_at ndCells 4 (fun _ => rfl) _ _ _ 1 _ hx (by rw [ndCells0]; rfl)).symm
    · exact (flatMap_at ndCells 4 (fun _ => rfl) _ _ _ 2 _ hx (by rw [ndCells0]; rfl)).symm
    · exact (flatMap_at ndCells 4 (fun _ => rfl) _ _ _ 3 _ hx (by rw [ndCells0]; rfl)).symm
  · have h2 := flatMap_length ndCells 4 (fun _ => rfl) (List.replicate n nd0)
    rw [List.getElem?_eq_none (by simpa [size_madeCells] using hj), List.getElem?_eq_none (by rw [h2]; simpa using hj)]
/-- A tree in memory: its box p, its row of nodes g. -/
structure TreeAt (w : World) (B p g : Nat) (nd : List Nd) (n : Nat) : Prop where
  own : Own nodeE w B (.slice (some ⟨g, 0, none⟩) (2 * n) (2 * n)) nd
  len : nd.length = 2 * n
  box : w.heap[p]? = some (.cells #[.int .i64 (n : Int), .slice (some ⟨g, 0, none⟩) (2 * n) (2 * n)] 112)
  base : B ≤ p
  ne : p ≠ g
theorem own_kept {P : Program} {α : Type} {ty : TypeId} {size bytes : Nat} {pos : 0 < size} {info : ∃ i z, P.info? ty = some i ∧ i.zero = some z ∧ i.size = size ∧ i.bytes = bytes ∧ z.cells.size = size}
    {f : α → List Value} {hf : ∀ x, (f x).length = size} {h1 : ∀ x, ∀ u ∈ f x, u.oneCell' = true} {w w' : World} {G : Nat → Prop} {B : Nat} {v : Value} {l : List α} (h : Own (El.flat (P := P) ty size bytes pos info f hf h1) w B v l) (hk : Kept G w w') (hG : ∀ k, v.ownBlock = some k → ¬ G k) : Own (El.flat (P := P) ty size bytes pos info f hf h1) w' B v l := by
  obtain ⟨xs, ⟨h0, h1⟩, h2⟩ := h
  refine ⟨xs, ⟨h0, ?_⟩, fun i x hx => h2 i x hx⟩
  rcases h1 with h1 | ⟨g, cap, cur, e, hg, hh, r⟩
  · exact .inl h1
  · exact .inr ⟨g, cap, cur, e, hg, by rw [hk.2 g (Array.getElem?_eq_some_iff.1 hh).1 (hG g (by rw [e]; rfl))]; exact hh, r⟩
section
variable {w w' : World} {B p g n : Nat} {nd : List Nd}
theorem TreeAt.kept {G : Nat → Prop} (h : TreeAt w B p g nd n) (hk : Kept G w w') (hp : ¬ G p) (hg : ¬ G g) : TreeAt w' B p g nd n :=
  ⟨own_kept h.own hk (fun k e => by cases e; exact hg), h.len, (hk.2 p (Array.getElem?_eq_some_iff.1 h.box).1 hp).trans h.box, h.base, h.ne⟩
theorem TreeAt.below (h : TreeAt w B p g nd n) (hb : Below w.heap.size w w') : TreeAt w' B p g nd n := h.kept (.of_below (G := free) hb) id id
theorem TreeAt.baseg (h : TreeAt w B p g nd n) : B ≤ g ∧ g < w.heap.size := h.own.lt g rfl
theorem TreeAt.lt (h : TreeAt w B p g nd n) : p < w.heap.size := (Array.getElem?_eq_some_iff.1 h.box).1
theorem TreeAt.c0 (h : TreeAt w B p g nd n) : w.cell? ⟨p, 0, none⟩ = some (.int .i64 (n : Int)) := by simp [World.cell?, h.box]
theorem TreeAt.c1 (h : TreeAt w B p g nd n) : w.cell? ⟨p, 1, none⟩ = some (.slice (some ⟨g, 0, none⟩) (2 * n) (2 * n)) := by simp [World.cell?, h.box]
theorem TreeAt.frozen (h : TreeAt w B p g nd n) (j : Nat) : w.frozen? ⟨g, j, none⟩ = false := by
  have h1 := Own.flat_cells h.own
  rw [h.len] at h1
  exact h1.frozenAt j
theorem TreeAt.node (h : TreeAt w B p g nd n) {k : Nat} {d : Nd} (hk : nd[k]? = some d) :
    w.cell? ⟨g, k * 4, none⟩ = some (.int .i64 (hiW d.s)) ∧ w.cell? ⟨g, k * 4 + 1, none⟩ = some (.int .u64 (loW d.s)) ∧ w.cell? ⟨g, k * 4 + 2, none⟩ = some (.int .i64 d.mn) ∧ w.cell? ⟨g, k * 4 + 3, none⟩ = some (.int .i64 d.mx) := by
  obtain ⟨b, o, cs, ha, rfl, hc⟩ := h.own.sl.at hk
  cases ha
  have h0 := hc 0 _ rfl
  have h1 := hc 1 _ rfl
  have h2 := hc 2 _ rfl
  have h3 := hc 3 _ rfl
  simp only [Nat.zero_add, Nat.add_zero, show nodeE.size = 4 from rfl] at h0 h1 h2 h3
  exact ⟨h0, h1, h2, h3⟩
theorem TreeAt.set (h : TreeAt w B p g nd n) {k : Nat} (hk : k < 2 * n) (y : Nd) :
    TreeAt ((((w.setCell ⟨g, k * 4, none⟩ (.int .i64 (hiW y.s))).setCell ⟨g, k * 4 + 1, none⟩ (.int .u64 (loW y.s))).setCell ⟨g, k * 4 + 2, none⟩ (.int .i64 y.mn)).setCell ⟨g, k * 4 + 3, none⟩ (.int .i64 y.mx)) B p g (nd.set k y) n := by
  have h1 := Own.flat_cells h.own
  rw [h.len] at h1
  have h2 := ((((h1.stored (k * 4) (.int .i64 (hiW y.s))).1.stored (k * 4 + 1) (.int .u64 (loW y.s))).1.stored (k * 4 + 2) (.int .i64 y.mn)).1.stored (k * 4 + 3) (.int .i64 y.mx)).1
  rw [nd_set (by rw [h.len]; exact hk) y] at h2
  refine ⟨Own.of_flat (by simpa [h.len] using h2), by rw [List.length_set]; exact h.len, ?_, h.base, h.ne⟩
  rw [heap_setCell_other _ _ _ _ h.ne, heap_setCell_other _ _ _ _ h.ne, heap_setCell_other _ _ _ _ h.ne, heap_setCell_other _ _ _ _ h.ne]
  exact h.box
end
end Go.Proofs.YtfmbbfidjcgeiaaGreatDoor
