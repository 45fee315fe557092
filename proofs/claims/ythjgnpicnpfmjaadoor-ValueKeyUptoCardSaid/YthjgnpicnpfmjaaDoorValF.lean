/- The program's Key of a list of values. Conditions: the key's length is a machine's; the library's table and variables read as laid. -/
import Derived.Test.YthjgnpicnpfmjaaDoorValE
import Derived.Test.YthjgnpicnpfmjaaDoorShBlw
namespace Go.Proofs.YthjgnpicnpfmjaaDoor
open Go.RowKit

theorem val_at3 {w : World} {G : Nat → Prop} {a : Option Addr} {n c k : Nat} {l : List GVal} {x : GVal} (h : Sl valE w G (.slice a n c) l) (hk : l[k]? = some x) :
    ∃ b o, a = some ⟨b, o, none⟩ ∧ w.cell? ⟨b, o + k * 3, none⟩ = some (.int .i64 x.kind) ∧ w.cell? ⟨b, o + k * 3 + 1, none⟩ = some (.int .i64 x.n) ∧ w.cell? ⟨b, o + k * 3 + 2, none⟩ = some (.string x.s) := by
  obtain ⟨b, o, cs, ha, rfl, hc⟩ := Sl.at h hk
  exact ⟨b, o, ha, hc 0 _ rfl, hc 1 _ rfl, hc 2 _ rfl⟩
theorem bld_alloc {B b : Nat} {bs : List Value} {w : World} {o : Obj} (h : Bld B b bs w) : Bld B b bs (w.alloc o) := bld_below h (below_alloc _ _)
theorem bld_drew {B b : Nat} {bs : List Value} {w : World} (h : Bld B b bs w) : Bld B b bs w.drew := bld_below h (Below.refl _ _).drew
theorem bld_keep {B b : Nat} {bs : List Value} {w w' : World} (h : Bld B b bs w) (hb : Below w.heap.size w w') : Bld B b bs w' := bld_below h hb
theorem Tabs.keep {w w' : World} (h : Tabs w) (hb : Below w.heap.size w w') : Tabs w' := h.below hb
theorem tabs_drew {w : World} (h : Tabs w) : Tabs w.drew := h.below (Below.refl _ _).drew
theorem bkept_box {b g : Nat} {w w' : World} {c : Array Value} {t : TypeId} {fz : Nat × Nat} (hk : BKept b w w') (h : w.heap[g]? = some (.cells c t fz)) (hg : g ≠ b) (ht : t ≠ 5) : w'.heap[g]? = some (.cells c t fz) :=
  hk g _ h (fun e => hg (by cases e; rfl)) (fun c' fz' e => ht (by cases e; rfl))
theorem below_tr {B : Nat} {w W w' : World} (h : Below B w W) (hb : Below B W w') : Below B w w' := h.trans hb
theorem box_drew {w : World} {g : Nat} {o : Obj} (h : w.heap[g]? = some o) : w.drew.heap[g]? = some o := h
def keyBytes (v : GVal) : ByteArray := ⟨(keyOf v).toArray⟩
theorem keyBytes_eq (v : GVal) : keyBytes v = (ByteArray.mk (Lib.itoa v.kind).toArray) ++ (ByteArray.mk #[44]) ++ (ByteArray.mk (Lib.itoa v.n).toArray) ++ (ByteArray.mk #[44]) ++ (ByteArray.mk (Lib.itoa v.s.size).toArray) ++ (ByteArray.mk #[58]) ++ v.s := by
  rw [show v.s = ByteArray.mk v.s.data.toList.toArray from (bytes_mk v.s).symm, show (ByteArray.mk #[44]) = ByteArray.mk [44].toArray from rfl, show (ByteArray.mk #[58]) = ByteArray.mk [58].toArray from rfl]
  simp only [app_bytes, keyBytes, keyOf]
theorem keyOf_length (v : GVal) (hk : In64 v.kind) (hn : In64 v.n) (hs : v.s.size ≤ 9223372036854775807) : (keyOf v).length ≤ 70 + v.s.size := by
  have h1 := Lib.itoa_length_le v.kind hk.1 hk.2
  have h2 := Lib.itoa_length_le v.n hn.1 hn.2
  have h3 := Lib.itoa_length_le v.s.size (by omega) (by omega)
  have h4 := Lib.size_eq v.s
  simp only [keyOf, List.length_append, List.length_singleton]
  omega
theorem key_at_le (l : List GVal) : ∀ (k : Nat) (x : GVal), l[k]? = some x → x.s.size ≤ (keyL l).length ∧ (keyL (l.take k)).length + (keyOf x).length ≤ (keyL l).length := by
  intro k x h
  have e : keyL l = keyL (l.take k) ++ keyOf x ++ keyL (l.drop (k + 1)) := by
    have h1 : l = l.take k ++ (x :: l.drop (k + 1)) := by rw [← drop_get h, List.take_append_drop]
    conv => lhs; rw [h1]
    simp [keyL, List.flatMap_append]
  have h2 : x.s.size ≤ (keyOf x).length := by
    have := Lib.size_eq x.s
    simp only [keyOf, List.length_append, List.length_singleton]
    omega
  rw [e, List.length_append, List.length_append]
  omega
set_option maxHeartbeats 4000000 in
set_option maxRecDepth 100000 in
theorem key_any (v : Value) (l : List GVal) (w : World) (hv : Sl valE w free v l) (hk : ∀ x ∈ l, In64 x.kind ∧ In64 x.n ∧ x.s.size ≤ maxLen) (hlen : (keyL l).length ≤ 140737488355328) (hT : Tabs w) :
    Calls Tryd.prog 20 #[v] w fun e w' => e = .returned (.string ⟨(keyL l).toArray⟩) ∧ Below w.heap.size w w' := by
  obtain ⟨a1, c1, rfl⟩ := hv.shape
  have h63 := hv.1
  have HV := Lib.hid hv
  have HT := Lib.hid hT
  have HK := Lib.hid hk
  have HL := Lib.hid hlen
  obtain ⟨n, hn⟩ : ∃ n, n = l.length := ⟨_, rfl⟩
  have HN := Lib.hid hn
  rw [← hn] at HV h63 ⊢
  clear hv hn hT hk hlen
  go_enter Tryd.func20, Tryd.ntmps20
  go_wp2_with fail
  go_loopw [8] (fun i wr => ∃ k : Nat, k ≤ n ∧ i = .int .i64 k ∧ Hid (Bld w.heap.size w.heap.size (Lib.byteCells (keyL (l.take k))) wr) ∧ Hid (Below w.heap.size w wr)) (fun i _ => n - (intOf i).toNat)
  case atStart => exact ⟨0, Nat.zero_le _, rfl, Lib.hid (bld_fresh w), Lib.hid (below_alloc _ _)⟩
  case round =>
    obtain ⟨k, hk, rfl, HBl, HB⟩ := hrel
    obtain ⟨wo, rfl⟩ : ∃ wo : World, wo = wr := ⟨_, rfl⟩
    by_cases hlt : k < n
    · obtain ⟨x, hx⟩ := lget_some l k (by rw [← HN.out]; exact hlt)
      obtain ⟨b, o, rfl, p0, p1, p2⟩ := val_at3 (HV.out.below HB.out) hx
      have hxm := HK.out x (List.mem_of_getElem? hx)
      have HX := Lib.hid hx
      have hzo := HB.out.size
      obtain ⟨kk, kn, ks⟩ := x
      dsimp only at hxm p0 p1 p2
      have hks : ks.size ≤ 9223372036854775807 := by have := hxm.2.2; unfold maxLen at this; omega
      have HXM := Lib.hid hxm
      clear hx hxm
      have hkk := HXM.out.1
      have hkn := HXM.out.2.1
      have hsz : In64 (ks.size : Int) := by unfold In64; omega
      have hl1 := Lib.itoa_length_le kk hkk.1 hkk.2
      have hl2 := Lib.itoa_length_le kn hkn.1 hkn.2
      have hl3 := Lib.itoa_length_le (ks.size : Int) hsz.1 hsz.2
      have hl4 : ks.size ≤ 140737488355328 := by
        have h1 := key_at_le l k _ HX.out
        have h2 := HL.out
        dsimp only at h1
        omega
      have j1 : ¬ 9223372036854775807 < (Lib.itoa kk).length + 1 := by omega
      have j2 : ¬ 9223372036854775807 < (Lib.itoa kk).length + 1 + (Lib.itoa kn).length := by omega
      have j3 : ¬ 9223372036854775807 < (Lib.itoa kk).length + 1 + (Lib.itoa kn).length + 1 := by omega
      have j4 : ¬ 9223372036854775807 < (Lib.itoa kk).length + 1 + (Lib.itoa kn).length + 1 + (Lib.itoa (ks.size : Int)).length := by omega
      have j5 : ¬ 9223372036854775807 < (Lib.itoa kk).length + 1 + (Lib.itoa kn).length + 1 + (Lib.itoa (ks.size : Int)).length + 1 := by omega
      have j6 : ¬ 9223372036854775807 < (Lib.itoa kk).length + 1 + (Lib.itoa kn).length + 1 + (Lib.itoa (ks.size : Int)).length + 1 + ks.size := by omega
      have hT0 := HT.out.below (below_alloc_keep (o := .cells #[.int .i64 kk, .int .i64 kn, .string ks] 23) HB.out)
      have hB0 := below_alloc_keep (o := .cells #[.int .i64 kk, .int .i64 kn, .string ks] 23) HB.out
      obtain ⟨⟨c0, c1, c2⟩, _⟩ := box_three (heap_alloc_new wo (.cells #[.int .i64 kk, .int .i64 kn, .string ks] 23))
      have hL0 := bld_alloc (o := .cells #[.int .i64 kk, .int .i64 kn, .string ks] 23) HBl.out
      go_wp2_with fail
      have hX0 := heap_alloc_new wo (.cells #[.int .i64 kk, .int .i64 kn, .string ks] 23)
      have hne : wo.heap.size ≠ w.heap.size := by have := bld_lt HBl.out; omega
      have HW : ∀ W : World, Hid (Bld w.heap.size w.heap.size (Lib.byteCells (keyL (l.take k))) W → w.heap.size ≤ W.heap.size → Calls Tryd.prog 34 #[.pointer (some ⟨w.heap.size, 0, none⟩), .string ((ByteArray.mk (Lib.itoa kk).toArray) ++ (ByteArray.mk #[44]) ++ (ByteArray.mk (Lib.itoa kn).toArray) ++ (ByteArray.mk #[44]) ++ (ByteArray.mk (Lib.itoa ks.size).toArray) ++ (ByteArray.mk #[58]) ++ ks)] W fun e w' =>
          e = .returned (.tuple #[.int .i64 ((keyBytes ⟨kk, kn, ks⟩).size : Int), .nilIface]) ∧ Bld w.heap.size w.heap.size (Lib.byteCells (keyL (l.take (k + 1)))) w' ∧ Below w.heap.size W w' ∧ BKept w.heap.size W w') := fun W hL hz => by
        have h1 := keyBytes_eq ⟨kk, kn, ks⟩
        have h2 := key_at_le l k _ HX.out
        have h3 := HL.out
        have h4 : (keyBytes ⟨kk, kn, ks⟩).size = (keyOf ⟨kk, kn, ks⟩).length := by simp [keyBytes, ByteArray.size]
        have h5 : (Lib.byteCells (keyL (l.take k))).length = (keyL (l.take k)).length := by simp [Lib.byteCells]
        dsimp only at h1
        rw [← h1]
        refine (bld_WriteString _ _ _ _ _ hL (by omega) hz).mono ?_
        rintro e w' ⟨h6, h7, h8, h9⟩
        refine ⟨h6, ?_, h8, h9⟩
        have h10 : keyL (l.take (k + 1)) = keyL (l.take k) ++ keyOf ⟨kk, kn, ks⟩ := by rw [take_get HX.out]; simp [keyL, List.flatMap_append]
        rw [h10, byteCells_append, ← strCells_mk (keyOf _)]
        exact h7
      go_region_held3 (fun W => Below w.heap.size w W ∧ Tabs W ∧ W.heap[wo.heap.size]? = some (.cells #[.int .i64 kk, .int .i64 kn, .string ks] 23) ∧ W.cell? ⟨wo.heap.size, 0, none⟩ = some (.int .i64 kk) ∧ W.cell? ⟨wo.heap.size, 1, none⟩ = some (.int .i64 kn) ∧ W.cell? ⟨wo.heap.size, 2, none⟩ = some (.string ks))
        ((go_split_ands; refine ⟨?_, ?_, ?_, ?_, ?_, ?_⟩ <;> first | (with_reducible assumption) | with_reducible exact Below.drew (by assumption) | with_reducible exact tabs_drew (by assumption) | with_reducible exact box_drew (by assumption) | with_reducible exact cell_drew (by assumption) | with_reducible exact below_keep (by assumption) (by assumption) | with_reducible exact Tabs.keep (by assumption) (by assumption) | with_reducible exact box_kept (by assumption) (by assumption) | with_reducible exact cell_keep (by assumption) (by assumption)))
        (first
          | (go_at_call 35; go_split_ands; refine (itoa_any _ (by assumption) _ (by assumption)).mono ?_; rintro e w' ⟨rfl, hb⟩; have hL := bld_keep (by first | assumption | exact bld_drew (by assumption)) hb)
          | (go_at_call 27; go_split_ands; refine (fmtInt_any _ (by assumption) _ (by assumption)).mono ?_; rintro e w' ⟨rfl, hb⟩; have hL := bld_keep (by first | assumption | exact bld_drew (by assumption)) hb)
          | (go_at_call 34; go_split_ands; refine ((HW _).out (by first | assumption | exact bld_drew (by assumption)) (Below.size (by assumption))).mono ?_; rintro e w4 ⟨rfl, hL4, hb4, hk4⟩; have hB4 := below_tr (by assumption) hb4; have hT4 := HT.out.below hB4; have hX4 := bkept_box hk4 (by assumption) hne (by decide); obtain ⟨⟨e0, e1, e2⟩, _⟩ := box_three hX4))
      all_goals
        have HL4 := Lib.hid hL4
        have HB4 := Lib.hid hB4
        clear hL4 hB4 hb4 hk4 hT4 hX4 e0 e1 e2 HW
        go_wp2_with fail
        go_roundw
        case rel => exact ⟨k + 1, by omega, by go_num, HL4, HB4⟩
        case measure => simp [intOf]; omega
    · have hkn : k = n := by omega
      subst hkn
      have hz := HB.out.size
      have HS : Hid (keyL (l.take k) = keyL l) := by rw [List.take_of_length_le (by rw [← HN.out]; exact Nat.le_refl _)]; exact Lib.hid rfl
      go_wp2_with (go_at_call 36; refine (bld_String _ _ _ _ HBl.out hz).mono ?_; rintro e w' ⟨rfl, hw⟩)
      go_ret
      rw [HS.out]
      exact ⟨rfl, HB.out.trans hw⟩
end Go.Proofs.YthjgnpicnpfmjaaDoor
