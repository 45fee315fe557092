/- A part of the proofs: SplC, SplF, SplG, Row, Ord, ShSr, Bag, Tsl, Nfp, Lvp, ValP, ValQ, ValS, ShNum, ShBlw, Key, Nrp, ShSe. No condition beside sizes and tables that read as laid. -/
import Derived.Test.YtnfccpkmaebbiaaGreatDoorMgAa
import Derived.Shelf.SlLaysF0
import Derived.Test.YtnfccpkmaebbiaaGreatDoorProg
import Derived.Shelf.SlSortCmp.NoneTotal
import Derived.Lib.ParseIntBTie
import Derived.Lib.ItoaLen
import Derived.Lib.Replace
import Derived.Lib.SplitLaws
import Derived.Shelf.Strings.Builder1
import Derived.Shelf.Strings.Builder2
import Derived.Shelf.Small.Strs
import Derived.Shelf.Strings.BuilderF
import Derived.Shelf.Strings.BuilderK
import Derived.Shelf.Strconv.Itoa0
import Derived.Shelf.Strconv.Itoa1
import Derived.Shelf.LaysM
import Derived.Shelf.Strconv.Itoa2
import Derived.Shelf.Strconv.Itoa3
import Derived.Shelf.Strconv.Itoa4
import Derived.Shelf.Strconv.ParseIntEmpty
import Derived.Shelf.Strconv.Clone
import Derived.Shelf.Strconv.SyntaxError
import Derived.Shelf.LaysC
import Derived.Shelf.Strconv.ToError
import Derived.Shelf.Strconv.Lower
import Derived.Shelf.Strconv.ParseUint10
import Derived.Shelf.Strconv.ParseUint10Empty
import Derived.Shelf.Strconv.ParseUint10Any
import Derived.Shelf.Strconv.ParseInt10
import Derived.Shelf.Strconv.RangeError
import Derived.Shelf.Strconv.ToErrorRange
import Derived.Shelf.Strconv.ParseUintEmpty
import Derived.Shelf.Strconv.ParseUint10b64
import Derived.Shelf.Strconv.ParseUint10b32
import Derived.Shelf.Strconv.ParseUint10b16
import Derived.Shelf.Strconv.ParseUint10b8
import Derived.Shelf.Strconv.ParseUint10At
import Derived.Shelf.Strconv.ParseInt10At64
import Derived.Shelf.Strconv.ParseInt10At32
import Derived.Shelf.Strconv.ParseInt10At16
import Derived.Shelf.Strconv.ParseInt10At8
import Derived.Shelf.Strconv.ParseInt10All
import Derived.Shelf.Strconv.ParseIntPublic10
import Derived.Shelf.Strconv.ErrVarParseInt
import Derived.Shelf.Strings.Search1
import Derived.Shelf.Strings.Search2
import Derived.Shelf.Strings.Search3
import Derived.Shelf.Strings.Count
import Derived.Shelf.Strings.Shaped
import Derived.Shelf.Strings.Prefix
import Derived.Shelf.Strings.Split
import Derived.Shelf.Strings.Replace
import Derived.Shelf.Strings.SplitShaped
import Derived.Shelf.Unicode.DecodeSlow
import Derived.Lib.SmallJoins
import Derived.Lib.AppendIntMem
namespace Go.Proofs.YtnfccpkmaebbiaaGreatDoor
open Go.RowKit Go.Lib Go.Shelf

/-- A short row and a short lineage. -/
def small (t : Tup) : Bool := decide (t.vals.length ≤ 6) && decide (t.lin.length ≤ 6)
def few (l : List Tup) (m : Nat) : Bool := decide (l.length ≤ m) && l.all small

set_option maxHeartbeats 2000000 in
set_option maxRecDepth 100000 in
theorem few_any (v : Value) (l : List Tup) (m : Nat) (hm : m ≤ 1000) (w : World) (h : Tups w v l) :
    Calls Tryz.prog 13 #[v, .int .i64 m] w fun e w' => e = .returned (.bool (few l m)) ∧ w' = w := by
  obtain ⟨h63, a, c, rfl, hc, hp⟩ := h
  have HP := Lib.hid hp
  clear hp
  obtain ⟨n, hn⟩ : ∃ n, n = l.length := ⟨_, rfl⟩
  have HN := Lib.hid hn
  rw [← hn] at h63 hc HP ⊢
  clear hn
  go_enter Tryz.func13, Tryz.ntmps13
  go_wp2_with fail
  go_loopw [5] (fun i wr => ∃ k : Nat, k ≤ n ∧ k ≤ m + 1 ∧ i = .int .i64 k ∧ (∀ x ∈ l.take k, small x = true) ∧ wr = w) (fun i _ => n - (intOf i).toNat)
  case atStart => exact ⟨0, Nat.zero_le _, Nat.zero_le _, rfl, by simp, rfl⟩
  case round =>
    obtain ⟨k, hk, hkm, rfl, hall, rfl⟩ := hrel
    have HALL := Lib.hid hall
    clear hall
    by_cases hlt : k < n ∧ k ≤ m
    · obtain ⟨hlt1, hlt2⟩ := hlt
      obtain ⟨x, hx⟩ := lget_some l k (by rw [← HN.out]; exact hlt1)
      obtain ⟨b, o, ha, _, hcl⟩ := HP.out (by omega)
      obtain ⟨cs, ⟨v1, v2, hcs, hv1, hv2⟩, hcell⟩ := hcl k x hx
      subst ha
      have a0 : wr.cell? ⟨b, o + k * 4 + 0, none⟩ = some v1 := hcell 0 v1 (by rw [hcs]; rfl)
      have a3 : wr.cell? ⟨b, o + k * 4 + 3, none⟩ = some v2 := hcell 3 v2 (by rw [hcs]; rfl)
      rw [Nat.add_zero] at a0
      obtain ⟨b1, c1, rfl⟩ := hv1.shape
      obtain ⟨b2, c2, rfl⟩ := hv2.shape
      have g1 := hv1.1
      have g2 := hv2.1
      have HX := Lib.hid hx
      clear hx hcl hcs hv1 hv2 hcell
      by_cases hs1 : x.vals.length ≤ 6
      · by_cases hs2 : x.lin.length ≤ 6
        · go_wp2_with fail
          go_roundw
          case rel =>
            refine ⟨k + 1, by omega, by omega, by go_num, ?_, by first | rfl | trivial⟩
            rw [take_get HX.out]; intro y hy
            rcases List.mem_append.1 hy with h | h
            · exact HALL.out y h
            · simp at h; subst h; simp [small, hs1, hs2]
          case measure => simp [intOf]; omega
        · have hff : few l m = false := by
            have h1 : small x = false := by simp [small]; omega
            rw [few, Bool.and_eq_false_iff]; right
            exact List.all_eq_false.2 ⟨x, List.mem_of_getElem? HX.out, by rw [h1]; simp⟩
          have HFF := Lib.hid hff
          clear hff
          go_wp2_with fail
          go_ret
          exact ⟨by rw [HFF.out]; rfl, rfl⟩
      · have hff : few l m = false := by
          have h1 : small x = false := by simp [small]; omega
          rw [few, Bool.and_eq_false_iff]; right
          exact List.all_eq_false.2 ⟨x, List.mem_of_getElem? HX.out, by rw [h1]; simp⟩
        have HFF := Lib.hid hff
        clear hff
        go_wp2_with fail
        go_ret
        exact ⟨by rw [HFF.out]; rfl, rfl⟩
    · have hff : few l m = decide (n ≤ m) := by
        rw [few, ← HN.out]
        by_cases hnm : n ≤ m
        · have : k = n := by omega
          subst this
          have h2 : l.all small = true := by rw [List.all_eq_true]; intro y hy; exact HALL.out y (by rw [List.take_of_length_le (by rw [← HN.out]; omega)]; exact hy)
          rw [h2]; simp
        · simp [hnm]
      have HFF := Lib.hid hff
      clear hff
      by_cases hk3 : k < n
      · have hkd : decide ((k : Int) ≤ (m : Int)) = false := by simp; omega
        go_wp2_with fail
        go_ret
        exact ⟨by rw [HFF.out]; rfl, rfl⟩
      · go_wp2_with fail
        go_ret
        exact ⟨by rw [HFF.out]; rfl, rfl⟩
end Go.Proofs.YtnfccpkmaebbiaaGreatDoor

namespace Go.Proofs.YtnfccpkmaebbiaaGreatDoor
open Go.RowKit Go.Lib Go.Shelf

def cmpInts : List Int → List Int → Int
  | [], [] => 0
  | [], _ :: _ => -1
  | _ :: _, [] => 1
  | a :: l, b :: m => if a < b then -1 else if b < a then 1 else cmpInts l m

set_option maxHeartbeats 2000000 in
set_option maxRecDepth 100000 in
theorem cmpInts_any (v u : Value) (l m : List Int) (w : World) (hv : Reads w 1 v l.length (numCells l)) (hu : Reads w 1 u m.length (numCells m)) :
    Calls Tryz.prog 66 #[v, u] w fun e w' => e = .returned (.int .i64 (cmpInts l m)) ∧ Below w.heap.size w w' := by
  obtain ⟨_, h63, a, c, rfl, hc, hp⟩ := hv
  obtain ⟨_, g63, a2, c2, rfl, hc2, hp2⟩ := hu
  have HP := Lib.hid hp
  have HP2 := Lib.hid hp2
  clear hp hp2
  obtain ⟨n, hn⟩ : ∃ n, n = l.length := ⟨_, rfl⟩
  obtain ⟨n2, hn2⟩ : ∃ n, n = m.length := ⟨_, rfl⟩
  have HN := Lib.hid hn
  have HN2 := Lib.hid hn2
  rw [← hn] at h63 hc HP ⊢
  rw [← hn2] at g63 hc2 HP2 ⊢
  clear hn hn2
  go_enter Tryz.func66, Tryz.ntmps66
  go_wp2_with fail
  go_loopw [5] (fun i wr => ∃ k : Nat, k ≤ n ∧ k ≤ n2 ∧ i = .int .i64 k ∧ Hid (cmpInts (l.drop k) (m.drop k) = cmpInts l m) ∧ ∃ q, wr = w.drewN q) (fun i _ => n - (intOf i).toNat)
  case atStart => exact ⟨0, Nat.zero_le _, Nat.zero_le _, rfl, Lib.hid rfl, 0, rfl⟩
  case round =>
    obtain ⟨k, hk, hk2, rfl, HR, q, rfl⟩ := hrel
    have HB : Hid (Below w.heap.size w (w.drewN q)) := below_drewN (Below.refl _ _) _
    by_cases hlt : k < n ∧ k < n2
    · obtain ⟨hlt1, hlt2⟩ := hlt
      obtain ⟨x, hx⟩ := lget_some l k (by rw [← HN.out]; exact hlt1)
      obtain ⟨y, hy⟩ := lget_some m k (by rw [← HN2.out]; exact hlt2)
      obtain ⟨b, o, ha, hcl⟩ := HP.out (by omega)
      obtain ⟨b2, o2, ha2, hcl2⟩ := HP2.out (by omega)
      subst ha ha2
      have a0 : w.cell? ⟨b, o + k, none⟩ = some (.int .i64 x) := hcl _ _ (numCells_at l k x hx)
      have b0 : w.cell? ⟨b2, o2 + k, none⟩ = some (.int .i64 y) := hcl2 _ _ (numCells_at m k y hy)
      have HS : Hid (cmpInts (l.drop k) (m.drop k) = if x < y then -1 else if y < x then 1 else cmpInts (l.drop (k + 1)) (m.drop (k + 1))) := by rw [drop_get hx, drop_get hy]; exact Lib.hid rfl
      clear hcl hcl2 hx hy
      by_cases h1 : x < y
      · go_wp2_with fail
        go_quiet (fail)
        go_wp2_with fail
        go_ret
        exact ⟨ret_int (by rw [← HR.out, HS.out, if_pos h1]), below_drewN HB.out _⟩
      · by_cases h2 : y < x
        · go_wp2_with fail
          go_quiet (fail)
          go_wp2_with fail
          go_quiet (fail)
          go_wp2_with fail
          go_ret
          exact ⟨ret_int (by rw [← HR.out, HS.out, if_neg (by omega), if_pos h2]), below_drewN (below_drewN HB.out _) _⟩
        · go_wp2_with fail
          go_quiet (fail)
          go_wp2_with fail
          go_quiet (fail)
          go_wp2_with fail
          go_roundw
          case rel => exact ⟨k + 1, by omega, by omega, by go_num, (by show _ = _; rw [← HR.out, HS.out, if_neg (by omega), if_neg (by omega)]), _, rfl⟩
          case measure => simp [intOf]; omega
    · by_cases h1 : k < n
      · have hkn : k = n2 := by omega
        subst hkn
        have HS : Hid (cmpInts l m = 1) := by
          show _ = _
          obtain ⟨x, hx⟩ := lget_some l k (by rw [← HN.out]; exact h1)
          rw [← HR.out, drop_get hx, List.drop_of_length_le (l := m) (by rw [← HN2.out]; omega)]; rfl
        go_wp2_with fail
        go_ret
        exact ⟨ret_int (by rw [HS.out]), HB.out⟩
      · have hkn : k = n := by omega
        subst hkn
        by_cases h2 : k < n2
        · have HS : Hid (cmpInts l m = -1) := by
            show _ = _
            obtain ⟨y, hy⟩ := lget_some m k (by rw [← HN2.out]; exact h2)
            rw [← HR.out, drop_get hy, List.drop_of_length_le (l := l) (by rw [← HN.out]; omega)]; rfl
          go_wp2_with fail
          go_ret
          exact ⟨ret_int (by rw [HS.out]), HB.out⟩
        · have hkn2 : n2 = k := by omega
          subst hkn2
          have HS : Hid (cmpInts l m = 0) := by
            show _ = _
            rw [← HR.out, List.drop_of_length_le (l := l) (by rw [← HN.out]; omega), List.drop_of_length_le (l := m) (by rw [← HN2.out]; omega)]; rfl
          go_wp2_with fail
          go_ret
          exact ⟨ret_int (by rw [HS.out]), HB.out⟩
end Go.Proofs.YtnfccpkmaebbiaaGreatDoor

namespace Go.Proofs.YtnfccpkmaebbiaaGreatDoor
open Go.RowKit Go.Lib Go.Shelf

set_option maxHeartbeats 1000000 in
theorem refRow_any (v u : Value) (lo hi : Int) (w : World) (a b : Option Addr) (n c m d : Nat) (hv : v = .slice a n c) (hu : u = .slice b m d) :
    Calls Tryz.prog 39 #[.agg #[v, .int .i64 lo, .int .i64 hi, u]] w fun e w' => e = .returned (.agg #[v, u]) ∧ Below w.heap.size w w' := by
  subst hv hu
  go_enter Tryz.func39, Tryz.ntmps39
  go_wp2
  refine bodyPost_ret (v := .agg #[.slice a n c, .slice b m d]) ?_ rfl ⟨rfl, below_alloc_two w _ _⟩
  simp [results, Tryz.results39, go_sem]


def sameRowL (l l2 : List GVal) (m m2 : List Int) : Bool := decide (cmpRows l l2 = 0) && decide (cmpInts m m2 = 0)
set_option maxHeartbeats 2000000 in
theorem sameRow_any (v u v2 u2 : Value) (l l2 : List GVal) (m m2 : List Int) (w : World) (hv : Reads w 3 v l.length (valCells l)) (hu : Reads w 1 u m.length (numCells m)) (hv2 : Reads w 3 v2 l2.length (valCells l2)) (hu2 : Reads w 1 u2 m2.length (numCells m2)) :
    Calls Tryz.prog 38 #[.agg #[v, u], .agg #[v2, u2]] w fun e w' => e = .returned (.bool (sameRowL l l2 m m2)) ∧ Below w.heap.size w w' := by
  obtain ⟨a, c, rfl⟩ := reads_shape hv
  obtain ⟨b, d, rfl⟩ := reads_shape hu
  obtain ⟨a2, c2, rfl⟩ := reads_shape hv2
  obtain ⟨b2, d2, rfl⟩ := reads_shape hu2
  have HV := Lib.hid hv
  have HU := Lib.hid hu
  have HV2 := Lib.hid hv2
  have HU2 := Lib.hid hu2
  clear hv hu hv2 hu2
  obtain ⟨r, hr⟩ : ∃ r, r = cmpRows l l2 := ⟨_, rfl⟩
  obtain ⟨r2, hr2⟩ : ∃ r, r = cmpInts m m2 := ⟨_, rfl⟩
  have HR : Hid (sameRowL l l2 m m2 = (decide (r = 0) && decide (r2 = 0))) := by show _ = _; rw [hr, hr2]; rfl
  have HR1 := Lib.hid hr
  have HR2 := Lib.hid hr2
  clear hr hr2
  go_enter Tryz.func38, Tryz.ntmps38
  go_wp2_with fail
  have hb1 : Below w.heap.size w ((w.alloc (.cells #[.slice a l.length c, .slice b m.length d] 36)).alloc (.cells #[.slice a2 l2.length c2, .slice b2 m2.length d2] 36)) := below_alloc_two w _ _
  refine (cmpRows_any _ _ l l2 _ (HV.out.below hb1) (HV2.out.below hb1)).mono ?_
  rw [← HR1.out]
  rintro e w1 ⟨rfl, hb2⟩
  obtain ⟨x0, x1, x2, x3⟩ := box_two (box_kept (heap_alloc_old' w _ _) hb2)
  obtain ⟨y0, y1, y2, y3⟩ := box_two (box_kept (heap_alloc_new' w _ _) hb2)
  have HB : Hid (Below w.heap.size w w1) := hb1.trans (hb2.mono hb1.size)
  clear hb1 hb2
  by_cases h0 : r = 0
  · subst h0
    go_wp2_with fail
    refine (cmpInts_any _ _ m m2 _ (HU.out.below HB.out) (HU2.out.below HB.out)).mono ?_
    rw [← HR2.out]
    rintro e w2 ⟨rfl, hb3⟩
    have HB3 : Hid (Below w.heap.size w w2) := HB.out.trans (hb3.mono HB.out.size)
    clear hb3
    go_wp2_with fail
    go_ret
    exact ⟨ret_bool (by rw [HR.out]; by_cases h2 : r2 = 0 <;> simp [h2]), HB3.out⟩
  · have hne : (r == 0) = false := by simpa using h0
    go_wp2_with fail
    go_ret
    exact ⟨ret_bool (by rw [HR.out]; simp [h0]), HB.out⟩
end Go.Proofs.YtnfccpkmaebbiaaGreatDoor

namespace Go.Proofs.YtnfccpkmaebbiaaGreatDoor
open Go.RowKit Go.Lib Go.Sort

/-- A row. -/
structure GRow where
  vals : List GVal
  lin : List Int
theorem row_info : (Tryz.prog.info? 36).map (fun i => (i.zero, i.size, i.bytes)) = some (some (.agg #[.slice none 0 0, .slice none 0 0]), 2, 48) := by kernel_rfl
/-- Rows. -/
def rowE : El Tryz.prog GRow where
  ty := 36
  size := 2
  bytes := 48
  pos := by decide
  info := info_mk row_info rfl
  is := fun w G t cs => ∃ v u, cs = [v, u] ∧ Sl valE w G v t.vals ∧ Sl intE w G u t.lin
  len := by rintro w G t cs ⟨v, u, rfl, _⟩; rfl
  one := by
    rintro w G t cs ⟨v, u, rfl, h1, h2⟩ x hx
    simp at hx
    rcases hx with rfl | rfl
    · exact h1.one
    · exact h2.one
  mono := by rintro w G G' t cs ⟨v, u, rfl, h1, h2⟩ hm; exact ⟨v, u, rfl, h1.mono hm, h2.mono hm⟩
  kept := by rintro w w' G t cs ⟨v, u, rfl, h1, h2⟩ hk; exact ⟨v, u, rfl, h1.kept hk, h2.kept hk⟩
theorem rows_at {w : World} {G : Nat → Prop} {a : Option Addr} {n c k : Nat} {l : List GRow} {x : GRow} (h : Sl rowE w G (.slice a n c) l) (hk : l[k]? = some x) :
    ∃ b o a1 n1 e1 m1, a = some ⟨b, o, none⟩ ∧ Sl valE w G (.slice a1 x.vals.length n1) x.vals ∧ Sl intE w G (.slice e1 x.lin.length m1) x.lin ∧
      w.cell? ⟨b, o + k * 2, none⟩ = some (.slice a1 x.vals.length n1) ∧ w.cell? ⟨b, o + k * 2 + 1, none⟩ = some (.slice e1 x.lin.length m1) := by
  obtain ⟨b, o, cs, ha, ⟨v, u, rfl, hv, hu⟩, hc⟩ := Sl.at h hk
  obtain ⟨a1, n1, rfl⟩ := hv.shape
  obtain ⟨e1, m1, rfl⟩ := hu.shape
  exact ⟨b, o, a1, n1, e1, m1, ha, hv, hu, hc 0 _ rfl, hc 1 _ rfl⟩
/-- The order of rows. -/
def cmpRow (a b : GRow) : Int := if cmpRows a.vals b.vals = 0 then cmpInts a.lin b.lin else cmpRows a.vals b.vals
theorem cmpInts_cons (x y : Int) (l m : List Int) : cmpInts (x :: l) (y :: m) = if cmpI x y = 0 then cmpInts l m else cmpI x y := by
  rw [cmpInts]
  unfold cmpI
  by_cases h1 : x < y
  · rw [if_pos h1, if_neg (by omega), if_pos h1]
  · by_cases h2 : y < x
    · rw [if_neg h1, if_neg h1, if_pos h2, if_pos h2, if_neg (by omega)]
    · rw [if_neg h1, if_neg h1, if_neg h2, if_neg h2, if_pos rfl]
set_option maxHeartbeats 4000000 in
set_option maxRecDepth 100000 in
theorem slCmp_any (v u : Value) (l m : List Int) (w : World) (hv : Sl intE w free v l) (hu : Sl intE w free u m) :
    Calls Tryz.prog 93 #[v, u] w fun e w' => e = .returned (.int .i64 (cmpInts l m)) ∧ w = w' := by
  obtain ⟨a1, c1, rfl⟩ := hv.shape
  obtain ⟨a2, c2, rfl⟩ := hu.shape
  have h63 := hv.1
  have g63 := hu.1
  have HV := Lib.hid hv
  have HU := Lib.hid hu
  obtain ⟨n, hn⟩ : ∃ n, n = l.length := ⟨_, rfl⟩
  obtain ⟨n2, hn2⟩ : ∃ n, n = m.length := ⟨_, rfl⟩
  have HN := Lib.hid hn
  have HN2 := Lib.hid hn2
  rw [← hn] at HV h63 ⊢
  rw [← hn2] at HU g63 ⊢
  clear hv hu hn hn2
  go_enter Tryz.func93, Tryz.ntmps93
  go_wp2_with fail
  go_loop [11] (fun i => ∃ k : Nat, k ≤ n ∧ k ≤ n2 ∧ i = .int .i64 (k : Int) ∧ Hid (cmpInts (l.drop k) (m.drop k) = cmpInts l m)) (fun i => n - (RowKit.intOf i).toNat)
  case atStart => exact ⟨0, Nat.zero_le _, Nat.zero_le _, rfl, Lib.hid rfl⟩
  case round =>
    obtain ⟨k, hk, hk2, rfl, HR⟩ := hrel
    by_cases hlt : k < n
    · obtain ⟨x, hx⟩ := lget_some l k (by rw [← HN.out]; exact hlt)
      obtain ⟨b, o, rfl, p0⟩ := ints_at' HV.out hx
      by_cases hlt2 : k < n2
      · obtain ⟨y, hy⟩ := lget_some m k (by rw [← HN2.out]; exact hlt2)
        obtain ⟨b2, o2, rfl, q0⟩ := ints_at' HU.out hy
        have HS : Hid (cmpInts (l.drop k) (m.drop k) = if cmpI x y = 0 then cmpInts (l.drop (k + 1)) (m.drop (k + 1)) else cmpI x y) := by rw [drop_get hx, drop_get hy]; exact Lib.hid (cmpInts_cons _ _ _ _)
        obtain ⟨r, hr⟩ : ∃ r, r = cmpI x y := ⟨_, rfl⟩
        have HC := Lib.hid (fun W => cmpInt_any x y W)
        rw [← hr] at HS HC
        clear hx hy hr
        go_wp2_with fail
        refine (HC.out _).mono ?_
        rintro e w3 ⟨rfl, rfl⟩
        by_cases hr0 : r = 0
        · subst hr0
          have HR' : Hid (cmpInts (l.drop (k + 1)) (m.drop (k + 1)) = cmpInts l m) := by show _ = _; rw [← HR.out, HS.out, if_pos rfl]
          go_wp2_with fail
          go_round
          case rel => exact ⟨k + 1, by omega, by omega, by go_num, HR'⟩
          case measure => simp [RowKit.intOf]; omega
        · have HR' : Hid (cmpInts l m = r) := by show _ = _; rw [← HR.out, HS.out, if_neg hr0]
          have hne : (r != 0) = true := by simpa using hr0
          clear hr0
          go_wp2_with fail
          go_ret
          exact ⟨ret_int HR'.out.symm, rfl⟩
      · have hkn : k = n2 := by omega
        subst hkn
        have HS : Hid (cmpInts l m = 1) := by
          show _ = _
          rw [← HR.out, drop_get hx, List.drop_of_length_le (l := m) (by rw [← HN2.out]; exact Nat.le_refl _)]; rfl
        clear hx
        go_wp2_with fail
        go_ret
        exact ⟨ret_int HS.out.symm, rfl⟩
    · have hkn : k = n := by omega
      subst hkn
      by_cases h2 : k < n2
      · have HS : Hid (cmpInts l m = -1) := by
          show _ = _
          obtain ⟨y, hy⟩ := lget_some m k (by rw [← HN2.out]; exact h2)
          rw [← HR.out, drop_get hy, List.drop_of_length_le (l := l) (by rw [← HN.out]; exact Nat.le_refl _)]; rfl
        go_wp2_with fail
        go_ret
        exact ⟨ret_int HS.out.symm, rfl⟩
      · have hkn2 : n2 = k := by omega
        subst hkn2
        have HS : Hid (cmpInts l m = 0) := by
          show _ = _
          rw [← HR.out, List.drop_of_length_le (l := l) (by rw [← HN.out]; exact Nat.le_refl _), List.drop_of_length_le (l := m) (by rw [← HN2.out]; exact Nat.le_refl _)]; rfl
        go_wp2_with fail
        go_ret
        exact ⟨ret_int HS.out.symm, rfl⟩
theorem cell_grew {W W' : World} {p : Addr} {v : Value} (h : Grew W W') (hc : W.cell? p = some v) : W'.cell? p = some v := cell_keep h.below hc
set_option maxHeartbeats 4000000 in
set_option maxRecDepth 100000 in
theorem bagCmp_g (a b : GRow) (v u v2 u2 : Value) (w : World) (hv : Sl valE w free v a.vals) (hu : Sl intE w free u a.lin) (hv2 : Sl valE w free v2 b.vals) (hu2 : Sl intE w free u2 b.lin) :
    Calls Tryz.prog 72 #[.agg #[v, u], .agg #[v2, u2]] w fun e w' => e = .returned (.int .i64 (cmpRow a b)) ∧ Grew w w' := by
  obtain ⟨r1, hr1⟩ : ∃ r, r = cmpRows a.vals b.vals := ⟨_, rfl⟩
  obtain ⟨r2, hr2⟩ : ∃ r, r = cmpInts a.lin b.lin := ⟨_, rfl⟩
  have CR : ∀ W, Grew w W → Hid (Calls Tryz.prog 92 #[v, v2] W fun e w' => e = .returned (.int .i64 r1) ∧ Grew W w') := fun W h => hr1 ▸ valRows_g v v2 a.vals b.vals W (hv.below h.below) (hv2.below h.below)
  have CI : ∀ W, Grew w W → Hid (Calls Tryz.prog 93 #[u, u2] W fun e w' => e = .returned (.int .i64 r2) ∧ W = w') := fun W h => hr2 ▸ slCmp_any u u2 a.lin b.lin W (hu.below h.below) (hu2.below h.below)
  have HR : Hid (orL [r1, r2] = cmpRow a b) := by
    show _ = _
    unfold cmpRow orL orL orL
    rw [← hr1, ← hr2]
    by_cases h1 : r1 = 0
    · rw [if_pos h1, if_pos h1]; split <;> simp_all
    · rw [if_neg h1, if_neg h1]
  have COR : ∀ W : World, Hid (Calls Tryz.prog 83 #[.slice (some ⟨W.heap.size, 0, none⟩) 2 2] (W.alloc (.cells #[.int .i64 r1, .int .i64 r2] 3)).drew fun e w' => e = .returned (.int .i64 (cmpRow a b)) ∧ (W.alloc (.cells #[.int .i64 r1, .int .i64 r2] 3)).drew = w') := fun W => by
    have := cmpOr_any (.slice (some ⟨W.heap.size, 0, none⟩) 2 2) [r1, r2] (W.alloc (.cells #[.int .i64 r1, .int .i64 r2] 3)).drew (Sl.of_block (n := 2) (m := 2) (show (W.alloc (.cells #[.int .i64 r1, .int .i64 r2] 3)).drew.heap[W.heap.size]? = some (.cells #[.int .i64 r1, .int .i64 r2] 3) from World.alloc_heap_new W _) (Els.cons (cs := [.int .i64 r1]) rfl (Els.one (cs := [.int .i64 r2]) rfl)) id rfl (by simp) (by simp))
    rw [HR.out] at this
    exact Lib.hid this
  have CORn : ∀ W : World, Hid (Calls Tryz.prog 83 #[.slice (some ⟨W.heap.size, 0, none⟩) 2 2] (W.alloc (.cells #[.int .i64 r1, .int .i64 r2] 3)) fun e w' => e = .returned (.int .i64 (cmpRow a b)) ∧ (W.alloc (.cells #[.int .i64 r1, .int .i64 r2] 3)) = w') := fun W => by
    have := cmpOr_any (.slice (some ⟨W.heap.size, 0, none⟩) 2 2) [r1, r2] (W.alloc (.cells #[.int .i64 r1, .int .i64 r2] 3)) (Sl.of_block (n := 2) (m := 2) (World.alloc_heap_new W _) (Els.cons (cs := [.int .i64 r1]) rfl (Els.one (cs := [.int .i64 r2]) rfl)) id rfl (by simp) (by simp))
    rw [HR.out] at this
    exact Lib.hid this
  obtain ⟨a1, c1, rfl⟩ := hv.shape
  obtain ⟨a2, c2, rfl⟩ := hu.shape
  obtain ⟨a3, c3, rfl⟩ := hv2.shape
  obtain ⟨a4, c4, rfl⟩ := hu2.shape
  generalize a.vals.length = n1 at CR ⊢
  generalize a.lin.length = n2 at CI ⊢
  generalize b.vals.length = n3 at CR ⊢
  generalize b.lin.length = n4 at CI ⊢
  obtain ⟨z, hz⟩ : ∃ z, z = cmpRow a b := ⟨_, rfl⟩
  rw [← hz] at COR CORn ⊢
  clear hv hu hv2 hu2 hr1 hr2 HR hz
  go_enter Tryz.func72, Tryz.ntmps72
  go_wp2_with fail
  have hB0 := grew_alloc2 w (.cells #[.slice a1 n1 c1, .slice a2 n2 c2] 36) (.cells #[.slice a3 n3 c3, .slice a4 n4 c4] 36)
  obtain ⟨d0, d1, _, _⟩ := box_two (heap_alloc_old' w (.cells #[.slice a1 n1 c1, .slice a2 n2 c2] 36) (.cells #[.slice a3 n3 c3, .slice a4 n4 c4] 36))
  obtain ⟨e0, e1, _, _⟩ := box_two (heap_alloc_new' w (.cells #[.slice a1 n1 c1, .slice a2 n2 c2] 36) (.cells #[.slice a3 n3 c3, .slice a4 n4 c4] 36))
  go_region_held3 (fun W => Grew w W ∧ W.cell? ⟨w.heap.size, 0, none⟩ = some (.slice a1 n1 c1) ∧ W.cell? ⟨w.heap.size, 1, none⟩ = some (.slice a2 n2 c2) ∧ W.cell? ⟨w.heap.size + 1, 0, none⟩ = some (.slice a3 n3 c3) ∧ W.cell? ⟨w.heap.size + 1, 1, none⟩ = some (.slice a4 n4 c4))
    ((go_split_ands; refine ⟨?_, ?_, ?_, ?_, ?_⟩ <;> first | (with_reducible assumption) | with_reducible exact Grew.drew (by assumption) | with_reducible exact cell_drew (by assumption) | with_reducible exact grew_keep (by assumption) (by assumption) | with_reducible exact cell_grew (by assumption) (by assumption) | with_reducible exact grew_alloc_keep (by assumption) | with_reducible exact cell_alloc (by assumption) | with_reducible exact grew_alloc_drew (by assumption) | with_reducible exact cell_alloc_drew (by assumption)))
    (first
      | (go_at_call 92; go_split_ands; refine (CR _ (by first | assumption | exact Grew.drew (by assumption))).out.mono ?_; rintro e' wR ⟨rfl, hgR⟩)
      | (go_at_call 93; go_split_ands; refine (CI _ (by first | assumption | exact Grew.drew (by assumption))).out.mono ?_; rintro e' wI ⟨rfl, rfl⟩)
      | (go_at_call 83; first | (with_reducible refine (COR _).out.mono ?_) | (with_reducible refine (CORn _).out.mono ?_); rintro e' wO ⟨rfl, rfl⟩))
  all_goals go_split_ands
  all_goals go_wp2_with fail
  all_goals go_ret
  all_goals exact ⟨rfl, by assumption⟩
end Go.Proofs.YtnfccpkmaebbiaaGreatDoor

namespace Go.Proofs.YtnfccpkmaebbiaaGreatDoor
open Go.RowKit

/-- Three signs as those of three comparisons in a row. -/
def Sgn3 (x y z : Int) : Prop := (x = -1 ∨ x = 0 ∨ x = 1) ∧ (y = -1 ∨ y = 0 ∨ y = 1) ∧ (z = -1 ∨ z = 0 ∨ z = 1) ∧ (x = 0 → z = y) ∧ (y = 0 → z = x) ∧ (x = -1 → y = -1 → z = -1)
def or2 (x y : Int) : Int := if x = 0 then y else x
theorem Sgn3.or {x y z x' y' z' : Int} (h : Sgn3 x y z) (h' : Sgn3 x' y' z') : Sgn3 (or2 x x') (or2 y y') (or2 z z') := by
  unfold Sgn3 at *
  unfold or2
  obtain ⟨h1, h2, h3, h4, h5, h6⟩ := h
  obtain ⟨k1, k2, k3, k4, k5, k6⟩ := h'
  refine ⟨?_, ?_, ?_, ?_, ?_, ?_⟩ <;> (repeat' split) <;> omega
theorem sgn_int (a b c : Int) : Sgn3 (cmpI a b) (cmpI b c) (cmpI a c) := by
  unfold Sgn3 cmpI
  refine ⟨?_, ?_, ?_, ?_, ?_, ?_⟩ <;> (split <;> (try split) <;> (try split) <;> (try split) <;> (try split) <;> (try split) <;> omega)
theorem cb_swap (a b : List UInt8) : Lib.compareBytes b a = - Lib.compareBytes a b := by
  induction a generalizing b with
  | nil => cases b <;> simp [Lib.compareBytes]
  | cons x a ih =>
    cases b with
    | nil => simp [Lib.compareBytes]
    | cons y b =>
      rw [Lib.compareBytes, Lib.compareBytes, ih b]
      by_cases h1 : x < y
      · have h2 : ¬ y < x := fun h => absurd (UInt8.lt_trans h1 h) (UInt8.lt_irrefl _)
        simp [h1, h2]
      · by_cases h2 : y < x
        · simp [h1, h2]
        · simp [h1, h2]
theorem sgn_bytes (a b c : List UInt8) : Sgn3 (Lib.compareBytes a b) (Lib.compareBytes b c) (Lib.compareBytes a c) := by
  induction a generalizing b c with
  | nil =>
    cases b with
    | nil => cases c <;> simp [Lib.compareBytes, Sgn3]
    | cons y b =>
      cases c with
      | nil => simp [Lib.compareBytes, Sgn3]
      | cons z c =>
        have := (bytesLess_cmp (y :: b) (z :: c)).2.2
        have h1 : Lib.compareBytes [] (y :: b) = -1 := by simp [Lib.compareBytes]
        have h2 : Lib.compareBytes [] (z :: c) = -1 := by simp [Lib.compareBytes]
        rw [h1, h2]
        unfold Sgn3
        omega
  | cons x a ih =>
    cases b with
    | nil =>
      cases c with
      | nil => simp [Lib.compareBytes, Sgn3]
      | cons z c =>
        have := (bytesLess_cmp (x :: a) (z :: c)).2.2
        have h1 : Lib.compareBytes (x :: a) [] = 1 := by simp [Lib.compareBytes]
        have h2 : Lib.compareBytes [] (z :: c) = -1 := by simp [Lib.compareBytes]
        rw [h1, h2]
        unfold Sgn3
        omega
    | cons y b =>
      cases c with
      | nil =>
        have := (bytesLess_cmp (x :: a) (y :: b)).2.2
        have h1 : Lib.compareBytes (x :: a) [] = 1 := by simp [Lib.compareBytes]
        have h2 : Lib.compareBytes (y :: b) [] = 1 := by simp [Lib.compareBytes]
        rw [h1, h2]
        unfold Sgn3
        omega
      | cons z c =>
        have hi := ih b c
        have e : ∀ (p q : UInt8) (l m : List UInt8), Lib.compareBytes (p :: l) (q :: m) = or2 (cmpI p.toNat q.toNat) (Lib.compareBytes l m) := by
          intro p q l m
          rw [Lib.compareBytes, or2, cmpI]
          by_cases h1 : p < q
          · have h1' : (p.toNat : Int) < (q.toNat : Int) := by have := UInt8.lt_iff_toNat_lt.1 h1; omega
            simp [h1, h1']
          · by_cases h2 : q < p
            · have h2' : (q.toNat : Int) < (p.toNat : Int) := by have := UInt8.lt_iff_toNat_lt.1 h2; omega
              have h1' : ¬ (p.toNat : Int) < (q.toNat : Int) := by omega
              simp [h1, h2, h1', h2']
            · have h1' : ¬ (p.toNat : Int) < (q.toNat : Int) := by have := mt UInt8.lt_iff_toNat_lt.2 h1; omega
              have h2' : ¬ (q.toNat : Int) < (p.toNat : Int) := by have := mt UInt8.lt_iff_toNat_lt.2 h2; omega
              simp [h1, h2, h1', h2']
        rw [e, e, e]
        exact (sgn_int _ _ _).or hi
theorem cmpG_or2 (a b : GVal) : cmpG a b = or2 (cmpI a.kind b.kind) (or2 (cmpI a.n b.n) (Lib.compareBytes a.s.data.toList b.s.data.toList)) := by
  rw [← cmpG_or]
  simp only [orL, or2]
  split
  · split
    · split
      · rename_i h; rw [h]
      · rfl
    · rfl
  · rfl
theorem sgn_val (a b c : GVal) : Sgn3 (cmpG a b) (cmpG b c) (cmpG a c) := by
  rw [cmpG_or2, cmpG_or2, cmpG_or2]
  exact (sgn_int _ _ _).or ((sgn_int _ _ _).or (sgn_bytes _ _ _))
theorem cmpI_swap (a b : Int) : cmpI b a = - cmpI a b := by unfold cmpI; split <;> split <;> (try split) <;> omega
theorem cmpG_swap (a b : GVal) : cmpG b a = - cmpG a b := by
  rw [cmpG_or2, cmpG_or2, cmpI_swap a.kind b.kind, cmpI_swap a.n b.n, cb_swap a.s.data.toList b.s.data.toList]
  unfold or2
  split <;> split <;> (try split) <;> (try split) <;> omega
theorem cmpG_same (a b : GVal) : (cmpG a b == 0) = sameG a b := by
  have h := (sgn_val a b b).1
  unfold cmpG at *
  split at h
  · rename_i hl
    rw [if_pos hl]
    have : sameG a b = false := by
      cases hs : sameG a b with
      | false => rfl
      | true =>
        simp only [sameG, Bool.and_eq_true, beq_iff_eq] at hs
        simp only [lessG, hs.1.1, hs.1.2, hs.2] at hl
        simp [bytesLess_irrefl] at hl
    rw [this]; rfl
  · rename_i hl
    rw [if_neg hl]
    cases hs : sameG a b <;> simp
theorem bytes_mk_o (s : ByteArray) : (ByteArray.mk s.data.toList.toArray) = s := by
  obtain ⟨⟨l⟩⟩ := s; rfl
theorem gv_ext {a b : GVal} (h : sameG a b = true) : a = b := by
  obtain ⟨k1, n1, s1⟩ := a
  obtain ⟨k2, n2, s2⟩ := b
  simp only [sameG, Bool.and_eq_true, beq_iff_eq] at h
  obtain ⟨⟨rfl, rfl⟩, h3⟩ := h
  have : s1 = s2 := by
    rw [Lib.toList_data, Lib.toList_data] at h3
    rw [← bytes_mk_o s1, h3, bytes_mk_o]
  rw [this]
theorem cmpG_zero {a b : GVal} : cmpG a b = 0 ↔ a = b := by
  constructor
  · intro h
    refine gv_ext ?_
    rw [← cmpG_same, h]; rfl
  · rintro rfl
    have := cmpG_same a a
    rw [sameG_refl] at this
    simpa using this
theorem cmpRows_zero (l m : List GVal) : cmpRows l m = 0 ↔ l = m := by
  induction l generalizing m with
  | nil => cases m <;> simp [cmpRows]
  | cons a l ih =>
    cases m with
    | nil => simp [cmpRows]
    | cons b m =>
      rw [cmpRows]
      by_cases h : cmpG a b = 0
      · rw [if_pos h, ih]
        have := cmpG_zero.1 h
        simp [this]
      · rw [if_neg h]
        have h2 : ¬ a = b := fun e => h (cmpG_zero.2 e)
        simp [h, h2]
theorem cmpRows_swap (l m : List GVal) : cmpRows m l = - cmpRows l m := by
  induction l generalizing m with
  | nil => cases m <;> simp [cmpRows]
  | cons a l ih =>
    cases m with
    | nil => simp [cmpRows]
    | cons b m =>
      rw [cmpRows, cmpRows, cmpG_swap a b]
      by_cases h : cmpG a b = 0
      · rw [if_pos h, if_pos (by omega), ih]
      · rw [if_neg h, if_neg (by omega)]
theorem cmpRows_cons (x y : GVal) (l m : List GVal) : cmpRows (x :: l) (y :: m) = or2 (cmpG x y) (cmpRows l m) := by rw [cmpRows]; rfl
theorem cmpInts_or (x y : Int) (l m : List Int) : cmpInts (x :: l) (y :: m) = or2 (cmpI x y) (cmpInts l m) := by rw [cmpInts_cons]; rfl
theorem rows_three (l m : List GVal) : cmpRows l m = -1 ∨ cmpRows l m = 0 ∨ cmpRows l m = 1 := by
  induction l generalizing m with
  | nil => cases m <;> simp [cmpRows]
  | cons a l ih =>
    cases m with
    | nil => simp [cmpRows]
    | cons b m =>
      rw [cmpRows_cons]
      have h := (sgn_val a b b).1
      have h2 := ih m
      unfold or2
      split <;> omega
theorem ints_three (l m : List Int) : cmpInts l m = -1 ∨ cmpInts l m = 0 ∨ cmpInts l m = 1 := by
  induction l generalizing m with
  | nil => cases m <;> simp [cmpInts]
  | cons a l ih =>
    cases m with
    | nil => simp [cmpInts]
    | cons b m =>
      rw [cmpInts_or]
      have h := (sgn_int a b b).1
      have h2 := ih m
      unfold or2
      split <;> omega
theorem sgn_rows (l m n : List GVal) : Sgn3 (cmpRows l m) (cmpRows m n) (cmpRows l n) := by
  induction l generalizing m n with
  | nil =>
    cases m with
    | nil => cases n <;> simp [cmpRows, Sgn3]
    | cons b m =>
      cases n with
      | nil => simp [cmpRows, Sgn3]
      | cons c n =>
        show Sgn3 (-1) (cmpRows (b :: m) (c :: n)) (-1)
        have h := rows_three (b :: m) (c :: n)
        unfold Sgn3
        omega
  | cons a l ih =>
    cases m with
    | nil =>
      cases n with
      | nil => simp [cmpRows, Sgn3]
      | cons c n =>
        show Sgn3 1 (-1) (cmpRows (a :: l) (c :: n))
        have h := rows_three (a :: l) (c :: n)
        unfold Sgn3
        omega
    | cons b m =>
      cases n with
      | nil =>
        show Sgn3 (cmpRows (a :: l) (b :: m)) 1 1
        have h := rows_three (a :: l) (b :: m)
        unfold Sgn3
        omega
      | cons c n => rw [cmpRows_cons, cmpRows_cons, cmpRows_cons]; exact (sgn_val a b c).or (ih m n)
theorem sgn_ints (l m n : List Int) : Sgn3 (cmpInts l m) (cmpInts m n) (cmpInts l n) := by
  induction l generalizing m n with
  | nil =>
    cases m with
    | nil => cases n <;> simp [cmpInts, Sgn3]
    | cons b m =>
      cases n with
      | nil => simp [cmpInts, Sgn3]
      | cons c n =>
        show Sgn3 (-1) (cmpInts (b :: m) (c :: n)) (-1)
        have h := ints_three (b :: m) (c :: n)
        unfold Sgn3
        omega
  | cons a l ih =>
    cases m with
    | nil =>
      cases n with
      | nil => simp [cmpInts, Sgn3]
      | cons c n =>
        show Sgn3 1 (-1) (cmpInts (a :: l) (c :: n))
        have h := ints_three (a :: l) (c :: n)
        unfold Sgn3
        omega
    | cons b m =>
      cases n with
      | nil =>
        show Sgn3 (cmpInts (a :: l) (b :: m)) 1 1
        have h := ints_three (a :: l) (b :: m)
        unfold Sgn3
        omega
      | cons c n => rw [cmpInts_or, cmpInts_or, cmpInts_or]; exact (sgn_int a b c).or (ih m n)
theorem cmpI_zero {a b : Int} : cmpI a b = 0 ↔ a = b := by unfold cmpI; split <;> (try split) <;> omega
theorem cmpInts_zero (l m : List Int) : cmpInts l m = 0 ↔ l = m := by
  induction l generalizing m with
  | nil => cases m <;> simp [cmpInts]
  | cons a l ih =>
    cases m with
    | nil => simp [cmpInts]
    | cons b m =>
      rw [cmpInts_cons]
      by_cases h : cmpI a b = 0
      · rw [if_pos h, ih]
        have := cmpI_zero.1 h
        simp [this]
      · rw [if_neg h]
        have h2 : ¬ a = b := fun e => h (cmpI_zero.2 e)
        simp [h, h2]
theorem cmpInts_swap (l m : List Int) : cmpInts m l = - cmpInts l m := by
  induction l generalizing m with
  | nil => cases m <;> simp [cmpInts]
  | cons a l ih =>
    cases m with
    | nil => simp [cmpInts]
    | cons b m =>
      rw [cmpInts_cons, cmpInts_cons, cmpI_swap a b]
      by_cases h : cmpI a b = 0
      · rw [if_pos h, if_pos (by omega), ih]
      · rw [if_neg h, if_neg (by omega)]
theorem cmpRow_or (a b : GRow) : cmpRow a b = or2 (cmpRows a.vals b.vals) (cmpInts a.lin b.lin) := rfl
theorem sgn_row (a b c : GRow) : Sgn3 (cmpRow a b) (cmpRow b c) (cmpRow a c) := by
  rw [cmpRow_or, cmpRow_or, cmpRow_or]
  exact (sgn_rows _ _ _).or (sgn_ints _ _ _)
theorem cmpRow_zero {a b : GRow} : cmpRow a b = 0 ↔ a = b := by
  obtain ⟨v1, l1⟩ := a
  obtain ⟨v2, l2⟩ := b
  unfold cmpRow
  dsimp only
  by_cases h : cmpRows v1 v2 = 0
  · rw [if_pos h, cmpInts_zero, (cmpRows_zero _ _).1 h]
    simp
  · rw [if_neg h]
    have h2 : ¬ v1 = v2 := fun e => h ((cmpRows_zero _ _).2 e)
    simp [h, h2]
theorem cmpRow_swap (a b : GRow) : cmpRow b a = - cmpRow a b := by
  unfold cmpRow
  rw [cmpRows_swap a.vals b.vals, cmpInts_swap a.lin b.lin]
  by_cases h : cmpRows a.vals b.vals = 0
  · rw [if_pos h, if_pos (by omega)]
  · rw [if_neg h, if_neg (by omega)]
/-- Rows in order. -/
def sortR (l : List GRow) : List GRow := l.mergeSort fun a b => decide (cmpRow a b ≤ 0)
theorem sortR_perm (l : List GRow) : (sortR l).Perm l := List.mergeSort_perm _ _
theorem sortR_length (l : List GRow) : (sortR l).length = l.length := (sortR_perm l).length_eq
theorem sortR_pairwise (l : List GRow) : (sortR l).Pairwise fun a b => cmpRow a b ≤ 0 := by
  have h := List.pairwise_mergeSort (le := fun a b : GRow => decide (cmpRow a b ≤ 0)) (fun a b c h1 h2 => by
    have h := sgn_row a b c
    unfold Sgn3 at h
    simp only [decide_eq_true_eq] at *
    omega) (fun a b => by
    have h := cmpRow_swap a b
    simp only [Bool.or_eq_true, decide_eq_true_eq]
    omega) l
  exact h.imp (by intro a b h; simpa using h)
/-- What is in order is the rows in order. -/
theorem sortR_unique {l m : List GRow} (h : m.Perm l) (hp : m.Pairwise fun a b => ¬ cmpRow b a < 0) : m = sortR l := by
  refine List.Perm.eq_of_pairwise (le := fun a b => cmpRow a b ≤ 0) (fun a b _ _ h1 h2 => ?_) (hp.imp (by intro a b h; have := cmpRow_swap a b; omega)) (sortR_pairwise l) (h.trans (sortR_perm l).symm)
  have := cmpRow_swap a b
  exact cmpRow_zero.1 (by omega)
theorem sortR_congr {l m : List GRow} (h : l.Perm m) : sortR l = sortR m :=
  sortR_unique ((sortR_perm l).trans h) ((sortR_pairwise l).imp (by intro a b h; have := cmpRow_swap a b; omega))
end Go.Proofs.YtnfccpkmaebbiaaGreatDoor

namespace Go.Proofs.YtnfccpkmaebbiaaGreatDoor
open Go.Shelf
def sh_sortRows_ren : Go.Shelf.Ren := ⟨fun | 6 => 71 | 15 => 82 | 14 => 91 | 28 => 107 | 29 => 108 | 20 => 119 | 21 => 120 | 22 => 121 | 23 => 122 | 24 => 123 | 25 => 124 | 26 => 125 | 27 => 126 | 46 => 147 | 47 => 140 | 48 => 141 | 49 => 148 | 50 => 149 | 57 => 161 | n => n, fun | 22 => 31 | 24 => 36 | 25 => 85 | 3 => 3 | 39 => 105 | 0 => 0 | 53 => 127 | 55 => 129 | 4 => 4 | 46 => 120 | 45 => 119 | 50 => 124 | 5 => 5 | 9 => 9 | 66 => 150 | 70 => 154 | 76 => 168 | 77 => 169 | n => n, fun | n => n⟩
theorem sh_sortRows : Go.Proofs.SlLaysF0.n6 Tryz.prog sh_sortRows_ren := {
  mixed := by kernel_rfl
  f6 := ⟨Tryz.f71.name, by decide, Tryz.func71.trans (congrArg some (by kernel_rfl))⟩
  f14 := ⟨Tryz.f91.name, by decide, Tryz.func91.trans (congrArg some (by kernel_rfl))⟩
  f15 := Tryz.func82.trans (congrArg some (by kernel_rfl))
  f20 := ⟨Tryz.f119.name, by decide, Tryz.func119.trans (congrArg some (by kernel_rfl))⟩
  f21 := ⟨Tryz.f120.name, by decide, Tryz.func120.trans (congrArg some (by kernel_rfl))⟩
  f22 := ⟨Tryz.f121.name, by decide, Tryz.func121.trans (congrArg some (by kernel_rfl))⟩
  f23 := ⟨Tryz.f122.name, by decide, Tryz.func122.trans (congrArg some (by kernel_rfl))⟩
  f24 := ⟨Tryz.f123.name, by decide, Tryz.func123.trans (congrArg some (by kernel_rfl))⟩
  f25 := ⟨Tryz.f124.name, by decide, Tryz.func124.trans (congrArg some (by kernel_rfl))⟩
  f26 := ⟨Tryz.f125.name, by decide, Tryz.func125.trans (congrArg some (by kernel_rfl))⟩
  f27 := ⟨Tryz.f126.name, by decide, Tryz.func126.trans (congrArg some (by kernel_rfl))⟩
  f28 := Tryz.func107.trans (congrArg some (by kernel_rfl))
  f29 := Tryz.func108.trans (congrArg some (by kernel_rfl))
  f46 := ⟨Tryz.f147.name, by decide, Tryz.func147.trans (congrArg some (by kernel_rfl))⟩
  f47 := Tryz.func140.trans (congrArg some (by kernel_rfl))
  f48 := Tryz.func141.trans (congrArg some (by kernel_rfl))
  f49 := ⟨Tryz.f148.name, by decide, Tryz.func148.trans (congrArg some (by kernel_rfl))⟩
  f50 := ⟨Tryz.f149.name, by decide, Tryz.func149.trans (congrArg some (by kernel_rfl))⟩
  f57 := ⟨Tryz.f161.name, by decide, Tryz.func161.trans (congrArg some (by kernel_rfl))⟩
  t0 := Tryz.underlying0
  a0 := Tryz.isAgg0
  z0 := Tryz.sizeOf0
  v0 := Tryz.zeroValue0
  t3 := Tryz.underlying3
  a3 := Tryz.isAgg3
  z3 := Tryz.sizeOf3
  v3 := Tryz.zeroValue3
  t4 := Tryz.underlying4
  a4 := Tryz.isAgg4
  z4 := Tryz.sizeOf4
  v4 := Tryz.zeroValue4
  t5 := Tryz.underlying5
  a5 := Tryz.isAgg5
  z5 := Tryz.sizeOf5
  v5 := Tryz.zeroValue5
  t9 := Tryz.underlying9
  a9 := Tryz.isAgg9
  z9 := Tryz.sizeOf9
  v9 := Tryz.zeroValue9
  t22 := Tryz.underlying31
  a22 := Tryz.isAgg31
  z22 := Tryz.sizeOf31
  v22 := Tryz.zeroValue31
  t25 := Tryz.underlying85
  a25 := Tryz.isAgg85
  z25 := Tryz.sizeOf85
  v25 := Tryz.zeroValue85
  t39 := Tryz.underlying105
  a39 := Tryz.isAgg105
  z39 := Tryz.sizeOf105
  v39 := Tryz.zeroValue105
  t45 := Tryz.underlying119
  a45 := Tryz.isAgg119
  z45 := Tryz.sizeOf119
  v45 := Tryz.zeroValue119
  t46 := Tryz.underlying120
  a46 := Tryz.isAgg120
  z46 := Tryz.sizeOf120
  v46 := Tryz.zeroValue120
  t50 := Tryz.underlying124
  a50 := Tryz.isAgg124
  z50 := Tryz.sizeOf124
  v50 := Tryz.zeroValue124
  t53 := Tryz.underlying127
  a53 := Tryz.isAgg127
  z53 := Tryz.sizeOf127
  v53 := Tryz.zeroValue127
  t55 := Tryz.underlying129
  a55 := Tryz.isAgg129
  z55 := Tryz.sizeOf129
  v55 := Tryz.zeroValue129
  t66 := Tryz.underlying150
  a66 := Tryz.isAgg150
  z66 := Tryz.sizeOf150
  v66 := Tryz.zeroValue150
  t70 := Tryz.underlying154
  a70 := Tryz.isAgg154
  z70 := Tryz.sizeOf154
  v70 := Tryz.zeroValue154
  t76 := Tryz.underlying168
  a76 := Tryz.isAgg168
  z76 := Tryz.sizeOf168
  v76 := Tryz.zeroValue168
  t77 := Tryz.underlying169
  a77 := Tryz.isAgg169
  z77 := Tryz.sizeOf169
  v77 := Tryz.zeroValue169 }
end Go.Proofs.YtnfccpkmaebbiaaGreatDoor

namespace Go.Proofs.YtnfccpkmaebbiaaGreatDoor
open Go.RowKit Go.Lib Go.Shelf Go.Sort

theorem swo_row {β : Type} (f : β → GRow) : SWO (ltOf fun x y : β => cmpRow (f x) (f y)) where
  irrefl x := by
    show decide (cmpRow (f x) (f x) < 0) = false
    rw [cmpRow_zero.2 rfl]
    rfl
  trans x y z h1 h2 := by
    have h := sgn_row (f x) (f y) (f z)
    have h1' : decide (cmpRow (f x) (f y) < 0) = true := h1
    have h2' : decide (cmpRow (f y) (f z) < 0) = true := h2
    show decide (cmpRow (f x) (f z) < 0) = true
    unfold Sgn3 at h
    rw [decide_eq_true_eq] at h1' h2' ⊢
    omega
  ntrans x y z h1 h2 := by
    have h := sgn_row (f z) (f y) (f x)
    rw [cmpRow_swap (f y) (f z), cmpRow_swap (f x) (f y), cmpRow_swap (f x) (f z)] at h
    have h1' : decide (cmpRow (f x) (f y) < 0) = false := h1
    have h2' : decide (cmpRow (f y) (f z) < 0) = false := h2
    show decide (cmpRow (f x) (f z) < 0) = false
    unfold Sgn3 at h
    rw [decide_eq_false_iff_not] at h1' h2' ⊢
    omega
theorem sortRows_any (v : Value) (l : List GRow) (B : Nat) (w : World) (hO : Own rowE w B v l) (hl : l.length ≤ 1000000) :
    Calls Tryz.prog 71 #[v, .func (.func 72) #[] #[]] w fun e w' => e = .returned (.tuple #[]) ∧ Own rowE w' B v (sortR l) ∧ RowKit.Below B w w' := by
  rcases Nat.eq_zero_or_pos l.length with h0 | hpos
  · have hl0 : l = [] := List.eq_nil_of_length_eq_zero h0
    subst hl0
    obtain ⟨a, c, rfl⟩ := hO.shape
    refine (AnyF.slices_SortFunc_none sh_sortRows a c _ w).mono ?_
    rintro _ w' ⟨rfl, rfl⟩
    exact ⟨rfl, (by simpa [sortR] using hO), .refl _ _⟩
  · obtain ⟨g, c, rfl⟩ := Own.shape_lt hO hpos
    have hgl := (hO.lt g rfl).2
    refine (own_sorted cmpRow hO rfl hpos fun d hd hH hK => ?_).mono ?_
    · have eg : ∀ args w, (callFunc 72 args).run Tryz.prog w = .ok (.enter 72 args) w := enters_of Tryz.func72 (by kernel_rfl) rfl
      have hcmp : CmpLays Tryz.prog 72 #[] (Cel.cells (E := rowE) (w := w) (g := g)) 2 (fun x y => cmpRow x.val y.val) g 0 d.size w := fun m os dk hdk x y => by
        obtain ⟨v1, u1, e1, p1, q1⟩ := x.is
        obtain ⟨v2, u2, e2, p2, q2⟩ := y.is
        have hk := hK m os dk (hdk.trans hd)
        rw [e1, e2]
        exact bagCmp_g x.val y.val v1 u1 v2 u2 _ (p1.kept hk).free (q1.kept hk).free (p2.kept hk).free (q2.kept hk).free
      have := AnyQ.slices_SortFunc sh_sortRows 2 (fun w => Tryz.isAgg36 w) (fun w => Tryz.sizeOf36 w) (Cel.cells (E := rowE) (w := w) (g := g)) Cel.len Cel.one (fun x y => cmpRow x.val y.val) (swo_row Cel.val) 72 #[] g 0 c d w eg hcmp hH hgl (by omega)
      have e : Value.slice (some ⟨g, 0, none⟩) d.size c = .slice (some ⟨g, 0, none⟩) l.length c := by rw [hd]
      rw [e] at this
      exact this
    · rintro _ w' ⟨rfl, l', hp, hs, hO', _, hb⟩
      rw [sortR_unique hp hs] at hO'
      exact ⟨rfl, hO', hb⟩
set_option maxHeartbeats 4000000 in
set_option maxRecDepth 100000 in
theorem bagSort_any (v : Value) (l : List GRow) (w : World) (hv : Sl rowE w free v l) (hl : l.length ≤ 100000) (hs : ∀ x ∈ l, x.vals.length ≤ 1000 ∧ x.lin.length ≤ 1000) :
    Calls Tryz.prog 44 #[v] w (RetOwn rowE w (sortR l)) := by
  obtain ⟨a, c, rfl⟩ := hv.shape
  have h63 := hv.1
  have HV := Lib.hid hv
  have HS := Lib.hid hs
  obtain ⟨n, hn⟩ : ∃ n, n = l.length := ⟨_, rfl⟩
  have HN := Lib.hid hn
  rw [← hn] at HV h63 hl ⊢
  clear hv hn hs
  go_enter Tryz.func44, Tryz.ntmps44
  go_wp2_with fail
  go_loopw [8, 3] (fun i o wr => ∃ k : Nat, k ≤ n ∧ i = .int .i64 k ∧ Own rowE wr w.heap.size o (l.take k) ∧ Hid (RowKit.Below w.heap.size w wr)) (fun i _ _ => n - (RowKit.intOf i).toNat)
  case atStart => exact ⟨0, Nat.zero_le _, rfl, Own.nil _ _ _, Lib.hid (.refl _ _)⟩
  case round =>
    obtain ⟨k, hk, rfl, hO, HB⟩ := hrel
    obtain ⟨wo, rfl⟩ : ∃ wo : World, wo = wr := ⟨_, rfl⟩
    by_cases hlt : k < n
    · obtain ⟨x, hx⟩ := lget_some l k (by rw [← HN.out]; exact hlt)
      obtain ⟨b, o, a1, n1, e1, m1, rfl, hvv, hll, p0, p1⟩ := rows_at HV.out hx
      replace p0 := cell_keep HB.out p0
      replace p1 := cell_keep HB.out p1
      obtain ⟨hz1, hz2⟩ := HS.out x (List.mem_of_getElem? hx)
      have HT : Hid (l.take (k + 1) = l.take k ++ [x]) := Lib.hid (take_get hx)
      have hlk : (l.take k).length = k := by rw [List.length_take, ← HN.out]; omega
      obtain ⟨lk, hlke⟩ : ∃ lk, lk = l.take k := ⟨_, rfl⟩
      rw [← hlke] at hO HT hlk
      obtain ⟨ao, co, rfl⟩ := hO.shape
      rw [hlk] at hO ⊢
      obtain ⟨xv, xl⟩ := x
      dsimp only at p0 p1 hvv hll hz1 hz2
      have HVV := Lib.hid hvv
      have HLL := Lib.hid hll
      have HO := Lib.hid hO
      have HLK := Lib.hid hlk
      have HB1 : Hid (RowKit.Below w.heap.size w (wo.alloc (.cells #[.slice a1 xv.length n1, .slice e1 xl.length m1] 36))) := Lib.hid (below_alloc_keep HB.out)
      have HO1 := Lib.hid (hO.below (below_alloc wo (.cells #[.slice a1 xv.length n1, .slice e1 xl.length m1] 36)))
      clear hx hvv hll hO hlk hlke
      go_wp2_with fail
      refine (bagClone_any _ _ xv xl _ (HVV.out.below HB1.out).vals (HLL.out.below HB1.out).ints hz1 hz2).mono ?_
      rintro _ w3 ⟨v', u', rfl, hC1, hC2⟩
      obtain ⟨a', c', rfl⟩ := reads_shape hC1.reads
      obtain ⟨b', d', rfl⟩ := reads_shape hC2.reads
      have HB3 : Hid (RowKit.Below w.heap.size w w3) := Lib.hid (below_keep HB1.out hC1.below)
      have HO3 := Lib.hid (HO1.out.below hC1.below)
      have hnv : ∀ j, (Value.slice a' xv.length c').ownBlock = some j → ¬ some j = (Value.slice ao k co).ownBlock := fun j h1 h2 => by
        have h3 := hC1.newer j h1
        have h4 := (HO1.out.lt j h2.symm).2
        omega
      have hnu : ∀ j, (Value.slice b' xl.length d').ownBlock = some j → ¬ some j = (Value.slice ao k co).ownBlock := fun j h1 h2 => by
        have h3 := hC2.newer j h1
        have h4 := (HO1.out.lt j h2.symm).2
        omega
      have HIS : Hid (Els rowE w3 (fun j => some j = (Value.slice ao k co).ownBlock) [⟨xv, xl⟩] [.slice a' xv.length c', .slice b' xl.length d']) := Lib.hid (Els.one ⟨_, _, rfl, Sl.of_vals hC1.reads hnv, Sl.of_ints hC2.reads hnu⟩)
      clear hC1 hC2 hnv hnu HB1 HO1
      go_wp2_with (at_builtin; refine wpList_push rfl (.tmp 12) (.tmp 15) 31 rfl rowE Tryz.underlying31 w.heap.size (.slice ao k co) lk rfl HO3.out [⟨xv, xl⟩] #[.slice a' xv.length c', .slice b' xl.length d'] HIS.out 1 1 rfl rfl (by decide) (by have := HLK.out; unfold maxLen; omega) (by have := HLK.out; show _ * 48 ≤ _; omega) HB3.out.size ?_; intro g cap w5 hP hPa)
      go_roundw
      case rel => exact ⟨k + 1, by omega, by go_num, by rw [HT.out]; exact hP.own' (by simp [HLK.out]), Lib.hid (HB3.out.trans hP.below)⟩
      case measure => simp [RowKit.intOf]; omega
    · have hkk : l.take k = l := List.take_of_length_le (by rw [← HN.out]; omega)
      rw [hkk] at hO
      obtain ⟨ao, co, rfl⟩ := hO.shape
      have HO := Lib.hid hO
      clear hO hkk
      have HSR := Lib.hid (sortRows_any _ l w.heap.size wo HO.out (by have := HN.out; omega))
      go_wp2_with fail
      refine HSR.out.mono ?_
      rintro _ w2 ⟨rfl, hO2, hb2⟩
      have HO2 := Lib.hid hO2
      have HB2 := Lib.hid (HB.out.trans hb2)
      clear hO2 hb2
      go_wp2_with fail
      go_ret
      exact ⟨_, rfl, HO2.out, HB2.out⟩
end Go.Proofs.YtnfccpkmaebbiaaGreatDoor

namespace Go.Proofs.YtnfccpkmaebbiaaGreatDoor
open Go.RowKit Go.Lib Go.Shelf

def pincl (lo hi t : Int) : Bool := pvalid lo hi && (decide (lo ≤ t) && decide (t < hi))
set_option maxHeartbeats 1000000 in
theorem incl_any (lo hi t : Int) (w : World) : Calls Tryz.prog 42 #[.agg #[.int .i64 lo, .int .i64 hi], .int .i64 t] w fun e w' => e = .returned (.bool (pincl lo hi t)) ∧ Below w.heap.size w w' := by
  have HR : Hid (pincl lo hi t = (pvalid lo hi && (decide (lo ≤ t) && decide (t < hi)))) := Lib.hid rfl
  have HV := fun W => Lib.hid (pvalid_any lo hi W)
  generalize pvalid lo hi = q at HR HV
  generalize pincl lo hi t = r at HR ⊢
  have hg := World.alloc_heap_new w (.cells #[.int .i64 lo, .int .i64 hi] 43)
  go_enter Tryz.func42, Tryz.ntmps42
  go_wp2_with fail
  refine (HV _).out.mono ?_
  rintro _ w2 ⟨rfl, hb⟩
  have hk := box_kept hg hb
  obtain ⟨d0, d1, _, _⟩ := box_two hk
  have HB := Lib.hid (below_alloc2' hb)
  clear hb hk hg
  cases q
  · go_wp2_with fail
    go_ret
    exact ⟨ret_bool (by rw [HR.out]; rfl), HB.out⟩
  · by_cases h1 : lo ≤ t
    · by_cases h2 : t < hi
      · go_wp2_with fail
        go_ret
        exact ⟨ret_bool (by rw [HR.out]; simp; omega), HB.out⟩
      · go_wp2_with fail
        go_ret
        exact ⟨ret_bool (by rw [HR.out]; simp; omega), HB.out⟩
    · go_wp2_with fail
      go_ret
      exact ⟨ret_bool (by rw [HR.out]; simp; omega), HB.out⟩
/-- The rows that hold on a day. -/
def atDay (l : List Tup) (t : Int) : List GRow := (l.filter fun x => pincl x.lo x.hi t).map fun x => ⟨x.vals, x.lin⟩
theorem atDay_snoc (l : List Tup) (x : Tup) (t : Int) : atDay (l ++ [x]) t = atDay l t ++ if pincl x.lo x.hi t = true then [⟨x.vals, x.lin⟩] else [] := by
  unfold atDay
  rw [List.filter_append, List.map_append]
  congr 1
  rw [List.filter_cons, List.filter_nil]
  split <;> rfl
theorem atDay_len (l : List Tup) (t : Int) : (atDay l t).length ≤ l.length := by unfold atDay; rw [List.length_map]; exact List.length_filter_le _ _
theorem atDay_small {l : List Tup} (h : ∀ x ∈ l, x.vals.length ≤ 1000 ∧ x.lin.length ≤ 1000) (t : Int) : ∀ x ∈ atDay l t, x.vals.length ≤ 1000 ∧ x.lin.length ≤ 1000 := by
  intro x hx
  unfold atDay at hx
  obtain ⟨y, hy, rfl⟩ := List.mem_map.1 hx
  exact h y (List.mem_filter.1 hy).1
set_option maxHeartbeats 4000000 in
set_option maxRecDepth 100000 in
theorem timeslice_any (v : Value) (l : List Tup) (t : Int) (w : World) (hv : Tups w v l) (hl : l.length ≤ 100000) (hs : ∀ x ∈ l, x.vals.length ≤ 1000 ∧ x.lin.length ≤ 1000) :
    Calls Tryz.prog 20 #[v, .int .i64 t] w (RetOwn rowE w (sortR (atDay l t))) := by
  obtain ⟨a, c, rfl⟩ := hv.shape
  have h63 := hv.1
  have HV := Lib.hid hv
  have HS := Lib.hid (atDay_small hs t)
  obtain ⟨n, hn⟩ : ∃ n, n = l.length := ⟨_, rfl⟩
  have HN := Lib.hid hn
  rw [← hn] at HV h63 hl ⊢
  clear hv hn hs
  go_enter Tryz.func20, Tryz.ntmps20
  go_wp2_with fail
  go_loopw [10, 5] (fun i o wr => ∃ k : Nat, k ≤ n ∧ i = .int .i64 k ∧ Own rowE wr w.heap.size o (atDay (l.take k) t) ∧ Hid (Below w.heap.size w wr)) (fun i _ _ => n - (RowKit.intOf i).toNat)
  case atStart => exact ⟨0, Nat.zero_le _, rfl, Own.nil _ _ _, Lib.hid (.refl _ _)⟩
  case round =>
    obtain ⟨k, hk, rfl, hO, HB⟩ := hrel
    obtain ⟨wo, rfl⟩ : ∃ wo : World, wo = wr := ⟨_, rfl⟩
    by_cases hlt : k < n
    · obtain ⟨x, hx⟩ := lget_some l k (by rw [← HN.out]; exact hlt)
      obtain ⟨b, o, a1, n1, e1, m1, rfl, hvv, hll, p0, p1, p2, p3⟩ := tups_at HV.out hx
      replace p0 := cell_keep HB.out p0
      replace p1 := cell_keep HB.out p1
      replace p2 := cell_keep HB.out p2
      replace p3 := cell_keep HB.out p3
      have HT : Hid (atDay (l.take (k + 1)) t = atDay (l.take k) t ++ if pincl x.lo x.hi t = true then [⟨x.vals, x.lin⟩] else []) := by show _ = _; rw [take_get hx, atDay_snoc]
      obtain ⟨lk, hlke⟩ : ∃ lk, lk = atDay (l.take k) t := ⟨_, rfl⟩
      have hlk : lk.length ≤ 100000 := by rw [hlke]; exact Nat.le_trans (atDay_len _ _) (by rw [List.length_take]; omega)
      rw [← hlke] at hO HT
      obtain ⟨ao, co, rfl⟩ := hO.shape
      obtain ⟨xv, xlo, xhi, xl⟩ := x
      dsimp only at p0 p1 p2 p3 hvv hll HT
      obtain ⟨q, hq⟩ : ∃ q, q = pincl xlo xhi t := ⟨_, rfl⟩
      have HI := fun W => Lib.hid (incl_any xlo xhi t W)
      rw [← hq] at HT HI
      have HVV := Lib.hid hvv
      have HLL := Lib.hid hll
      have hg := World.alloc_heap_new wo (.cells #[.slice a1 xv.length n1, .int .i64 xlo, .int .i64 xhi, .slice e1 xl.length m1] 45)
      have HB1 : Hid (Below w.heap.size w (wo.alloc (.cells #[.slice a1 xv.length n1, .int .i64 xlo, .int .i64 xhi, .slice e1 xl.length m1] 45))) := Lib.hid (below_alloc_keep HB.out)
      have HO1 := Lib.hid (hO.below (below_alloc wo (.cells #[.slice a1 xv.length n1, .int .i64 xlo, .int .i64 xhi, .slice e1 xl.length m1] 45)))
      have HG := Lib.hid hg
      clear hx hvv hll hO hlke hq hg
      go_wp2_with fail
      refine (HI _).out.mono ?_
      rintro _ w3 ⟨rfl, hb3⟩
      obtain ⟨⟨d0, d1, d2, d3⟩, _, _, _, _⟩ := box_four (box_kept HG.out hb3)
      have HB3 : Hid (Below w.heap.size w w3) := Lib.hid (below_keep HB1.out hb3)
      have HO3 := Lib.hid (HO1.out.below hb3)
      clear hb3 HG HB1 HO1 HI
      cases q
      · have HT' : Hid (atDay (l.take (k + 1)) t = lk) := by show _ = _; rw [HT.out, if_neg (by decide), List.append_nil]
        go_wp2_with fail
        go_roundw
        case rel => exact ⟨k + 1, by omega, by go_num, by rw [HT'.out]; exact HO3.out, HB3⟩
        case measure => simp [RowKit.intOf]; omega
      · have HT' : Hid (atDay (l.take (k + 1)) t = lk ++ [⟨xv, xl⟩]) := by show _ = _; rw [HT.out, if_pos rfl]
        go_wp2_with fail
        refine (tupleRow_any _ _ _ _ _ _ _ _ _ _ _ rfl rfl).mono ?_
        rintro _ w4 ⟨rfl, hb4⟩
        have HB4 : Hid (Below w.heap.size w w4) := Lib.hid (below_keep HB3.out hb4)
        have HO4 := Lib.hid (HO3.out.below hb4)
        have HIS : Hid (Els rowE w4 (fun j => some j = (Value.slice ao lk.length co).ownBlock) [⟨xv, xl⟩] [.slice a1 xv.length n1, .slice e1 xl.length m1]) := Lib.hid (Els.one ⟨_, _, rfl, ((HVV.out.old (Nat.le_refl _)).below HB4.out).mono (fun j _ hj => (HO4.out.lt j hj.symm).1), ((HLL.out.old (Nat.le_refl _)).below HB4.out).mono (fun j _ hj => (HO4.out.lt j hj.symm).1)⟩)
        clear hb4
        go_wp2_with (at_builtin; refine wpList_push rfl (.tmp 18) (.tmp 21) 31 rfl rowE Tryz.underlying31 w.heap.size (.slice ao lk.length co) lk rfl HO4.out [⟨xv, xl⟩] #[.slice a1 xv.length n1, .slice e1 xl.length m1] HIS.out 1 1 rfl rfl (by decide) (by unfold maxLen; omega) (by show _ * 48 ≤ _; omega) HB4.out.size ?_; intro g cap w5 hP hPa)
        go_roundw
        case rel => exact ⟨k + 1, by omega, by go_num, by rw [HT'.out]; exact hP.own' (by simp), Lib.hid (HB4.out.trans hP.below)⟩
        case measure => simp [RowKit.intOf]; omega
    · have hkk : l.take k = l := List.take_of_length_le (by rw [← HN.out]; omega)
      rw [hkk] at hO
      obtain ⟨ao, co, rfl⟩ := hO.shape
      have HSR := Lib.hid (bagSort_any _ (atDay l t) wo hO.sl (Nat.le_trans (atDay_len _ _) (by rw [← HN.out]; exact hl)) HS.out)
      clear hO hkk
      go_wp2_with fail
      refine HSR.out.mono ?_
      rintro _ w2 ⟨vo, rfl, hO2, hb2⟩
      obtain ⟨ao2, co2, rfl⟩ := hO2.shape
      have HO2 := Lib.hid (hO2.mono HB.out.size)
      have HB2 := Lib.hid (below_keep HB.out hb2)
      clear hO2 hb2
      go_wp2_with fail
      go_ret
      exact ⟨_, rfl, HO2.out, HB2.out⟩
theorem sameRow_refl (x : GRow) : sameRowL x.vals x.vals x.lin x.lin = true := by
  unfold sameRowL
  rw [(cmpRows_zero _ _).2 rfl, (cmpInts_zero _ _).2 rfl]
  rfl
set_option maxHeartbeats 4000000 in
set_option maxRecDepth 100000 in
/-- Rows that are the same are the same. -/
theorem sameRows_eq (v u : Value) (l : List GRow) (w : World) (hv : Sl rowE w free v l) (hu : Sl rowE w free u l) :
    Calls Tryz.prog 25 #[v, u] w fun e w' => e = .returned (.bool true) ∧ Below w.heap.size w w' := by
  obtain ⟨a, c, rfl⟩ := hv.shape
  obtain ⟨a2, c2, rfl⟩ := hu.shape
  have h63 := hv.1
  have HV := Lib.hid hv
  have HU := Lib.hid hu
  obtain ⟨n, hn⟩ : ∃ n, n = l.length := ⟨_, rfl⟩
  have HN := Lib.hid hn
  rw [← hn] at HV HU h63 ⊢
  clear hv hu hn
  go_enter Tryz.func25, Tryz.ntmps25
  go_wp2_with fail
  go_loopw [5] (fun i wr => ∃ k : Nat, k ≤ n ∧ i = .int .i64 k ∧ Hid (Below w.heap.size w wr)) (fun i _ => n - (RowKit.intOf i).toNat)
  case atStart => exact ⟨0, Nat.zero_le _, rfl, Lib.hid (.refl _ _)⟩
  case round =>
    obtain ⟨k, hk, rfl, HB⟩ := hrel
    obtain ⟨wo, rfl⟩ : ∃ wo : World, wo = wr := ⟨_, rfl⟩
    by_cases hlt : k < n
    · obtain ⟨x, hx⟩ := lget_some l k (by rw [← HN.out]; exact hlt)
      obtain ⟨b, o, a1, n1, e1, m1, rfl, hv1, hu1, p0, p1⟩ := rows_at (HV.out.below HB.out) hx
      obtain ⟨b2, o2, a3, n3, e3, m3, rfl, hv2, hu2, q0, q1⟩ := rows_at (HU.out.below HB.out) hx
      have HSM := fun W (h : Below wo.heap.size wo W) => Lib.hid (sameRow_any _ _ _ _ x.vals x.vals x.lin x.lin W (hv1.below h).vals (hu1.below h).ints (hv2.below h).vals (hu2.below h).ints)
      rw [sameRow_refl] at HSM
      have hbo : Below wo.heap.size wo wo := .refl _ _
      clear hx hv1 hu1 hv2 hu2
      go_wp2_with fail
      go_region_held3 (fun W => Below wo.heap.size wo W ∧ W.cell? ⟨b, o + k * 2, none⟩ = some (.slice a1 x.vals.length n1) ∧ W.cell? ⟨b, o + k * 2 + 1, none⟩ = some (.slice e1 x.lin.length m1) ∧ W.cell? ⟨b2, o2 + k * 2, none⟩ = some (.slice a3 x.vals.length n3) ∧ W.cell? ⟨b2, o2 + k * 2 + 1, none⟩ = some (.slice e3 x.lin.length m3))
        ((go_split_ands; refine ⟨?_, ?_, ?_, ?_, ?_⟩ <;> (first | with_reducible assumption | with_reducible exact Below.drew (by assumption) | with_reducible exact cell_drew (by assumption) | with_reducible exact cell_keep (by assumption) (by assumption) | with_reducible exact below_keep (by assumption) (by assumption))))
        (first | (go_at_call 38; go_split_ands; refine (HSM _ (by first | assumption | exact Below.drew (by assumption))).out.mono ?_; rintro e' wS ⟨rfl, hbS⟩))
      all_goals (
        go_split_ands
        have HBS : Hid (Below w.heap.size w wS) := Lib.hid (below_keep HB.out (by assumption))
        go_wp2_with fail
        go_roundw
        case rel => exact ⟨k + 1, by omega, by go_num, HBS⟩
        case measure => simp [RowKit.intOf]; omega)
    · go_wp2_with fail
      go_ret
      exact ⟨rfl, HB.out⟩
end Go.Proofs.YtnfccpkmaebbiaaGreatDoor

namespace Go.Proofs.YtnfccpkmaebbiaaGreatDoor
open Go.RowKit

def Tup.row (x : Tup) : GRow := ⟨x.vals, x.lin⟩
theorem tup_ext {p q : Tup} (h : p.row = q.row) (h1 : p.lo = q.lo) (h2 : p.hi = q.hi) : p = q := by
  obtain ⟨v, a, b, l⟩ := p
  obtain ⟨v', a', b', l'⟩ := q
  dsimp only at h1 h2
  subst h1 h2
  unfold Tup.row at h
  cases h
  rfl
theorem pvalid_iff {lo hi : Int} : pvalid lo hi = true ↔ 0 ≤ lo ∧ lo < hi ∧ hi ≤ 1099511627776 := by unfold pvalid; rw [decide_eq_true_eq]
theorem pincl_iff {lo hi t : Int} : pincl lo hi t = true ↔ pvalid lo hi = true ∧ lo ≤ t ∧ t < hi := by unfold pincl; simp
/-- Two periods of one row are apart (they do not touch), or one lies in the other. -/
def Lam (p q : Tup) : Prop := p.row = q.row → p.hi < q.lo ∨ q.hi < p.lo ∨ (p.lo ≤ q.lo ∧ q.hi ≤ p.hi) ∨ (q.lo ≤ p.lo ∧ p.hi ≤ q.hi)
theorem Lam.symm {p q : Tup} (h : Lam p q) : Lam q p := fun e => by have := h e.symm; omega
theorem Lam.refl (p : Tup) : Lam p p := fun _ => .inr (.inr (.inl ⟨Int.le_refl _, Int.le_refl _⟩))
theorem pw_all {α : Type} {R : α → α → Prop} (hs : ∀ a b, R a b → R b a) (hr : ∀ a, R a a) : ∀ {l : List α}, l.Pairwise R → ∀ x ∈ l, ∀ y ∈ l, R x y
  | [], _ => fun x hx => by simp at hx
  | a :: l, h => by
    obtain ⟨h1, h2⟩ := List.pairwise_cons.1 h
    intro x hx y hy
    rcases List.mem_cons.1 hx with e | hx
    · rcases List.mem_cons.1 hy with e' | hy
      · rw [e, e']; exact hr _
      · rw [e]; exact h1 _ hy
    · rcases List.mem_cons.1 hy with e' | hy
      · rw [e']; exact hs _ _ (h1 _ hx)
      · exact pw_all hs hr h2 x hx y hy
/-- Valid periods, laid one in the other or apart. -/
structure Lev (T : List Tup) : Prop where
  valid : ∀ x ∈ T, pvalid x.lo x.hi = true
  lam : T.Pairwise Lam
theorem Lev.nil : Lev [] := ⟨by simp, .nil⟩
theorem Lev.perm {S T : List Tup} (h : Lev S) (hp : S.Perm T) : Lev T := ⟨fun x hx => h.valid x (hp.mem_iff.2 hx), hp.pairwise h.lam (fun h => Lam.symm h)⟩
theorem Lev.sub {S T : List Tup} (h : Lev T) (hp : S.Sublist T) : Lev S := ⟨fun x hx => h.valid x (hp.subset hx), h.lam.sublist hp⟩
theorem atDay_cons (x : Tup) (l : List Tup) (t : Int) : atDay (x :: l) t = if pincl x.lo x.hi t = true then x.row :: atDay l t else atDay l t := by
  unfold atDay
  rw [List.filter_cons]
  split
  · rw [List.map_cons]; rfl
  · rfl
theorem atDay_append (l m : List Tup) (t : Int) : atDay (l ++ m) t = atDay l t ++ atDay m t := by unfold atDay; rw [List.filter_append, List.map_append]
theorem atDay_perm {l m : List Tup} (h : l.Perm m) (t : Int) : (atDay l t).Perm (atDay m t) := (h.filter _).map _
theorem mem_atDay {l : List Tup} {t : Int} {r : GRow} : r ∈ atDay l t ↔ ∃ x ∈ l, x.row = r ∧ pincl x.lo x.hi t = true := by
  unfold atDay
  rw [List.mem_map]
  constructor
  · rintro ⟨x, hx, rfl⟩
    obtain ⟨h1, h2⟩ := List.mem_filter.1 hx
    exact ⟨x, h1, rfl, h2⟩
  · rintro ⟨x, hx, rfl, h⟩
    exact ⟨x, List.mem_filter.2 ⟨hx, h⟩, rfl⟩
/-- The period of a row that starts first, and among those the longest. -/
theorem best_of (r : GRow) : ∀ (T : List Tup), (∃ x ∈ T, x.row = r) → ∃ p ∈ T, p.row = r ∧ ∀ x ∈ T, x.row = r → p.lo < x.lo ∨ (p.lo = x.lo ∧ x.hi ≤ p.hi)
  | [], h => by obtain ⟨x, hx, _⟩ := h; simp at hx
  | a :: T, h => by
    by_cases hT : ∃ x ∈ T, x.row = r
    · obtain ⟨p, hp, hr, hb⟩ := best_of r T hT
      by_cases hc : a.row = r ∧ ¬ (p.lo < a.lo ∨ (p.lo = a.lo ∧ a.hi ≤ p.hi))
      · refine ⟨a, .head _, hc.1, fun x hx hxr => ?_⟩
        rcases List.mem_cons.1 hx with rfl | hx
        · exact .inr ⟨rfl, Int.le_refl _⟩
        · have := hb x hx hxr
          have := hc.2
          omega
      · refine ⟨p, .tail _ hp, hr, fun x hx hxr => ?_⟩
        rcases List.mem_cons.1 hx with rfl | hx
        · exact Classical.byContradiction fun hn => hc ⟨hxr, hn⟩
        · exact hb x hx hxr
    · obtain ⟨x, hx, hxr⟩ := h
      rcases List.mem_cons.1 hx with rfl | hx
      · refine ⟨x, .head _, hxr, fun y hy hyr => ?_⟩
        rcases List.mem_cons.1 hy with rfl | hy
        · exact .inr ⟨rfl, Int.le_refl _⟩
        · exact absurd ⟨y, hy, hyr⟩ hT
      · exact absurd ⟨x, hx, hxr⟩ hT
theorem best_hi {S T : List Tup} {p q : Tup} (hS : Lev S) (hT : Lev T) (hd : ∀ t r, r ∈ atDay T t → r ∈ atDay S t) (hp : p ∈ S) (hpb : ∀ x ∈ S, x.row = p.row → p.lo < x.lo ∨ (p.lo = x.lo ∧ x.hi ≤ p.hi)) (hq : q ∈ T) (hr : q.row = p.row) (hlo : p.lo = q.lo) : q.hi ≤ p.hi := by
  refine Classical.byContradiction fun hn => ?_
  have hpv := pvalid_iff.1 (hS.valid p hp)
  have hqv := hT.valid q hq
  obtain ⟨x, hx, hxr, hxi⟩ := mem_atDay.1 (hd p.hi q.row (mem_atDay.2 ⟨q, hq, rfl, pincl_iff.2 ⟨hqv, by omega, by omega⟩⟩))
  obtain ⟨_, h1, h2⟩ := pincl_iff.1 hxi
  have h3 := hpb x hx (hxr.trans hr)
  have h4 := pw_all (R := Lam) (fun _ _ h => Lam.symm h) Lam.refl hS.lam p hp x hx (hr.symm.trans hxr.symm)
  omega
theorem lev_perm : ∀ (n : Nat) {S T : List Tup}, S.length = n → Lev S → Lev T → (∀ t, (atDay S t).Perm (atDay T t)) → S.Perm T
  | 0, S, T, hn, hS, hT, hd => by
    have hS0 := List.eq_nil_of_length_eq_zero hn
    subst hS0
    cases T with
    | nil => exact .refl _
    | cons x T =>
      have hv := hT.valid x (.head _)
      have := (hd x.lo).mem_iff.2 (mem_atDay.2 ⟨x, .head _, rfl, pincl_iff.2 ⟨hv, by omega, (pvalid_iff.1 hv).2.1⟩⟩)
      simp [atDay] at this
  | n + 1, S, T, hn, hS, hT, hd => by
    cases S with
    | nil => simp at hn
    | cons a S0 =>
      obtain ⟨p, hp, hpr, hpb⟩ := best_of a.row (a :: S0) ⟨a, .head _, rfl⟩
      have hpv := hS.valid p hp
      obtain ⟨y, hy, hyr, hyi⟩ := mem_atDay.1 ((hd p.lo).mem_iff.1 (mem_atDay.2 ⟨p, hp, rfl, pincl_iff.2 ⟨hpv, by omega, (pvalid_iff.1 hpv).2.1⟩⟩))
      obtain ⟨q, hq, hqr, hqb⟩ := best_of a.row T ⟨y, hy, hyr.trans hpr⟩
      have hqv := hT.valid q hq
      have h1 := hqb y hy (hyr.trans hpr)
      obtain ⟨_, h2, _⟩ := pincl_iff.1 hyi
      obtain ⟨x, hx, hxr, hxi⟩ := mem_atDay.1 ((hd q.lo).mem_iff.2 (mem_atDay.2 ⟨q, hq, rfl, pincl_iff.2 ⟨hqv, by omega, (pvalid_iff.1 hqv).2.1⟩⟩))
      have h3 := hpb x hx (hxr.trans hqr)
      obtain ⟨_, h4, _⟩ := pincl_iff.1 hxi
      have hlo : p.lo = q.lo := by omega
      have hrr : q.row = p.row := hqr.trans hpr.symm
      have hhi1 := best_hi hS hT (fun t r h => (hd t).mem_iff.2 h) hp (by rw [hpr]; exact hpb) hq hrr hlo
      have hhi2 := best_hi hT hS (fun t r h => (hd t).mem_iff.1 h) hq (by rw [hqr]; exact hqb) hp hrr.symm hlo.symm
      have e : p = q := tup_ext hrr.symm hlo (by omega)
      subst e
      obtain ⟨s1, s2, es⟩ := List.append_of_mem hp
      obtain ⟨t1, t2, et⟩ := List.append_of_mem hq
      rw [es] at hS hd hn ⊢
      rw [et] at hT hd ⊢
      refine (List.perm_middle).trans (((lev_perm n (S := s1 ++ s2) (T := t1 ++ t2) (by simp at hn ⊢; omega) (hS.sub ((List.sublist_cons_self p s2).append_left s1)) (hT.sub ((List.sublist_cons_self p t2).append_left t1)) fun t => ?_).cons p).trans List.perm_middle.symm)
      have h5 := ((atDay_perm (List.perm_middle (a := p) (l₁ := s1) (l₂ := s2)) t).symm.trans (hd t)).trans (atDay_perm (List.perm_middle (a := p) (l₁ := t1) (l₂ := t2)) t)
      rw [atDay_cons, atDay_cons] at h5
      split at h5
      · exact h5.cons_inv
      · exact h5
/-- The order of tuples: by rows, then by periods. -/
def cmpTup (a b : Tup) : Int := or2 (cmpRow a.row b.row) (or2 (cmpI a.lo b.lo) (cmpI a.hi b.hi))
theorem sgn_tup (a b c : Tup) : Sgn3 (cmpTup a b) (cmpTup b c) (cmpTup a c) := (sgn_row _ _ _).or ((sgn_int _ _ _).or (sgn_int _ _ _))
theorem cmpTup_zero {a b : Tup} : cmpTup a b = 0 ↔ a = b := by
  unfold cmpTup or2
  constructor
  · intro h
    split at h
    · rename_i h1
      split at h
      · rename_i h2
        exact tup_ext (cmpRow_zero.1 h1) (cmpI_zero.1 h2) (cmpI_zero.1 h)
      · omega
    · omega
  · rintro rfl
    rw [if_pos (cmpRow_zero.2 rfl), if_pos (cmpI_zero.2 rfl), cmpI_zero.2 rfl]
theorem cmpTup_swap (a b : Tup) : cmpTup b a = - cmpTup a b := by
  unfold cmpTup or2
  rw [cmpRow_swap a.row b.row, cmpI_swap a.lo b.lo, cmpI_swap a.hi b.hi]
  split <;> split <;> (try split) <;> (try split) <;> omega
/-- T is the normal form of l. -/
structure IsNF (l T : List Tup) : Prop where
  lev : Lev T
  sorted : T.Pairwise fun a b => ¬ cmpTup b a < 0
  day : ∀ t, (atDay T t).Perm (atDay l t)
theorem IsNF.unique {l S T : List Tup} (h : IsNF l S) (k : IsNF l T) : S = T := by
  refine List.Perm.eq_of_pairwise (le := fun a b => cmpTup a b ≤ 0) (fun a b _ _ h1 h2 => ?_) (h.sorted.imp (by intro a b h; have := cmpTup_swap a b; omega)) (k.sorted.imp (by intro a b h; have := cmpTup_swap a b; omega)) (lev_perm _ rfl h.lev k.lev fun t => (h.day t).trans (k.day t).symm)
  have := cmpTup_swap a b
  exact cmpTup_zero.1 (by omega)
theorem IsNF.congr {l m T : List Tup} (h : IsNF l T) (hd : ∀ t, (atDay l t).Perm (atDay m t)) : IsNF m T := ⟨h.lev, h.sorted, fun t => (h.day t).trans (hd t)⟩
theorem IsNF.self {l T : List Tup} (h : IsNF l T) : IsNF T T := ⟨h.lev, h.sorted, fun _ => .refl _⟩
theorem IsNF.same {l m S T : List Tup} (h : IsNF l S) (k : IsNF m T) (hd : ∀ t, (atDay l t).Perm (atDay m t)) : S = T := (h.congr hd).unique k
theorem IsNF.iff {l m S T : List Tup} (h : IsNF l S) (k : IsNF m T) : S = T ↔ ∀ t, (atDay l t).Perm (atDay m t) :=
  ⟨fun e t => (h.day t).symm.trans (e ▸ k.day t), fun hd => h.same k hd⟩
theorem sortR_day {l m : List Tup} (h : ∀ t, (atDay l t).Perm (atDay m t)) (t : Int) : sortR (atDay l t) = sortR (atDay m t) := sortR_congr (h t)
theorem sortR_inj {l m : List GRow} (h : sortR l = sortR m) : l.Perm m := (sortR_perm l).symm.trans (h ▸ sortR_perm m)
theorem IsNF.vals {l T : List Tup} (h : IsNF l T) : ∀ x ∈ T, ∃ y ∈ l, y.row = x.row ∧ pvalid y.lo y.hi = true := by
  intro x hx
  have hv := h.lev.valid x hx
  obtain ⟨y, hy, hr, hi⟩ := mem_atDay.1 ((h.day x.lo).mem_iff.1 (mem_atDay.2 ⟨x, hx, rfl, pincl_iff.2 ⟨hv, by omega, (pvalid_iff.1 hv).2.1⟩⟩))
  exact ⟨y, hy, hr, (pincl_iff.1 hi).1⟩
end Go.Proofs.YtnfccpkmaebbiaaGreatDoor

namespace Go.Proofs.YtnfccpkmaebbiaaGreatDoor
open Go.RowKit

/-- How many periods hold at t. -/
def cntP (ps : List (Int × Int)) (t : Int) : Nat := ps.countP fun p => pincl p.1 p.2 t
/-- Two periods are apart (they do not touch), or one lies in the other. -/
def LamP (p q : Int × Int) : Prop := p.2 < q.1 ∨ q.2 < p.1 ∨ (p.1 ≤ q.1 ∧ q.2 ≤ p.2) ∨ (q.1 ≤ p.1 ∧ p.2 ≤ q.2)
theorem LamP.symm {p q : Int × Int} (h : LamP p q) : LamP q p := by unfold LamP at *; omega
/-- M are the levels of ps. -/
structure LevOf (ps M : List (Int × Int)) : Prop where
  valid : ∀ p ∈ M, pvalid p.1 p.2 = true
  lam : M.Pairwise LamP
  cnt : ∀ t, cntP M t = cntP ps t
/-- The number of open levels that started by t. -/
def opn (open' : List Int) (t : Int) : Nat := open'.countP fun o => decide (o ≤ t)
theorem opn_all {l : List Int} {t : Int} (h : ∀ o ∈ l, o ≤ t) : opn l t = l.length := by unfold opn; rw [List.countP_eq_length]; intro o ho; simpa using h o ho
theorem cnt_none {l : List (Int × Int)} {t : Int} (h : ∀ p ∈ l, p.2 ≤ t) : cntP l t = 0 := by
  unfold cntP
  rw [List.countP_eq_zero]
  intro p hp hi
  have := (pincl_iff.1 hi).2.2
  have := h p hp
  omega
/-- What holds of the open levels and of the periods made so far, up to X. -/
structure LvI (c : Int → Nat) (X : Int) (open' : List Int) (out : List (Int × Int)) : Prop where
  lam : out.Pairwise LamP
  val : ∀ p ∈ out, pvalid p.1 p.2 = true ∧ p.2 ≤ X
  bnd : ∀ o ∈ open', 0 ≤ o ∧ o ≤ X
  srt : open'.Pairwise (· ≤ ·)
  rel : ∀ p ∈ out, ∀ o ∈ open', p.2 < o ∨ o ≤ p.1
  cnt : ∀ t, t < X → cntP out t + opn open' t = c t
theorem LvI.start {c : Int → Nat} (h : ∀ t, t < 0 → c t = 0) : LvI c (-1) [] [] :=
  ⟨.nil, by simp, by simp, .nil, by simp, fun t ht => by rw [h t (by omega)]; rfl⟩
theorem LvI.raise {c : Int → Nat} {X Y : Int} {open' : List Int} {out : List (Int × Int)} (h : LvI c X open' out) (hXY : X < Y) (hc : ∀ t, X ≤ t → t < Y → c t = open'.length) :
    LvI c Y open' out ∧ (∀ o ∈ open', o < Y) ∧ ∀ p ∈ out, p.2 < Y := by
  refine ⟨⟨h.lam, fun p hp => ⟨(h.val p hp).1, by have := (h.val p hp).2; omega⟩, fun o ho => ⟨(h.bnd o ho).1, by have := (h.bnd o ho).2; omega⟩, h.srt, h.rel, fun t ht => ?_⟩, fun o ho => by have := (h.bnd o ho).2; omega, fun p hp => by have := (h.val p hp).2; omega⟩
  by_cases h1 : t < X
  · exact h.cnt t h1
  · rw [cnt_none (fun p hp => by have := (h.val p hp).2; omega), opn_all (fun o ho => by have := (h.bnd o ho).2; omega), hc t (by omega) ht, Nat.zero_add]
theorem LvI.pop {c : Int → Nat} {X o : Int} {open' : List Int} {out : List (Int × Int)} (h : LvI c X (open' ++ [o]) out) (ho : o < X) (hX : X ≤ 1099511627776) : LvI c X open' (out ++ [(o, X)]) := by
  have ho0 := (h.bnd o (by simp)).1
  have hv : pvalid o X = true := pvalid_iff.2 ⟨ho0, ho, hX⟩
  refine ⟨?_, ?_, fun x hx => h.bnd x (by simp [hx]), (List.pairwise_append.1 h.srt).1, ?_, fun t ht => ?_⟩
  · rw [List.pairwise_append]
    refine ⟨h.lam, by simp, fun p hp q hq => ?_⟩
    simp at hq
    subst hq
    have h1 := (h.val p hp).2
    have h2 := h.rel p hp o (by simp)
    unfold LamP
    dsimp only
    omega
  · intro p hp
    rw [List.mem_append] at hp
    rcases hp with hp | hp
    · exact h.val p hp
    · simp at hp; subst hp; exact ⟨hv, Int.le_refl _⟩
  · intro p hp x hx
    rw [List.mem_append] at hp
    rcases hp with hp | hp
    · exact h.rel p hp x (by simp [hx])
    · simp at hp
      subst hp
      exact .inr ((List.pairwise_append.1 h.srt).2.2 x hx o (by simp))
  · have h1 := h.cnt t ht
    unfold cntP opn at h1 ⊢
    rw [List.countP_append] at h1 ⊢
    have e : List.countP (fun p : Int × Int => pincl p.1 p.2 t) [(o, X)] = List.countP (fun o => decide (o ≤ t)) [o] := by
      rw [List.countP_singleton, List.countP_singleton]
      dsimp only
      have : pincl o X t = decide (o ≤ t) := by
        rw [Bool.eq_iff_iff, pincl_iff, decide_eq_true_eq]
        exact ⟨fun h => h.2.1, fun h => ⟨hv, h, ht⟩⟩
      rw [this]
    omega
theorem LvI.push {c : Int → Nat} {X : Int} {open' : List Int} {out : List (Int × Int)} (h : LvI c X open' out) (h0 : 0 ≤ X) (hp : ∀ p ∈ out, p.2 < X) : LvI c X (open' ++ [X]) out := by
  refine ⟨h.lam, h.val, fun o ho => ?_, ?_, fun p hp' o ho => ?_, fun t ht => ?_⟩
  · rw [List.mem_append] at ho
    rcases ho with ho | ho
    · exact h.bnd o ho
    · simp at ho; subst ho; exact ⟨h0, Int.le_refl _⟩
  · rw [List.pairwise_append]
    refine ⟨h.srt, by simp, fun a ha b hb => ?_⟩
    simp at hb
    subst hb
    exact (h.bnd a ha).2
  · rw [List.mem_append] at ho
    rcases ho with ho | ho
    · exact h.rel p hp' o ho
    · simp at ho; subst ho; exact .inl (hp p hp')
  · have h1 := h.cnt t ht
    unfold opn at h1 ⊢
    rw [List.countP_append, List.countP_singleton]
    have : decide (X ≤ t) = false := by simp; omega
    rw [this]
    simpa using h1

/-- The events of some periods: a start counts 1, an end -1. -/
def evsOf (ps : List (Int × Int)) : List (Int × Int) := ps.flatMap fun p => [(p.1, 1), (p.2, -1)]
def sumE (es : List (Int × Int)) : Int := (es.map (·.2)).sum
theorem sumE_append (a b : List (Int × Int)) : sumE (a ++ b) = sumE a + sumE b := by unfold sumE; rw [List.map_append, List.sum_append]
theorem sumE_cons (x : Int × Int) (b : List (Int × Int)) : sumE (x :: b) = x.2 + sumE b := rfl
theorem sumE_perm {a b : List (Int × Int)} (h : a.Perm b) : sumE a = sumE b := by
  induction h with
  | nil => rfl
  | cons x _ ih => rw [sumE_cons, sumE_cons, ih]
  | swap x y l => rw [sumE_cons, sumE_cons, sumE_cons, sumE_cons]; omega
  | trans _ _ ih1 ih2 => rw [ih1, ih2]
theorem sumE_upto (ps : List (Int × Int)) (hv : ∀ p ∈ ps, pvalid p.1 p.2 = true) (t : Int) : sumE ((evsOf ps).filter fun e => decide (e.1 ≤ t)) = cntP ps t := by
  induction ps with
  | nil => rfl
  | cons p ps ih =>
    have h1 := ih fun x hx => hv x (.tail _ hx)
    have h2 := hv p (.head _)
    obtain ⟨_, h3, _⟩ := pvalid_iff.1 h2
    have e : evsOf (p :: ps) = (p.1, 1) :: (p.2, -1) :: evsOf ps := rfl
    have ec : cntP (p :: ps) t = cntP ps t + if pincl p.1 p.2 t = true then 1 else 0 := by unfold cntP; rw [List.countP_cons]
    rw [e, ec, List.filter_cons, List.filter_cons]
    dsimp only
    by_cases hi : pincl p.1 p.2 t = true
    · obtain ⟨_, h4, h5⟩ := pincl_iff.1 hi
      rw [if_pos hi, if_pos (by simpa using h4), if_neg (by simp; omega), sumE_cons, h1]
      dsimp only
      omega
    · have h6 : ¬ (p.1 ≤ t ∧ t < p.2) := fun h => hi (pincl_iff.2 ⟨h2, h⟩)
      rw [if_neg hi]
      by_cases h7 : p.1 ≤ t
      · rw [if_pos (by simpa using h7), if_pos (by simp; omega), sumE_cons, sumE_cons, h1]
        dsimp only
        omega
      · rw [if_neg (by simpa using h7), if_neg (by simp; omega), h1]
        omega
theorem sumE_all (ps : List (Int × Int)) : sumE (evsOf ps) = 0 := by
  induction ps with
  | nil => rfl
  | cons p ps ih => show sumE ((p.1, 1) :: (p.2, -1) :: evsOf ps) = 0; rw [sumE_cons, sumE_cons, ih]; rfl
/-- The sum of the events up to a place that parts them from the later ones. -/
theorem sumE_cut {ps es a b : List (Int × Int)} (hp : es.Perm (evsOf ps)) (hv : ∀ p ∈ ps, pvalid p.1 p.2 = true) (e : es = a ++ b) {t : Int} (ha : ∀ x ∈ a, x.1 ≤ t) (hb : ∀ x ∈ b, t < x.1) : sumE a = cntP ps t := by
  rw [← sumE_upto ps hv t, ← sumE_perm (hp.filter _), e, List.filter_append, List.filter_eq_self.2 (fun x hx => by simpa using ha x hx), List.filter_eq_nil_iff.2 (fun x hx => by have := hb x hx; simp; omega), List.append_nil]
theorem evs_range {ps : List (Int × Int)} (hv : ∀ p ∈ ps, pvalid p.1 p.2 = true) : ∀ e ∈ evsOf ps, 0 ≤ e.1 ∧ e.1 ≤ 1099511627776 ∧ (e.2 = 1 ∨ e.2 = -1) := by
  intro e he
  unfold evsOf at he
  rw [List.mem_flatMap] at he
  obtain ⟨p, hp, he⟩ := he
  obtain ⟨h1, h2, h3⟩ := pvalid_iff.1 (hv p hp)
  simp at he
  rcases he with rfl | rfl
  · exact ⟨h1, by dsimp only; omega, .inl rfl⟩
  · exact ⟨by dsimp only; omega, h3, .inr rfl⟩
theorem cnt_below {ps : List (Int × Int)} (hv : ∀ p ∈ ps, pvalid p.1 p.2 = true) {t : Int} (ht : t < 0) : cntP ps t = 0 := by
  unfold cntP
  rw [List.countP_eq_zero]
  intro p hp hi
  have := (pincl_iff.1 hi).2.1
  have := (pvalid_iff.1 (hv p hp)).1
  omega
theorem evs_length (ps : List (Int × Int)) : (evsOf ps).length = 2 * ps.length := by
  induction ps with
  | nil => rfl
  | cons p ps ih => show ((p.1, 1) :: (p.2, -1) :: evsOf ps).length = _; rw [List.length_cons, List.length_cons, ih, List.length_cons]; omega
/-- The end: nothing is open any more, and what was made are the levels. -/
theorem LvI.done {ps es open' out : List _} {X : Int} (h : LvI (cntP ps) X open' out) (hp : es.Perm (evsOf ps)) (hv : ∀ p ∈ ps, pvalid p.1 p.2 = true) (hX : ∀ e ∈ es, e.1 ≤ X) (hs : (open'.length : Int) = sumE es) : LevOf ps out := by
  have h0 : open'.length = 0 := by rw [sumE_perm hp, sumE_all] at hs; omega
  have h1 := List.eq_nil_of_length_eq_zero h0
  subst h1
  refine ⟨fun p hp => (h.val p hp).1, h.lam, fun t => ?_⟩
  by_cases ht : t < X
  · have := h.cnt t ht
    simpa [opn] using this
  · rw [cnt_none (fun p hp => by have := (h.val p hp).2; omega)]
    have := sumE_cut (a := es) (b := []) hp hv (by simp) (t := t) (fun x hx => by have := hX x hx; omega) (by simp)
    rw [sumE_perm hp, sumE_all] at this
    omega
/-- The levels of a row's periods, as tuples of that row. -/
theorem lev_rows {ps M : List (Int × Int)} (h : LevOf ps M) (r : GRow) : Lev (M.map fun p => (⟨r.vals, p.1, p.2, r.lin⟩ : Tup)) ∧ ∀ t, atDay (M.map fun p => (⟨r.vals, p.1, p.2, r.lin⟩ : Tup)) t = List.replicate (cntP ps t) r := by
  refine ⟨⟨fun x hx => ?_, ?_⟩, fun t => ?_⟩
  · obtain ⟨p, hp, rfl⟩ := List.mem_map.1 hx
    exact h.valid p hp
  · rw [List.pairwise_map]
    exact h.lam.imp (fun {a b} (h : LamP a b) => fun _ => h)
  · rw [← h.cnt t]
    clear h
    induction M with
    | nil => rfl
    | cons p M ih =>
      have ec : cntP (p :: M) t = cntP M t + if pincl p.1 p.2 t = true then 1 else 0 := by unfold cntP; rw [List.countP_cons]
      rw [List.map_cons, atDay_cons, ih, ec]
      dsimp only
      split
      · rw [List.replicate_succ]; rfl
      · rfl
/-- What holds between two groups of events: k of them are done, up to X. -/
structure LvS (ps es : List (Int × Int)) (k : Nat) (X : Int) (ol : List Int) (M : List (Int × Int)) : Prop where
  inv : LvI (cntP ps) X ol M
  depth : (ol.length : Int) = sumE (es.take k)
  old : ∀ e ∈ es.take k, e.1 ≤ X
  new : ∀ e ∈ es.drop k, X < e.1
  size : 2 * M.length + ol.length ≤ k
/-- The sorted events of some periods. -/
structure EvOf (ps es : List (Int × Int)) : Prop where
  valid : ∀ p ∈ ps, pvalid p.1 p.2 = true
  perm : es.Perm (evsOf ps)
  sorted : es.Pairwise fun x y => x.1 ≤ y.1
theorem EvOf.range {ps es : List (Int × Int)} (h : EvOf ps es) : ∀ e ∈ es, 0 ≤ e.1 ∧ e.1 ≤ 1099511627776 ∧ (e.2 = 1 ∨ e.2 = -1) := fun e he => evs_range h.valid e (h.perm.mem_iff.1 he)
theorem LvS.start {ps es : List (Int × Int)} (h : EvOf ps es) : LvS ps es 0 (-1) [] [] :=
  ⟨LvI.start fun _ ht => cnt_below h.valid ht, rfl, by simp, fun e he => by have := (h.range e (by simpa using he)).1; omega, Nat.le_refl _⟩
theorem sumE_bound {es : List (Int × Int)} (h : ∀ e ∈ es, e.2 = 1 ∨ e.2 = -1) : -(es.length : Int) ≤ sumE es ∧ sumE es ≤ es.length := by
  induction es with
  | nil => exact ⟨Int.le_refl _, Int.le_refl _⟩
  | cons x es ih =>
    have := ih fun e he => h e (.tail _ he)
    have := h x (.head _)
    rw [sumE_cons, List.length_cons]
    omega
theorem sumE_take {ps es : List (Int × Int)} (h : EvOf ps es) (j : Nat) : -(es.length : Int) ≤ sumE (es.take j) ∧ sumE (es.take j) ≤ es.length := by
  have h1 := sumE_bound (es := es.take j) fun e he => (h.range e (List.mem_of_mem_take he)).2.2
  have h2 : (es.take j).length ≤ es.length := by rw [List.length_take]; omega
  omega
theorem sumE_step {es : List (Int × Int)} {j : Nat} {x : Int × Int} (hx : es[j]? = some x) : sumE (es.take (j + 1)) = sumE (es.take j) + x.2 := by
  rw [take_get hx, sumE_append, sumE_cons]
  show _ + (x.2 + 0) = _
  omega
/-- A group of events at one place: from the k-th to the j-th. -/
structure LvG (ps es : List (Int × Int)) (k j : Nat) (A : Int) : Prop where
  le : k ≤ j
  at' : ∀ i e, k ≤ i → i < j → es[i]? = some e → e.1 = A
theorem LvG.start (ps es : List (Int × Int)) (k : Nat) (A : Int) : LvG ps es k k A := ⟨Nat.le_refl _, fun i e h1 h2 => by omega⟩
theorem LvG.more {ps es : List (Int × Int)} {k j : Nat} {A : Int} (h : LvG ps es k j A) {x : Int × Int} (hx : es[j]? = some x) (hA : x.1 = A) : LvG ps es k (j + 1) A :=
  ⟨by have := h.le; omega, fun i e h1 h2 he => by
    by_cases hi : i < j
    · exact h.at' i e h1 hi he
    · have : i = j := by omega
      subst this
      rw [hx] at he
      cases he
      exact hA⟩
theorem LvG.first {ps es : List (Int × Int)} {k j : Nat} {A : Int} (h : LvG ps es k j A) {x : Int × Int} (hx : es[k]? = some x) (hA : x.1 = A) (hne : ∀ y, es[j]? = some y → y.1 ≠ A) (hk : k < es.length) : k < j := by
  rcases Nat.lt_or_ge k j with h1 | h1
  · exact h1
  · have := h.le
    have e : j = k := by omega
    subst e
    exact absurd hA (hne x hx)
/-- The end of a group. -/
theorem LvS.group {ps es : List (Int × Int)} (h : EvOf ps es) {k j : Nat} {X A : Int} {ol : List Int} {M : List (Int × Int)} (hs : LvS ps es k X ol M) (hg : LvG ps es k j A) {x : Int × Int} (hx : es[k]? = some x) (hA : x.1 = A) (hj : j ≤ es.length) (hne : ∀ y, es[j]? = some y → y.1 ≠ A) :
    LvI (cntP ps) A ol M ∧ (∀ o ∈ ol, o < A) ∧ (∀ p ∈ M, p.2 < A) ∧ sumE (es.take j) = cntP ps A ∧ (∀ e ∈ es.take j, e.1 ≤ A) ∧ (∀ e ∈ es.drop j, A < e.1) ∧ 2 * (M.length : Int) + cntP ps A ≤ j ∧ 2 * (M.length : Int) + 2 * ol.length ≤ j + cntP ps A ∧ 0 ≤ A ∧ A ≤ 1099511627776 ∧ k < j := by
  have hk : k < es.length := (List.getElem?_eq_some_iff.1 hx).1
  have hkj := hg.first hx hA hne hk
  have hr := h.range x (List.mem_of_getElem? hx)
  have hsrt := List.pairwise_iff_getElem.1 h.sorted
  obtain ⟨hk', hxe⟩ := List.getElem?_eq_some_iff.1 hx
  have hdk : ∀ e ∈ es.drop k, A ≤ e.1 := fun e he => by
    obtain ⟨i, hi, rfl⟩ := List.getElem_of_mem he
    rw [List.getElem_drop, ← hA, ← hxe]
    have hi' : k + i < es.length := by rw [List.length_drop] at hi; omega
    rcases Nat.eq_zero_or_pos i with h0 | h0
    · subst h0; exact Int.le_refl _
    · exact hsrt k (k + i) hk' hi' (by omega)
  have hXA : X < A := by rw [← hA]; exact hs.new x (by rw [drop_get hx]; exact .head _)
  obtain ⟨h1, h2, h3⟩ := hs.inv.raise hXA fun t ht1 ht2 => by
    have h4 := sumE_cut h.perm h.valid (List.take_append_drop k es).symm (t := t) (fun e he => by have := hs.old e he; omega) (fun e he => by have := hdk e he; omega)
    have h5 := hs.depth
    omega
  have hold : ∀ e ∈ es.take j, e.1 ≤ A := fun e he => by
    obtain ⟨i, hi, rfl⟩ := List.getElem_of_mem he
    rw [List.getElem_take]
    have hi' : i < j ∧ i < es.length := by rw [List.length_take] at hi; omega
    by_cases hik : i < k
    · have := hs.old es[i] (by rw [List.mem_take_iff_getElem]; exact ⟨i, by omega, rfl⟩)
      omega
    · have := hg.at' i _ (by omega) hi'.1 (List.getElem?_eq_getElem hi'.2)
      omega
  have hnew : ∀ e ∈ es.drop j, A < e.1 := fun e he => by
    obtain ⟨i, hi, rfl⟩ := List.getElem_of_mem he
    rw [List.getElem_drop]
    have hi' : j + i < es.length := by rw [List.length_drop] at hi; omega
    have hj' : j < es.length := by omega
    have hjA := hne _ (List.getElem?_eq_getElem hj')
    have hjk := hsrt k j hk' hj' hkj
    rw [hxe, hA] at hjk
    rcases Nat.eq_zero_or_pos i with h0 | h0
    · subst h0; show A < es[j].1; omega
    · have := hsrt j (j + i) hj' hi' (by omega); omega
  have hsum := sumE_cut h.perm h.valid (List.take_append_drop j es).symm hold hnew
  have hdiff : -((j - k : Nat) : Int) ≤ sumE (es.take j) - sumE (es.take k) ∧ sumE (es.take j) - sumE (es.take k) ≤ (j - k : Nat) := by
    have e : es.take j = es.take k ++ (es.take j).drop k := by
      have := List.take_append_drop k (es.take j)
      rw [List.take_take, Nat.min_eq_left hg.le] at this
      exact this.symm
    have hb := sumE_bound (es := (es.take j).drop k) fun e he => (h.range e (List.mem_of_mem_take (List.mem_of_mem_drop he))).2.2
    rw [e, sumE_append]
    have hl : ((es.take j).drop k).length ≤ j - k := by rw [List.length_drop, List.length_take]; omega
    omega
  have hd := hs.depth
  have hz := hs.size
  refine ⟨h1, h2, h3, hsum, hold, hnew, ?_, ?_, by omega, by omega, hkj⟩ <;> omega
theorem LvS.next {ps es : List (Int × Int)} {j d : Nat} {A : Int} {ol : List Int} {M : List (Int × Int)} (hi : LvI (cntP ps) A ol M) (hs : sumE (es.take j) = d) (ho : ∀ e ∈ es.take j, e.1 ≤ A) (hn : ∀ e ∈ es.drop j, A < e.1) (hl : ol.length = d) (hz : 2 * (M.length : Int) + d ≤ j) : LvS ps es j A ol M :=
  ⟨hi, by rw [hs, hl], ho, hn, by omega⟩
theorem LvS.done {ps es : List (Int × Int)} (h : EvOf ps es) {k : Nat} {X : Int} {ol : List Int} {M : List (Int × Int)} (hs : LvS ps es k X ol M) (hk : k = es.length) : LevOf ps M ∧ M.length ≤ ps.length := by
  subst hk
  have e : es.take es.length = es := List.take_of_length_le (Nat.le_refl _)
  refine ⟨hs.inv.done h.perm h.valid (fun x hx => hs.old x (by rw [e]; exact hx)) (by have := hs.depth; rw [e] at this; exact this), ?_⟩
  have h1 := hs.size
  have h2 := h.perm.length_eq
  rw [evs_length] at h2
  omega
end Go.Proofs.YtnfccpkmaebbiaaGreatDoor

namespace Go.Proofs.YtnfccpkmaebbiaaGreatDoor
open Go.Lib

def digB (c : UInt8) : Bool := decide (48 ≤ c.toNat ∧ c.toNat ≤ 57)
/-- What digits spell. -/
def natFrom (acc : Nat) (l : List UInt8) : Nat := l.foldl (fun a c => a * 10 + (c.toNat - 48)) acc
def hasMinus (l : List UInt8) : Bool := l.head? == some 45
/-- What stands behind the sign. -/
def digitsOf (l : List UInt8) : List UInt8 := if hasMinus l then l.drop 1 else l
/-- An optional minus and digits. -/
def numForm (l : List UInt8) : Bool := !(digitsOf l).isEmpty && (digitsOf l).all digB
/-- No leading zero. -/
def canon (d : List UInt8) : Bool := decide (d.length ≤ 1) || d.head? != some 48
/-- The number whose text this is, if it is one of 64 bits. -/
def numOf (l : List UInt8) : Option Int :=
  if canon (digitsOf l) = true ∧ ¬ (hasMinus l = true ∧ digitsOf l = [48]) ∧ natFrom 0 (digitsOf l) ≤ 9223372036854775808 ∧ (natFrom 0 (digitsOf l) = 9223372036854775808 → hasMinus l = true) then
    some (if hasMinus l then -(natFrom 0 (digitsOf l) : Int) else natFrom 0 (digitsOf l)) else none

theorem natFrom_cons (acc : Nat) (c : UInt8) (r : List UInt8) : natFrom acc (c :: r) = natFrom (acc * 10 + (c.toNat - 48)) r := by unfold natFrom; rw [List.foldl_cons]
theorem natFrom_nil (acc : Nat) : natFrom acc [] = acc := by unfold natFrom; rw [List.foldl_nil]
theorem head_app (a b : List UInt8) (h : a ≠ []) : (a ++ b).head? = a.head? := by
  cases a with
  | nil => exact absurd rfl h
  | cons _ _ => rfl
theorem natFrom_snoc (a : List UInt8) (c : UInt8) : ∀ acc, natFrom acc (a ++ [c]) = natFrom acc a * 10 + (c.toNat - 48) := by
  intro acc
  unfold natFrom
  rw [List.foldl_append, List.foldl_cons, List.foldl_nil]
theorem natFrom_ge (l : List UInt8) : ∀ acc, acc ≤ natFrom acc l := by
  induction l with
  | nil => intro acc; rw [natFrom_nil]; exact Nat.le_refl _
  | cons c r ih => intro acc; have := ih (acc * 10 + (c.toNat - 48)); rw [natFrom_cons]; omega
theorem dig_byte (u : Nat) (h : u < 10) : (UInt8.ofNat (48 + u)).toNat = 48 + u := by simp; omega
theorem natFrom_dec (u : Nat) : natFrom 0 (decDigits u) = u := by
  induction u using Nat.strongRecOn with
  | _ u ih =>
    by_cases h : u < 10
    · rw [decDigits, dif_pos h]; rw [natFrom_cons, natFrom_nil, dig_byte u h]; omega
    · rw [decDigits, dif_neg h, natFrom_snoc, ih (u / 10) (by omega), dig_byte _ (Nat.mod_lt _ (by omega))]; omega
theorem dec_all (u : Nat) : (decDigits u).all digB = true := by
  induction u using Nat.strongRecOn with
  | _ u ih =>
    by_cases h : u < 10
    · rw [decDigits, dif_pos h]; simp only [List.all_cons, List.all_nil, digB]; rw [dig_byte u h]; simp; omega
    · rw [decDigits, dif_neg h, List.all_append, ih (u / 10) (by omega)]
      simp only [List.all_cons, List.all_nil, digB]; rw [dig_byte _ (Nat.mod_lt _ (by omega))]; simp; omega
theorem dec_ne (u : Nat) : decDigits u ≠ [] := by
  intro h
  have h1 := decDigits_length u
  have h2 := nDigits_pos u
  rw [h] at h1; simp at h1; omega
theorem dec_head (u : Nat) (h0 : u ≠ 0) : (decDigits u).head? ≠ some 48 := by
  induction u using Nat.strongRecOn with
  | _ u ih =>
    by_cases h : u < 10
    · rw [decDigits, dif_pos h]
      intro e
      have e1 : UInt8.ofNat (48 + u) = 48 := by simpa using e
      have e2 := congrArg UInt8.toNat e1
      rw [dig_byte u h] at e2
      have : (48 : UInt8).toNat = 48 := rfl
      omega
    · rw [decDigits, dif_neg h]
      have hn := dec_ne (u / 10)
      rw [head_app _ _ hn]
      exact ih (u / 10) (by omega) (by omega)
theorem dec_canon (u : Nat) : canon (decDigits u) = true := by
  by_cases h : u = 0
  · subst h; rw [decDigits, dif_pos (by omega)]; rfl
  · have := dec_head u h
    simp [canon, this]
theorem dec_minus (u : Nat) : hasMinus (decDigits u) = false := by
  have h1 := dec_all u
  have h2 := dec_ne u
  cases h : decDigits u with
  | nil => exact absurd h h2
  | cons c r =>
    rw [h] at h1
    simp [digB] at h1
    simp only [hasMinus, List.head?_cons, beq_eq_false_iff_ne, ne_eq, Option.some.injEq]
    intro e
    subst e
    have : (45 : UInt8).toNat = 45 := rfl
    omega
theorem all_snoc (p : UInt8 → Bool) (a : List UInt8) (c : UInt8) (h : (a ++ [c]).all p = true) : a.all p = true ∧ p c = true := by
  simpa [List.all_append] using h
theorem natFrom_pos (d : List UInt8) (hd : d.all digB = true) (hn : d ≠ []) (hh : d.head? ≠ some 48) : 1 ≤ natFrom 0 d := by
  cases d with
  | nil => exact absurd rfl hn
  | cons c r =>
    have h1 := natFrom_ge r (0 * 10 + (c.toNat - 48))
    rw [natFrom_cons]
    simp only [List.all_cons, Bool.and_eq_true, digB, decide_eq_true_eq] at hd
    have : c.toNat ≠ 48 := fun e => hh (by rw [List.head?_cons, show c = 48 from UInt8.toNat_inj.1 (by rw [e]; rfl)])
    omega
theorem dec_natFrom (n : Nat) : ∀ d : List UInt8, d.length = n → d.all digB = true → d ≠ [] → canon d = true → decDigits (natFrom 0 d) = d := by
  induction n with
  | zero => intro d hl _ hn; exact absurd (List.length_eq_zero_iff.1 hl) hn
  | succ n ih =>
    intro d hl ha hn hc
    obtain ⟨a, c, rfl⟩ : ∃ a c, d = a ++ [c] := ⟨d.dropLast, d.getLast hn, (List.dropLast_concat_getLast hn).symm⟩
    obtain ⟨ha1, hcd⟩ := all_snoc digB a c ha
    simp only [digB, decide_eq_true_eq] at hcd
    have hr : c.toNat - 48 < 10 := by omega
    have hce : UInt8.ofNat (48 + (c.toNat - 48)) = c := UInt8.toNat_inj.1 (by rw [dig_byte _ hr]; omega)
    rw [natFrom_snoc]
    by_cases hz : a = []
    · subst hz
      rw [show natFrom 0 [] * 10 + (c.toNat - 48) = c.toNat - 48 by rw [natFrom_nil]; omega, decDigits, dif_pos hr, hce]; rfl
    · have hhead : a.head? ≠ some 48 := by
        intro e
        simp only [canon, Bool.or_eq_true, decide_eq_true_eq, bne_iff_ne, ne_eq] at hc
        rcases hc with h | h
        · have : 0 < a.length := List.length_pos_iff.2 hz
          rw [List.length_append, List.length_singleton] at h; omega
        · exact h (by rw [head_app _ _ hz]; exact e)
      have h1 := natFrom_pos a ha1 hz hhead
      rw [decDigits, dif_neg (by omega), show (natFrom 0 a * 10 + (c.toNat - 48)) / 10 = natFrom 0 a by omega, show (natFrom 0 a * 10 + (c.toNat - 48)) % 10 = c.toNat - 48 by omega, hce]
      rw [ih a (by simpa using hl) ha1 hz (by simp [canon, hhead])]
theorem digitsOf_minus (r : List UInt8) : digitsOf (45 :: r) = r := rfl
theorem itoa_numOf (n : Int) (h0 : -9223372036854775808 ≤ n) (h1 : n ≤ 9223372036854775807) : numOf (itoa n) = some n ∧ numForm (itoa n) = true := by
  by_cases h : n < 0
  · obtain ⟨u, rfl⟩ : ∃ u : Nat, n = -(u : Int) := ⟨n.natAbs, by omega⟩
    rw [itoa_neg u (by omega)]
    have e : hasMinus (45 :: decDigits u) = true := rfl
    refine ⟨?_, ?_⟩
    · unfold numOf
      have h48 : ¬ (true = true ∧ decDigits u = [48]) := fun h => by
        have := natFrom_dec u
        rw [h.2] at this
        have e2 : natFrom 0 [48] = 0 := by decide
        omega
      rw [digitsOf_minus, e, natFrom_dec, if_pos ⟨dec_canon u, h48, by omega, fun _ => rfl⟩]
      rfl
    · unfold numForm
      rw [digitsOf_minus, dec_all]
      have := dec_ne u
      cases h : decDigits u with
      | nil => exact absurd h this
      | cons _ _ => rfl
  · obtain ⟨u, rfl⟩ : ∃ u : Nat, n = u := ⟨n.toNat, by omega⟩
    rw [itoa_nonneg]
    have e := dec_minus u
    have e2 : digitsOf (decDigits u) = decDigits u := by simp [digitsOf, e]
    refine ⟨?_, ?_⟩
    · unfold numOf
      rw [e2, e, natFrom_dec, if_pos ⟨dec_canon u, fun h => (by cases h.1), by omega, fun h => (by omega)⟩]
      simp
    · unfold numForm
      rw [e2, dec_all]
      have := dec_ne u
      cases h : decDigits u with
      | nil => exact absurd h this
      | cons _ _ => rfl
theorem minus_cons {l : List UInt8} (h : hasMinus l = true) : l = 45 :: digitsOf l := by
  cases l with
  | nil => cases h
  | cons c r =>
    simp [hasMinus] at h
    subst h; rfl
theorem numOf_itoa (l : List UInt8) (hf : numForm l = true) (n : Int) (h : numOf l = some n) : itoa n = l ∧ -9223372036854775808 ≤ n ∧ n ≤ 9223372036854775807 := by
  unfold numOf at h
  split at h
  · rename_i hc
    obtain ⟨hc1, hc2, hc3, hc4⟩ := hc
    cases h
    simp only [numForm, Bool.and_eq_true, Bool.not_eq_true', List.isEmpty_eq_false_iff] at hf
    have hd := dec_natFrom _ _ rfl hf.2 hf.1 hc1
    cases hm : hasMinus l with
    | true =>
      simp only [if_pos]
      have hl := minus_cons hm
      by_cases hz : natFrom 0 (digitsOf l) = 0
      · exfalso
        rw [hz] at hd
        exact hc2 ⟨hm, by rw [← hd]; rw [decDigits, dif_pos (by omega)]; rfl⟩
      · rw [itoa_neg _ (by omega), hd]
        exact ⟨hl.symm, by omega, by omega⟩
    | false =>
      simp only [Bool.false_eq_true, if_false]
      have e2 : digitsOf l = l := by simp [digitsOf, hm]
      rw [itoa_nonneg, hd]
      have : natFrom 0 (digitsOf l) ≠ 9223372036854775808 := fun e => by rw [hc4 e] at hm; cases hm
      exact ⟨e2, by omega, by omega⟩
  · cases h
theorem parse10_dig (l : List UInt8) : ∀ acc, l.all digB = true → natFrom acc l < 18446744073709551616 → parseUint10 acc l = .ok (natFrom acc l) := by
  induction l with
  | nil => intro acc _ _; rw [natFrom_nil]; rfl
  | cons c r ih =>
    intro acc ha hlt
    simp only [List.all_cons, Bool.and_eq_true, digB, decide_eq_true_eq] at ha
    have hg := natFrom_ge r (acc * 10 + (c.toNat - 48))
    rw [natFrom_cons] at hlt
    rw [parseUint10, if_pos ha.1, if_neg (by omega), if_neg (by omega), natFrom_cons]
    exact ih _ ha.2 hlt
theorem atoi_numOf (l : List UInt8) (hf : numForm l = true) (n : Int) (h : numOf l = some n) : atoiAll l = .ok n := by
  unfold numOf at h
  split at h
  · rename_i hc
    obtain ⟨hc1, hc2, hc3, hc4⟩ := hc
    cases h
    simp only [numForm, Bool.and_eq_true, Bool.not_eq_true', List.isEmpty_eq_false_iff] at hf
    have hp := parse10_dig _ 0 hf.2 (by omega)
    have hmag : parseMag (digitsOf l) = .ok (natFrom 0 (digitsOf l)) := by rw [parseMag, if_neg hf.1, hp]
    cases hm : hasMinus l with
    | true =>
      rw [minus_cons hm, atoiAll_minus, digitsOf_minus, hmag]
      simp only [signed]
      rw [if_neg (by omega)]
      simp
    | false =>
      have e2 : digitsOf l = l := by simp [digitsOf, hm]
      have : natFrom 0 (digitsOf l) ≠ 9223372036854775808 := fun e => by rw [hc4 e] at hm; cases hm
      rw [e2] at hmag hf this hc3 ⊢
      cases l with
      | nil => exact absurd rfl hf.1
      | cons c r =>
        have hc0 : digB c = true := by have := hf.2; simp at this; exact this.1
        simp only [digB, decide_eq_true_eq] at hc0
        rw [atoiAll_plain c r (by omega) (by omega), hmag]
        simp only [signless]
        rw [if_neg (by omega)]
        simp
  · cases h
/-- What the program makes of a numeral. -/
theorem num_none (l : List UInt8) (h : numOf l = none) (n : Int) (hn : atoiAll l = .ok n) : itoa n ≠ l := by
  intro e
  have hb := atoiAll_bounds hn
  have := (itoa_numOf n hb.1 hb.2).1
  rw [e, h] at this
  cases this

/-- The definition's loop over the digits: the number so far; whether it fits. -/
def refStep (x : Nat × Bool) (c : UInt8) : Nat × Bool := if 922337203685477580 < x.1 then (x.1, false) else (x.1 * 10 + (c.toNat - 48), x.2)
theorem refStep_inv (d : List UInt8) : ∀ (u : Nat) (f : Bool) (m : Nat), d.all digB = true → (f = true → u = m ∧ u ≤ 9223372036854775809) → (f = false → 922337203685477580 < u ∧ u ≤ 9223372036854775809 ∧ 9223372036854775810 ≤ m) →
    ((d.foldl refStep (u, f)).2 = true → (d.foldl refStep (u, f)).1 = natFrom m d ∧ (d.foldl refStep (u, f)).1 ≤ 9223372036854775809) ∧ ((d.foldl refStep (u, f)).2 = false → (d.foldl refStep (u, f)).1 ≤ 9223372036854775809 ∧ 9223372036854775810 ≤ natFrom m d) := by
  induction d with
  | nil =>
    intro u f m _ h1 h2
    rw [natFrom_nil, List.foldl_nil]
    refine ⟨fun e => ?_, fun e => ?_⟩
    · have := h1 e; exact ⟨this.1, this.2⟩
    · have := h2 e; exact ⟨this.2.1, this.2.2⟩
  | cons c r ih =>
    intro u f m ha h1 h2
    simp only [List.all_cons, Bool.and_eq_true, digB, decide_eq_true_eq] at ha
    rw [List.foldl_cons, natFrom_cons]
    cases f with
    | true =>
      obtain ⟨rfl, hu⟩ := h1 rfl
      by_cases hb : 922337203685477580 < u
      · rw [refStep, if_pos hb]
        exact ih u false _ ha.2 (fun e => by cases e) (fun _ => ⟨hb, hu, by omega⟩)
      · rw [refStep, if_neg hb]
        exact ih _ true _ ha.2 (fun _ => ⟨rfl, by omega⟩) (fun e => by cases e)
    | false =>
      obtain ⟨hb, hu, hm⟩ := h2 rfl
      rw [refStep, if_pos hb]
      exact ih u false _ ha.2 (fun e => by cases e) (fun _ => ⟨hb, hu, by omega⟩)
def refNum (d : List UInt8) : Nat × Bool := d.foldl refStep (0, true)
theorem refNum_fits {d : List UInt8} (ha : d.all digB = true) (h : (refNum d).2 = true) : (refNum d).1 = natFrom 0 d ∧ (refNum d).1 ≤ 9223372036854775809 :=
  (refStep_inv d 0 true 0 ha (fun _ => ⟨rfl, by omega⟩) (fun e => by cases e)).1 h
theorem refNum_big {d : List UInt8} (ha : d.all digB = true) (h : (refNum d).2 = false) : (refNum d).1 ≤ 9223372036854775809 ∧ 9223372036854775810 ≤ natFrom 0 d :=
  (refStep_inv d 0 true 0 ha (fun _ => ⟨rfl, by omega⟩) (fun e => by cases e)).2 h
theorem refNum_le (d : List UInt8) (ha : d.all digB = true) : (refNum d).1 ≤ 9223372036854775809 := by
  cases h : (refNum d).2 with
  | true => exact (refNum_fits ha h).2
  | false => exact (refNum_big ha h).1
end Go.Proofs.YtnfccpkmaebbiaaGreatDoor

namespace Go.Proofs.YtnfccpkmaebbiaaGreatDoor
open Go.Lib

/-- Every quote twice. -/
def dbl2 : List UInt8 → List UInt8
  | [] => []
  | c :: r => if c = 39 then 39 :: 39 :: dbl2 r else c :: dbl2 r
/-- Every pair of quotes, from the left, replaced. -/
def pairs (new : List UInt8) : List UInt8 → List UInt8
  | [] => []
  | [c] => [c]
  | c :: d :: r => if c = 39 ∧ d = 39 then new ++ pairs new r else c :: pairs new (d :: r)
/-- Every pair of quotes is one; a single one is a fault. -/
def undbl : List UInt8 → Option (List UInt8)
  | [] => some []
  | [c] => if c = 39 then none else some [c]
  | c :: d :: r => if c = 39 then (if d = 39 then (undbl r).map (39 :: ·) else none) else (undbl (d :: r)).map (c :: ·)

theorem index_pair_hit (r : List UInt8) : index (39 :: 39 :: r) [39, 39] = ((0 : Nat) : Int) := by
  rw [index]; simp [List.isPrefixOf]
theorem index_pair_miss {c : UInt8} {r : List UInt8} (h : ¬ (c = 39 ∧ r.head? = some 39)) : index (c :: r) [39, 39] = if index r [39, 39] == -1 then -1 else index r [39, 39] + 1 := by
  rw [index, if_neg]
  intro e
  cases r with
  | nil => simp [List.isPrefixOf] at e
  | cons d r =>
    simp [List.isPrefixOf] at e
    exact h ⟨e.1.symm, by simp [e.2]⟩
theorem count_pair_miss {c : UInt8} {r : List UInt8} (h : ¬ (c = 39 ∧ r.head? = some 39)) : count (c :: r) [39, 39] = count r [39, 39] := by
  have hi := index_pair_miss h
  by_cases hm : index r [39, 39] = -1
  · rw [count_miss hm, count_miss (by rw [hi, hm]; rfl)]
  · have hge := index_ge r [39, 39]
    obtain ⟨i, hI⟩ : ∃ i : Nat, index r [39, 39] = i := ⟨(index r [39, 39]).toNat, by omega⟩
    have hI' : index (c :: r) [39, 39] = ((i + 1 : Nat) : Int) := by
      rw [hi, if_neg (by simpa using hm), hI]; rfl
    rw [count_hit (by simp) hI, count_hit (by simp) hI']
    simp
theorem replaceK_pair_miss {c : UInt8} {r new : List UInt8} (h : ¬ (c = 39 ∧ r.head? = some 39)) : replaceK [39, 39] new (count r [39, 39]) (c :: r) = c :: replaceK [39, 39] new (count r [39, 39]) r := by
  cases hk : count r [39, 39] with
  | zero => simp [replaceK]
  | succ k =>
    obtain ⟨i, hI⟩ := index_of_count (s := r) (old := [39, 39]) (by omega)
    have hI' : index (c :: r) [39, 39] = ((i + 1 : Nat) : Int) := by
      rw [index_pair_miss h, if_neg (by rw [hI]; simp), hI]; rfl
    rw [replaceK_hit _ _ _ _ i hI, replaceK_hit _ _ _ _ (i + 1) hI']
    simp
theorem replaceK_pairs (new : List UInt8) (n : Nat) : ∀ l : List UInt8, l.length ≤ n → replaceK [39, 39] new (count l [39, 39]) l = pairs new l := by
  induction n with
  | zero =>
    intro l hl
    have : l = [] := List.length_eq_zero_iff.1 (by omega)
    subst this
    rfl
  | succ n ih =>
    intro l hl
    cases l with
    | nil => rfl
    | cons c r =>
      cases r with
      | nil =>
        have h : ¬ (c = 39 ∧ ([] : List UInt8).head? = some 39) := fun e => by cases e.2
        rw [count_pair_miss h, replaceK_pair_miss h, ih [] (by simp)]
        rfl
      | cons d r =>
        by_cases h : c = 39 ∧ d = 39
        · obtain ⟨rfl, rfl⟩ := h
          have hi := index_pair_hit r
          rw [count_hit (by simp) hi, Nat.add_comm, replaceK_hit _ _ _ _ 0 hi]
          have := ih r (by simp at hl; omega)
          simp only [List.take_zero, List.nil_append, Nat.zero_add, List.length_cons, List.length_nil, List.drop_succ_cons, List.drop_zero]
          rw [this, pairs, if_pos ⟨rfl, rfl⟩]
        · have h' : ¬ (c = 39 ∧ (d :: r).head? = some 39) := fun e => h ⟨e.1, by simpa using e.2⟩
          rw [count_pair_miss h', replaceK_pair_miss h', ih (d :: r) (by simpa using hl), pairs, if_neg h]
theorem replaceAll_pairs (new l : List UInt8) (h : new ≠ [39, 39]) : replaceAll l [39, 39] new = pairs new l := by
  have e : replaceAll l [39, 39] new = replaceK [39, 39] new (count l [39, 39]) l := by
    have : ¬ (([39, 39] : List UInt8) == new) = true := by simpa using fun e => h e.symm
    simp [replaceAll, replace, replaceNum, this]
  rw [e, replaceK_pairs new l.length l (Nat.le_refl _)]
theorem pairs_le (new : List UInt8) (hn : new.length ≤ 2) (n : Nat) : ∀ l : List UInt8, l.length ≤ n → (pairs new l).length ≤ l.length := by
  induction n with
  | zero =>
    intro l hl
    have : l = [] := List.length_eq_zero_iff.1 (by omega)
    subst this
    simp [pairs]
  | succ n ih =>
    intro l hl
    match l with
    | [] => simp [pairs]
    | [c] => simp [pairs]
    | c :: d :: r =>
      rw [pairs]
      split
      · have := ih r (by simp at hl; omega)
        simp; omega
      · have := ih (d :: r) (by simpa using hl)
        simp at this ⊢; omega
theorem undbl_cases (n : Nat) : ∀ l : List UInt8, l.length ≤ n → (undbl l = none → (39 : UInt8) ∈ pairs [] l) ∧ (∀ m, undbl l = some m → (39 : UInt8) ∉ pairs [] l ∧ pairs [39] l = m ∧ dbl2 m = l ∧ m.length ≤ l.length) := by
  induction n with
  | zero =>
    intro l hl
    have : l = [] := List.length_eq_zero_iff.1 (by omega)
    subst this
    refine ⟨(fun h => by cases h), fun m h => ?_⟩
    cases h
    simp [pairs, dbl2]
  | succ n ih =>
    intro l hl
    match l with
    | [] =>
      refine ⟨(fun h => by cases h), fun m h => ?_⟩
      cases h
      simp [pairs, dbl2]
    | [c] =>
      by_cases hc : c = 39
      · subst hc
        refine ⟨fun _ => by simp [pairs], fun m h => ?_⟩
        simp [undbl] at h
      · refine ⟨fun h => ?_, fun m h => ?_⟩
        · simp [undbl, hc] at h
        · simp [undbl, hc] at h
          subst h
          simp [pairs, dbl2, hc]
          exact fun e => hc e.symm
    | c :: d :: r =>
      by_cases hc : c = 39
      · by_cases hd : d = 39
        · subst hc; subst hd
          obtain ⟨h1, h2⟩ := ih r (by simp at hl; omega)
          refine ⟨fun h => ?_, fun m h => ?_⟩
          · have : undbl r = none := by simpa [undbl] using h
            simpa [pairs] using h1 this
          · have : ∃ q, undbl r = some q ∧ 39 :: q = m := by simpa [undbl] using h
            obtain ⟨q, hq, rfl⟩ := this
            obtain ⟨a, b, e, g⟩ := h2 q hq
            refine ⟨by simpa [pairs] using a, by simp [pairs, b], by simp [dbl2, e], by simp; omega⟩
        · subst hc
          refine ⟨fun _ => by simp [pairs, hd], fun m h => ?_⟩
          simp [undbl, hd] at h
      · obtain ⟨h1, h2⟩ := ih (d :: r) (by simpa using hl)
        refine ⟨fun h => ?_, fun m h => ?_⟩
        · have : undbl (d :: r) = none := by simpa [undbl, hc] using h
          have := h1 this
          rw [pairs, if_neg (fun e => hc e.1)]
          exact List.mem_cons_of_mem _ this
        · have : ∃ q, undbl (d :: r) = some q ∧ c :: q = m := by simpa [undbl, hc] using h
          obtain ⟨q, hq, rfl⟩ := this
          obtain ⟨a, b, e, g⟩ := h2 q hq
          refine ⟨?_, ?_, ?_, by simp at g ⊢; omega⟩
          · rw [pairs, if_neg (fun e => hc e.1)]
            intro hm
            rcases List.mem_cons.1 hm with h | h
            · exact hc h.symm
            · exact a h
          · rw [pairs, if_neg (fun e => hc e.1), b]
          · rw [dbl2, if_neg hc, e]
theorem undbl_none {l : List UInt8} (h : undbl l = none) : (39 : UInt8) ∈ pairs [] l := (undbl_cases _ l (Nat.le_refl _)).1 h
theorem undbl_some {l m : List UInt8} (h : undbl l = some m) : (39 : UInt8) ∉ pairs [] l ∧ pairs [39] l = m ∧ dbl2 m = l ∧ m.length ≤ l.length := (undbl_cases _ l (Nat.le_refl _)).2 m h
theorem undbl_dbl (m : List UInt8) : undbl (dbl2 m) = some m := by
  induction m with
  | nil => rfl
  | cons c m ih =>
    by_cases hc : c = 39
    · subst hc; simp [dbl2, undbl, ih]
    · rw [dbl2, if_neg hc]
      cases hm : dbl2 m with
      | nil =>
        rw [hm] at ih
        simp [undbl] at ih
        subst ih
        simp [undbl, hc]
      | cons d r =>
        rw [hm] at ih
        simp [undbl, hc, ih]
theorem contains_one (l : List UInt8) (c : UInt8) : Lib.contains l [c] = l.contains c := by
  unfold Lib.contains
  rw [index_one]
  induction l with
  | nil => rfl
  | cons b l ih =>
    have hge := indexByte_ge l c
    by_cases h : b = c
    · subst h; simp [indexByte]
    · have h' : (c == b) = false := by simpa using fun e => h e.symm
      rw [List.contains_cons, h', ← ih]
      have hb : (b == c) = false := by simpa using h
      by_cases hm : indexByte l c = -1
      · simp [indexByte, hb, hm]
      · simp [indexByte, hb, hm]; omega
theorem dbl2_length (l : List UInt8) : (dbl2 l).length ≤ 2 * l.length := by
  induction l with
  | nil => simp [dbl2]
  | cons c l ih => by_cases h : c = 39 <;> simp [dbl2, h] <;> omega
/-- The library's ReplaceAll at a quote. -/
theorem replaceAll_dbl (s : List UInt8) : replaceAll s [39] [39, 39] = dbl2 s := by
  have h : replaceAll s [39] [39, 39] = replaceK [39] [39, 39] (count s [39]) s := by
    simp [replaceAll, replace, replaceNum]
  rw [h]
  clear h
  induction s with
  | nil => rw [count_one]; simp [replaceK, dbl2]
  | cons c s ih =>
    by_cases h : c = 39
    · subst h
      rw [count_cons_eq, Nat.add_comm, replaceK_hit _ _ _ _ 0 (by rw [index_one]; simp [indexByte])]
      simp [dbl2, ih]
    · rw [count_cons_ne _ _ _ h]
      have hi : index (c :: s) [39] = if index s [39] == -1 then -1 else index s [39] + 1 := by
        rw [index_one, index_one, indexByte]; simp [h]
      have hd : dbl2 (c :: s) = c :: dbl2 s := by simp [dbl2, h]
      rw [hd, ← ih]
      cases hk : count s [39] with
      | zero => simp [replaceK]
      | succ k =>
        obtain ⟨i, hI⟩ := index_of_count (s := s) (old := [39]) (by omega)
        rw [replaceK_hit _ _ _ _ i hI, replaceK_hit _ _ _ _ (i + 1) (by rw [hi, hI]; simp)]
        simp
theorem count_q_le (s : List UInt8) : count s [39] ≤ s.length := by rw [count_one]; exact List.count_le_length
end Go.Proofs.YtnfccpkmaebbiaaGreatDoor

namespace Go.Proofs.YtnfccpkmaebbiaaGreatDoor
open Go.Lib

def gtxt (m : List UInt8) : GVal := ⟨2, 0, ⟨m.toArray⟩⟩
def gtrue : GVal := ⟨3, 1, ⟨#[]⟩⟩
def gfalse : GVal := ⟨3, 0, ⟨#[]⟩⟩
def validG (v : GVal) : Bool :=
  if v.kind = 0 then v.n == 0 && v.s.data.toList.isEmpty else if v.kind = 1 then v.s.data.toList.isEmpty
  else if v.kind = 2 then v.n == 0 && decide (v.s.size ≤ 200) else if v.kind = 3 then (v.n == 0 || v.n == 1) && v.s.data.toList.isEmpty else false
def sNull : List UInt8 := [110, 117, 108, 108]
def sTrue : List UInt8 := [116, 114, 117, 101]
def sFalse : List UInt8 := [102, 97, 108, 115, 101]
/-- The text of a value. -/
def fmtG (v : GVal) : List UInt8 :=
  if validG v = true then (if v.kind = 0 then sNull else if v.kind = 1 then itoa v.n else if v.kind = 3 then (if v.n = 1 then sTrue else sFalse) else 39 :: (dbl2 v.s.data.toList ++ [39])) else []
/-- What stands between the quotes. -/
def unquo (l : List UInt8) : Option (List UInt8) := if l.length < 2 ∨ l.head? ≠ some 39 ∨ l.getLast? ≠ some 39 then none else undbl ((l.drop 1).take (l.length - 2))
/-- The value of a text; the error's number. -/
def parseG (l : List UInt8) : GVal × Int :=
  if l = sNull then (gnull, 0) else if l = sFalse then (gfalse, 0) else if l = sTrue then (gtrue, 0)
  else if numForm l = true then (match numOf l with | some n => (gint n, 0) | none => (gnull, 10))
  else match unquo l with | none => (gnull, 5) | some m => if 200 < m.length then (gnull, 4) else (gtxt m, 0)
def keyOf (v : GVal) : List UInt8 := itoa v.kind ++ [44] ++ itoa v.n ++ [44] ++ itoa v.s.size ++ [58] ++ v.s.data.toList
def keyL (l : List GVal) : List UInt8 := l.flatMap keyOf

theorem bytes_nil {s : ByteArray} (h : s.data.toList = []) : s = ⟨#[]⟩ := by
  obtain ⟨⟨l⟩⟩ := s
  simp at h
  subst h; rfl
theorem bytes_mk (s : ByteArray) : (ByteArray.mk s.data.toList.toArray) = s := by
  obtain ⟨⟨l⟩⟩ := s; rfl
theorem quo_num (l : List UInt8) : numForm (39 :: l) = false := by
  simp [numForm, digitsOf, hasMinus, digB]
theorem quo_unquo (m : List UInt8) : unquo (39 :: (m ++ [39])) = undbl m := by
  unfold unquo
  have h : ¬ ((39 :: (m ++ [39]) : List UInt8).length < 2 ∨ (39 :: (m ++ [39]) : List UInt8).head? ≠ some 39 ∨ (39 :: (m ++ [39]) : List UInt8).getLast? ≠ some 39) := by
    simp [List.getLast?_cons, List.getLast?_append]
  rw [if_neg h]
  simp
theorem parse_fmt (v : GVal) (h : validG v = true) (hn : In64 v.n) : parseG (fmtG v) = (v, 0) := by
  obtain ⟨k, n, s⟩ := v
  unfold fmtG
  rw [if_pos h]
  unfold validG at h
  dsimp only at h hn ⊢
  by_cases h0 : k = 0
  · subst h0
    simp only [if_true, Bool.and_eq_true, beq_iff_eq, List.isEmpty_iff] at h
    obtain ⟨rfl, h2⟩ := h
    rw [bytes_nil h2]; rfl
  · rw [if_neg h0] at h ⊢
    by_cases h1 : k = 1
    · subst h1
      simp only [if_true, List.isEmpty_iff] at h
      obtain ⟨hi1, hi2⟩ := itoa_numOf n hn.1 hn.2
      simp only [if_true]
      have e1 : itoa n ≠ sNull := fun e => by rw [e] at hi2; exact absurd hi2 (by decide)
      have e2 : itoa n ≠ sFalse := fun e => by rw [e] at hi2; exact absurd hi2 (by decide)
      have e3 : itoa n ≠ sTrue := fun e => by rw [e] at hi2; exact absurd hi2 (by decide)
      unfold parseG
      rw [if_neg e1, if_neg e2, if_neg e3, if_pos hi2, hi1, bytes_nil h]; rfl
    · rw [if_neg h1] at h ⊢
      by_cases h2 : k = 2
      · subst h2
        simp only [if_true, Bool.and_eq_true, beq_iff_eq, decide_eq_true_eq] at h
        obtain ⟨rfl, h2⟩ := h
        rw [if_neg (by omega)]
        have e1 : (39 :: (dbl2 s.data.toList ++ [39]) : List UInt8) ≠ sNull := fun e => by have := List.head_eq_of_cons_eq e; exact absurd this (by decide)
        have e2 : (39 :: (dbl2 s.data.toList ++ [39]) : List UInt8) ≠ sFalse := fun e => by have := List.head_eq_of_cons_eq e; exact absurd this (by decide)
        have e3 : (39 :: (dbl2 s.data.toList ++ [39]) : List UInt8) ≠ sTrue := fun e => by have := List.head_eq_of_cons_eq e; exact absurd this (by decide)
        unfold parseG
        have hl : ¬ 200 < s.data.toList.length := by
          have : s.data.toList.length = s.size := (Lib.size_eq s).symm
          omega
        rw [if_neg e1, if_neg e2, if_neg e3, if_neg (by rw [quo_num]; simp), quo_unquo, undbl_dbl]
        simp only
        rw [if_neg hl, gtxt, bytes_mk]
      · rw [if_neg h2] at h
        by_cases h3 : k = 3
        · subst h3
          simp only [if_true, Bool.and_eq_true, Bool.or_eq_true, beq_iff_eq, List.isEmpty_iff] at h
          obtain ⟨h4, h5⟩ := h
          rw [bytes_nil h5]
          rcases h4 with rfl | rfl <;> rfl
        · rw [if_neg h3] at h; cases h
theorem unquo_some {l m : List UInt8} (h : unquo l = some m) : 39 :: (dbl2 m ++ [39]) = l := by
  unfold unquo at h
  split at h
  · cases h
  · rename_i hc
    have hc1 : ¬ l.length < 2 := fun e => hc (.inl e)
    have hc2 : l.head? = some 39 := by
      by_cases e : l.head? = some 39
      · exact e
      · exact absurd (.inr (.inl e)) hc
    have hc3 : l.getLast? = some 39 := by
      by_cases e : l.getLast? = some 39
      · exact e
      · exact absurd (.inr (.inr e)) hc
    rw [(undbl_some h).2.2.1]
    cases l with
    | nil => simp at hc1
    | cons c r =>
      simp at hc2
      subst hc2
      have hr : r ≠ [] := by intro e; subst e; simp at hc1
      have hl : r.getLast? = some 39 := by
        rw [List.getLast?_cons_of_ne_nil hr] at hc3
        exact hc3
      rw [List.getLast?_eq_some_getLast hr] at hl
      have hl' : r.getLast hr = 39 := by simpa using hl
      have := List.dropLast_concat_getLast hr
      rw [hl'] at this
      have e : ((39 :: r : List UInt8).drop 1).take ((39 :: r : List UInt8).length - 2) = r.dropLast := by
        rw [List.dropLast_eq_take]; simp
      rw [e, this]
theorem fmt_parse (l : List UInt8) (v : GVal) (h : parseG l = (v, 0)) : validG v = true ∧ fmtG v = l ∧ In64 v.n := by
  unfold parseG at h
  split at h
  · rename_i e; cases h; subst e; refine ⟨rfl, rfl, by decide⟩
  split at h
  · rename_i e; cases h; subst e; refine ⟨rfl, rfl, by decide⟩
  split at h
  · rename_i e; cases h; subst e; refine ⟨rfl, rfl, by decide⟩
  split at h
  · rename_i hf
    cases hn : numOf l with
    | none => rw [hn] at h; cases h
    | some n =>
      rw [hn] at h; cases h
      obtain ⟨h1, h2, h3⟩ := numOf_itoa l hf n hn
      exact ⟨rfl, h1, h2, h3⟩
  · cases hu : unquo l with
    | none => rw [hu] at h; cases h
    | some m =>
      rw [hu] at h
      simp only at h
      split at h
      · cases h
      · rename_i hl
        cases h
        have hv : validG (gtxt m) = true := by simp [validG, gtxt, ByteArray.size]; omega
        refine ⟨hv, ?_, by simp [gtxt, In64]⟩
        unfold fmtG
        rw [if_pos hv]
        simpa [gtxt] using unquo_some hu
/-- The errors' numbers. -/
theorem parse_err (l : List UInt8) : (parseG l).2 = 0 ∨ (parseG l).1 = gnull ∧ ((parseG l).2 = 4 ∨ (parseG l).2 = 5 ∨ (parseG l).2 = 10) := by
  unfold parseG
  split
  · exact .inl rfl
  split
  · exact .inl rfl
  split
  · exact .inl rfl
  split
  · split
    · exact .inl rfl
    · exact .inr ⟨rfl, .inr (.inr rfl)⟩
  · split
    · exact .inr ⟨rfl, .inr (.inl rfl)⟩
    · split
      · exact .inr ⟨rfl, .inl rfl⟩
      · exact .inl rfl

theorem sep_inj (c : UInt8) : ∀ (a b x y : List UInt8), c ∉ a → c ∉ b → a ++ c :: x = b ++ c :: y → a = b ∧ x = y := by
  intro a
  induction a with
  | nil =>
    intro b x y _ hb h
    cases b with
    | nil => simp at h; exact ⟨rfl, h⟩
    | cons d b => simp at h; exact absurd h.1 (fun e => hb (by simp [e]))
  | cons d a ih =>
    intro b x y ha hb h
    cases b with
    | nil => simp at h; exact absurd h.1.symm (fun e => ha (by simp [e]))
    | cons e b =>
      simp at h
      obtain ⟨h1, h2⟩ := ih b x y (fun hm => ha (List.mem_cons_of_mem _ hm)) (fun hm => hb (List.mem_cons_of_mem _ hm)) h.2
      exact ⟨by rw [h.1, h1], h2⟩
theorem dec_not (u : Nat) (c : UInt8) (hc : digB c = false) : c ∉ decDigits u := fun h => by
  have := List.all_eq_true.1 (dec_all u) c h
  rw [hc] at this; cases this
theorem itoa_not (n : Int) (c : UInt8) (hc : digB c = false) (h45 : c ≠ 45) : c ∉ itoa n := by
  unfold itoa
  split
  · intro h
    rcases List.mem_cons.1 h with h | h
    · exact h45 h
    · exact dec_not _ c hc h
  · exact dec_not _ c hc
theorem dec_inj {a b : Nat} (h : decDigits a = decDigits b) : a = b := by rw [← natFrom_dec a, h, natFrom_dec]
theorem itoa_inj {a b : Int} (h : itoa a = itoa b) : a = b := by
  unfold itoa at h
  split at h <;> split at h
  · simp at h; have := dec_inj h; omega
  · exfalso; have h2 := dec_minus b.toNat; rw [← h] at h2; cases h2
  · exfalso; have h2 := dec_minus a.toNat; rw [h] at h2; cases h2
  · have := dec_inj h; omega
theorem key_step (u v : GVal) (x y : List UInt8) (h : keyOf u ++ x = keyOf v ++ y) : u = v ∧ x = y := by
  obtain ⟨k1, n1, s1⟩ := u
  obtain ⟨k2, n2, s2⟩ := v
  simp only [keyOf, List.append_assoc, List.singleton_append] at h
  obtain ⟨h1, h⟩ := sep_inj 44 _ _ _ _ (itoa_not _ _ (by decide) (by decide)) (itoa_not _ _ (by decide) (by decide)) h
  obtain ⟨h2, h⟩ := sep_inj 44 _ _ _ _ (itoa_not _ _ (by decide) (by decide)) (itoa_not _ _ (by decide) (by decide)) h
  obtain ⟨h3, h⟩ := sep_inj 58 _ _ _ _ (itoa_not _ _ (by decide) (by decide)) (itoa_not _ _ (by decide) (by decide)) h
  have e1 := itoa_inj h1
  have e2 := itoa_inj h2
  have e3 : s1.size = s2.size := by have := itoa_inj h3; omega
  have hl : s1.data.toList.length = s2.data.toList.length := by rw [← Lib.size_eq, ← Lib.size_eq]; exact e3
  obtain ⟨h4, h5⟩ := List.append_inj h hl
  subst e1; subst e2
  refine ⟨?_, h5⟩
  have : s1 = s2 := by rw [← bytes_mk s1, h4, bytes_mk]
  rw [this]
theorem key_ne (v : GVal) : keyOf v ≠ [] := by
  intro h
  simp [keyOf] at h
theorem key_inj (a b : List GVal) : keyL a = keyL b ↔ a = b := by
  constructor
  · induction a generalizing b with
    | nil =>
      intro h
      cases b with
      | nil => rfl
      | cons v b =>
        simp only [keyL, List.flatMap_nil, List.flatMap_cons] at h
        exact absurd (List.append_eq_nil_iff.1 h.symm).1 (key_ne v)
    | cons u a ih =>
      intro h
      cases b with
      | nil =>
        simp only [keyL, List.flatMap_nil, List.flatMap_cons] at h
        exact absurd (List.append_eq_nil_iff.1 h).1 (key_ne u)
      | cons v b =>
        simp only [keyL, List.flatMap_cons] at h
        obtain ⟨rfl, h2⟩ := key_step u v _ _ h
        rw [ih b h2]
  · intro h; rw [h]
end Go.Proofs.YtnfccpkmaebbiaaGreatDoor

namespace Go.Proofs.YtnfccpkmaebbiaaGreatDoor
open Go.Shelf Go.RowKit Go.Lib Go.Sort
def sh_laysM171_ren : Go.Shelf.Ren := ⟨fun | 171 => 75 | 243 => 95 | 246 => 130 | 283 => 152 | 284 => 153 | 285 => 154 | 286 => 155 | 129 => 108 | 317 => 164 | 318 => 165 | 319 => 166 | 320 => 167 | 337 => 170 | 338 => 171 | n => n, fun | 3 => 3 | 9 => 9 | 2 => 2 | 4 => 4 | 171 => 162 | 0 => 0 | 53 => 129 | 37 => 88 | 5 => 5 | 173 => 164 | 212 => 176 | 51 => 127 | 20 => 20 | 213 => 177 | 46 => 105 | 232 => 179 | 233 => 180 | n => n, fun | 17 => 0 | 18 => 2 | 19 => 3 | n => n⟩
theorem sh_laysM171 : LaysM.n171 Tryz.prog sh_laysM171_ren := {
  mixed := by kernel_rfl
  f129 := Tryz.func108.trans (congrArg some (by kernel_rfl))
  f171 := Tryz.func75.trans (congrArg some (by kernel_rfl))
  f243 := Tryz.func95.trans (congrArg some (by kernel_rfl))
  f246 := Tryz.func130.trans (congrArg some (by kernel_rfl))
  f283 := Tryz.func152.trans (congrArg some (by kernel_rfl))
  f284 := Tryz.func153.trans (congrArg some (by kernel_rfl))
  f285 := Tryz.func154.trans (congrArg some (by kernel_rfl))
  f286 := Tryz.func155.trans (congrArg some (by kernel_rfl))
  f317 := Tryz.func164.trans (congrArg some (by kernel_rfl))
  f318 := Tryz.func165.trans (congrArg some (by kernel_rfl))
  f319 := Tryz.func166.trans (congrArg some (by kernel_rfl))
  f320 := Tryz.func167.trans (congrArg some (by kernel_rfl))
  f337 := Tryz.func170.trans (congrArg some (by kernel_rfl))
  f338 := Tryz.func171.trans (congrArg some (by kernel_rfl))
  t0 := Tryz.underlying0
  a0 := Tryz.isAgg0
  z0 := Tryz.sizeOf0
  v0 := Tryz.zeroValue0
  t2 := Tryz.underlying2
  a2 := Tryz.isAgg2
  z2 := Tryz.sizeOf2
  v2 := Tryz.zeroValue2
  t3 := Tryz.underlying3
  a3 := Tryz.isAgg3
  z3 := Tryz.sizeOf3
  v3 := Tryz.zeroValue3
  t4 := Tryz.underlying4
  a4 := Tryz.isAgg4
  z4 := Tryz.sizeOf4
  v4 := Tryz.zeroValue4
  t5 := Tryz.underlying5
  a5 := Tryz.isAgg5
  z5 := Tryz.sizeOf5
  v5 := Tryz.zeroValue5
  t9 := Tryz.underlying9
  a9 := Tryz.isAgg9
  z9 := Tryz.sizeOf9
  v9 := Tryz.zeroValue9
  t20 := Tryz.underlying20
  a20 := Tryz.isAgg20
  z20 := Tryz.sizeOf20
  v20 := Tryz.zeroValue20
  t37 := Tryz.underlying88
  a37 := Tryz.isAgg88
  z37 := Tryz.sizeOf88
  v37 := Tryz.zeroValue88
  t46 := Tryz.underlying105
  a46 := Tryz.isAgg105
  z46 := Tryz.sizeOf105
  v46 := Tryz.zeroValue105
  t51 := Tryz.underlying127
  a51 := Tryz.isAgg127
  z51 := Tryz.sizeOf127
  v51 := Tryz.zeroValue127
  t53 := Tryz.underlying129
  a53 := Tryz.isAgg129
  z53 := Tryz.sizeOf129
  v53 := Tryz.zeroValue129
  t171 := Tryz.underlying162
  a171 := Tryz.isAgg162
  z171 := Tryz.sizeOf162
  v171 := Tryz.zeroValue162
  t173 := Tryz.underlying164
  a173 := Tryz.isAgg164
  z173 := Tryz.sizeOf164
  v173 := Tryz.zeroValue164
  t212 := Tryz.underlying176
  a212 := Tryz.isAgg176
  z212 := Tryz.sizeOf176
  v212 := Tryz.zeroValue176
  t213 := Tryz.underlying177
  a213 := Tryz.isAgg177
  z213 := Tryz.sizeOf177
  t232 := Tryz.underlying179
  a232 := Tryz.isAgg179
  z232 := Tryz.sizeOf179
  v232 := Tryz.zeroValue179
  t233 := Tryz.underlying180
  a233 := Tryz.isAgg180
  z233 := Tryz.sizeOf180
  v233 := Tryz.zeroValue180
  g17 := by kernel_rfl
  g18 := by kernel_rfl
  g19 := by kernel_rfl
  i0 := by kernel_rfl
  i2 := by kernel_rfl
  i3 := by kernel_rfl
  i4 := by kernel_rfl
  i5 := by kernel_rfl
  i9 := by kernel_rfl
  i20 := by kernel_rfl
  i37 := by kernel_rfl
  i46 := by kernel_rfl
  i51 := by kernel_rfl
  i53 := by kernel_rfl
  i171 := by kernel_rfl
  i173 := by kernel_rfl
  i212 := by kernel_rfl
  i232 := by kernel_rfl
  i233 := by kernel_rfl
  m17 := by kernel_rfl
  m18 := by kernel_rfl
  m19 := by kernel_rfl }
theorem sh_strconv_Itoa (n : Int) (h0 : -9223372036854775808 ≤ n) (h1 : n ≤ 9223372036854775807) (w : World) (htab : Lib.TabIs Tryz.prog w "internal/strconv.uint64pow10" .u64 Lib.pow10Tab) :
    Calls Tryz.prog 75 #[.int .i64 n] w fun e w' => e = .returned (.string ⟨(Lib.itoa n).toArray⟩) ∧ ∃ k os, w' = grow (w.drewN k) os := Any.strconv_Itoa sh_laysM171 n h0 h1 w htab
def sh_laysM173_ren : Go.Shelf.Ren := ⟨fun | 173 => 96 | 246 => 130 | 283 => 152 | 284 => 153 | 285 => 154 | 286 => 155 | 129 => 108 | 317 => 164 | 318 => 165 | 319 => 166 | 320 => 167 | 337 => 170 | 338 => 171 | n => n, fun | 2 => 2 | 3 => 3 | 9 => 9 | 4 => 4 | 171 => 162 | 0 => 0 | 53 => 129 | 37 => 88 | 5 => 5 | 173 => 164 | 212 => 176 | 51 => 127 | 20 => 20 | 213 => 177 | 46 => 105 | 232 => 179 | 233 => 180 | n => n, fun | 17 => 0 | 18 => 2 | 19 => 3 | n => n⟩
theorem sh_laysM173 : LaysM.n173 Tryz.prog sh_laysM173_ren := {
  mixed := by kernel_rfl
  f129 := Tryz.func108.trans (congrArg some (by kernel_rfl))
  f173 := Tryz.func96.trans (congrArg some (by kernel_rfl))
  f246 := Tryz.func130.trans (congrArg some (by kernel_rfl))
  f283 := Tryz.func152.trans (congrArg some (by kernel_rfl))
  f284 := Tryz.func153.trans (congrArg some (by kernel_rfl))
  f285 := Tryz.func154.trans (congrArg some (by kernel_rfl))
  f286 := Tryz.func155.trans (congrArg some (by kernel_rfl))
  f317 := Tryz.func164.trans (congrArg some (by kernel_rfl))
  f318 := Tryz.func165.trans (congrArg some (by kernel_rfl))
  f319 := Tryz.func166.trans (congrArg some (by kernel_rfl))
  f320 := Tryz.func167.trans (congrArg some (by kernel_rfl))
  f337 := Tryz.func170.trans (congrArg some (by kernel_rfl))
  f338 := Tryz.func171.trans (congrArg some (by kernel_rfl))
  t0 := Tryz.underlying0
  a0 := Tryz.isAgg0
  z0 := Tryz.sizeOf0
  v0 := Tryz.zeroValue0
  t2 := Tryz.underlying2
  a2 := Tryz.isAgg2
  z2 := Tryz.sizeOf2
  v2 := Tryz.zeroValue2
  t3 := Tryz.underlying3
  a3 := Tryz.isAgg3
  z3 := Tryz.sizeOf3
  v3 := Tryz.zeroValue3
  t4 := Tryz.underlying4
  a4 := Tryz.isAgg4
  z4 := Tryz.sizeOf4
  v4 := Tryz.zeroValue4
  t5 := Tryz.underlying5
  a5 := Tryz.isAgg5
  z5 := Tryz.sizeOf5
  v5 := Tryz.zeroValue5
  t9 := Tryz.underlying9
  a9 := Tryz.isAgg9
  z9 := Tryz.sizeOf9
  v9 := Tryz.zeroValue9
  t20 := Tryz.underlying20
  a20 := Tryz.isAgg20
  z20 := Tryz.sizeOf20
  v20 := Tryz.zeroValue20
  t37 := Tryz.underlying88
  a37 := Tryz.isAgg88
  z37 := Tryz.sizeOf88
  v37 := Tryz.zeroValue88
  t46 := Tryz.underlying105
  a46 := Tryz.isAgg105
  z46 := Tryz.sizeOf105
  v46 := Tryz.zeroValue105
  t51 := Tryz.underlying127
  a51 := Tryz.isAgg127
  z51 := Tryz.sizeOf127
  v51 := Tryz.zeroValue127
  t53 := Tryz.underlying129
  a53 := Tryz.isAgg129
  z53 := Tryz.sizeOf129
  v53 := Tryz.zeroValue129
  t171 := Tryz.underlying162
  a171 := Tryz.isAgg162
  z171 := Tryz.sizeOf162
  v171 := Tryz.zeroValue162
  t173 := Tryz.underlying164
  a173 := Tryz.isAgg164
  z173 := Tryz.sizeOf164
  v173 := Tryz.zeroValue164
  t212 := Tryz.underlying176
  a212 := Tryz.isAgg176
  z212 := Tryz.sizeOf176
  v212 := Tryz.zeroValue176
  t213 := Tryz.underlying177
  a213 := Tryz.isAgg177
  z213 := Tryz.sizeOf177
  t232 := Tryz.underlying179
  a232 := Tryz.isAgg179
  z232 := Tryz.sizeOf179
  v232 := Tryz.zeroValue179
  t233 := Tryz.underlying180
  a233 := Tryz.isAgg180
  z233 := Tryz.sizeOf180
  v233 := Tryz.zeroValue180
  g17 := by kernel_rfl
  g18 := by kernel_rfl
  g19 := by kernel_rfl
  i0 := by kernel_rfl
  i2 := by kernel_rfl
  i3 := by kernel_rfl
  i4 := by kernel_rfl
  i5 := by kernel_rfl
  i9 := by kernel_rfl
  i20 := by kernel_rfl
  i37 := by kernel_rfl
  i46 := by kernel_rfl
  i51 := by kernel_rfl
  i53 := by kernel_rfl
  i171 := by kernel_rfl
  i173 := by kernel_rfl
  i212 := by kernel_rfl
  i232 := by kernel_rfl
  i233 := by kernel_rfl
  m17 := by kernel_rfl
  m18 := by kernel_rfl
  m19 := by kernel_rfl }
theorem sh_strconv_FormatInt_10 (n : Int) (h0 : -9223372036854775808 ≤ n) (h1 : n ≤ 9223372036854775807) (w : World) (htab : Lib.TabIs Tryz.prog w "internal/strconv.uint64pow10" .u64 Lib.pow10Tab) :
    Calls Tryz.prog 96 #[.int .i64 n, .int .i64 10] w fun e w' => e = .returned (.string ⟨(Lib.itoa n).toArray⟩) ∧ ∃ k os, w' = grow (w.drewN k) os := Any.strconv_FormatInt_10 sh_laysM173 n h0 h1 w htab
end Go.Proofs.YtnfccpkmaebbiaaGreatDoor

namespace Go.Proofs.YtnfccpkmaebbiaaGreatDoor
open Go.Shelf Go.RowKit

def bldRen : Go.Shelf.Ren := ⟨fun | 240 => 94 | 276 => 129 | 166 => 74 | 169 => 77 | n => n, fun | 0 => 0 | 3 => 3 | 4 => 4 | 5 => 5 | 9 => 9 | 20 => 20 | 37 => 88 | 70 => 87 | 72 => 90 | 75 => 92 | 80 => 97 | 164 => 143 | 127 => 115 | n => n, fun | n => n⟩
theorem bldLays240 : Lays.n240 Tryz.prog bldRen := {
  mixed := by kernel_rfl
  f240 := Tryz.func94.trans (congrArg some (by kernel_rfl))
  f276 := Tryz.func129.trans (congrArg some (by kernel_rfl))
  t0 := Tryz.underlying0
  a0 := Tryz.isAgg0
  z0 := Tryz.sizeOf0
  v0 := Tryz.zeroValue0
  t4 := Tryz.underlying4
  a4 := Tryz.isAgg4
  z4 := Tryz.sizeOf4
  v4 := Tryz.zeroValue4
  t9 := Tryz.underlying9
  a9 := Tryz.isAgg9
  z9 := Tryz.sizeOf9
  v9 := Tryz.zeroValue9
  t20 := Tryz.underlying20
  a20 := Tryz.isAgg20
  z20 := Tryz.sizeOf20
  v20 := Tryz.zeroValue20
  t70 := Tryz.underlying87
  a70 := Tryz.isAgg87
  z70 := Tryz.sizeOf87
  v70 := Tryz.zeroValue87
  t72 := Tryz.underlying90
  a72 := Tryz.isAgg90
  z72 := Tryz.sizeOf90
  v72 := Tryz.zeroValue90
  t164 := Tryz.underlying143
  a164 := Tryz.isAgg143
  z164 := Tryz.sizeOf143
  v164 := Tryz.zeroValue143 }
theorem bldLays166 : Lays.n166 Tryz.prog bldRen := {
  mixed := by kernel_rfl
  f166 := Tryz.func74.trans (congrArg some (by kernel_rfl))
  f240 := Tryz.func94.trans (congrArg some (by kernel_rfl))
  f276 := Tryz.func129.trans (congrArg some (by kernel_rfl))
  t0 := Tryz.underlying0
  a0 := Tryz.isAgg0
  z0 := Tryz.sizeOf0
  v0 := Tryz.zeroValue0
  t3 := Tryz.underlying3
  a3 := Tryz.isAgg3
  z3 := Tryz.sizeOf3
  v3 := Tryz.zeroValue3
  t4 := Tryz.underlying4
  a4 := Tryz.isAgg4
  z4 := Tryz.sizeOf4
  v4 := Tryz.zeroValue4
  t9 := Tryz.underlying9
  a9 := Tryz.isAgg9
  z9 := Tryz.sizeOf9
  v9 := Tryz.zeroValue9
  t20 := Tryz.underlying20
  a20 := Tryz.isAgg20
  z20 := Tryz.sizeOf20
  v20 := Tryz.zeroValue20
  t37 := Tryz.underlying88
  a37 := Tryz.isAgg88
  z37 := Tryz.sizeOf88
  v37 := Tryz.zeroValue88
  t70 := Tryz.underlying87
  a70 := Tryz.isAgg87
  z70 := Tryz.sizeOf87
  v70 := Tryz.zeroValue87
  t72 := Tryz.underlying90
  a72 := Tryz.isAgg90
  z72 := Tryz.sizeOf90
  v72 := Tryz.zeroValue90
  t75 := Tryz.underlying92
  a75 := Tryz.isAgg92
  z75 := Tryz.sizeOf92
  v75 := Tryz.zeroValue92
  t164 := Tryz.underlying143
  a164 := Tryz.isAgg143
  z164 := Tryz.sizeOf143
  v164 := Tryz.zeroValue143 }
theorem bldLays169 : Lays.n169 Tryz.prog bldRen := {
  mixed := by kernel_rfl
  f169 := Tryz.func77.trans (congrArg some (by kernel_rfl))
  t0 := Tryz.underlying0
  a0 := Tryz.isAgg0
  z0 := Tryz.sizeOf0
  v0 := Tryz.zeroValue0
  t3 := Tryz.underlying3
  a3 := Tryz.isAgg3
  z3 := Tryz.sizeOf3
  v3 := Tryz.zeroValue3
  t9 := Tryz.underlying9
  a9 := Tryz.isAgg9
  z9 := Tryz.sizeOf9
  v9 := Tryz.zeroValue9
  t37 := Tryz.underlying88
  a37 := Tryz.isAgg88
  z37 := Tryz.sizeOf88
  v37 := Tryz.zeroValue88
  t70 := Tryz.underlying87
  a70 := Tryz.isAgg87
  z70 := Tryz.sizeOf87
  v70 := Tryz.zeroValue87
  t72 := Tryz.underlying90
  a72 := Tryz.isAgg90
  z72 := Tryz.sizeOf90
  v72 := Tryz.zeroValue90
  t127 := Tryz.underlying115
  a127 := Tryz.isAgg115
  z127 := Tryz.sizeOf115
  v127 := Tryz.zeroValue115 }
theorem bldX72 : Builder.X72 Tryz.prog bldRen := {
  sizeBuilder := by kernel_rfl
  liesBuilder := by kernel_rfl }
theorem bldExtra : Builder.Extra Tryz.prog bldRen := {
  sizeBuilder := by kernel_rfl
  liesBuilder := by kernel_rfl
  t5 := Tryz.underlying5
  a5 := Tryz.isAgg5
  z5 := Tryz.sizeOf5
  v5 := Tryz.zeroValue5
  infoByte := by kernel_rfl
  cellsByte := by kernel_rfl
  sizeByte := by kernel_rfl
  neB5 := by decide }
/-- A strings.Builder at block b that the call has made (its blocks: from B on), holding these bytes. -/
abbrev Bld (B b : Nat) (bs : List Value) (w : World) : Prop := Lib.IsBuilderF 90 5 B b bs w
/-- Every block but b that is no row of bytes stands as it stood. -/
abbrev BKept (b : Nat) (w w' : World) : Prop := Lib.OthersKept 5 (some b) w w'
theorem bld_fresh (w : World) : Bld w.heap.size w.heap.size [] (w.alloc (.cells #[.pointer none, .slice none 0 0] 90)) := Lib.IsBuilderF.of (Lib.fresh_isBuilder _ _ w)
theorem bld_WriteString (B b : Nat) (bs : List Value) (s : ByteArray) (w : World) (h : Bld B b bs w) (hlen : bs.length + s.size ≤ 140737488355328) (hBw : B ≤ w.heap.size) :
    Calls Tryz.prog 74 #[.pointer (some ⟨b, 0, none⟩), .string s] w fun e w' => e = .returned (.tuple #[.int .i64 s.size, .nilIface]) ∧ Bld B b (bs ++ Lib.strCells s) w' ∧ Below B w w' ∧ BKept b w w' :=
  (Any.Builder_WriteString_k bldLays166 bldExtra B b bs s w h hlen hBw).mono fun _ _ ⟨h1, h2, h3, h4⟩ => ⟨h1, .inr h2, h3, h4⟩
theorem bld_String (B b : Nat) (l : List UInt8) (w : World) (h : Bld B b (Lib.byteCells l) w) (hBw : B ≤ w.heap.size) :
    Calls Tryz.prog 77 #[.pointer (some ⟨b, 0, none⟩)] w fun e w' => e = .returned (.string ⟨l.toArray⟩) ∧ Below B w w' :=
  (Any.Builder_String_any_k bldLays169 bldExtra B b l w h hBw).mono fun _ _ ⟨h1, _, h3, _⟩ => ⟨h1, h3⟩
theorem bld_lt {B b : Nat} {bs : List Value} {w : World} (h : Bld B b bs w) : b < w.heap.size := by
  rcases h with ⟨_, v, h, _⟩ | ⟨_, v, h, _⟩ <;> exact (Array.getElem?_eq_some_iff.1 h).1
theorem strCells_mk (l : List UInt8) : Lib.strCells ⟨l.toArray⟩ = Lib.byteCells l := by simp [Lib.strCells, Lib.byteCells]
theorem byteCells_append (l m : List UInt8) : Lib.byteCells (l ++ m) = Lib.byteCells l ++ Lib.byteCells m := by simp [Lib.byteCells]
theorem byteCells_snoc (l : List UInt8) (c : UInt8) : Lib.byteCells (l ++ [c]) = Lib.byteCells l ++ [.int .u8 c.toNat] := by simp [Lib.byteCells]
theorem byteCells_length (l : List UInt8) : (Lib.byteCells l).length = l.length := by simp [Lib.byteCells]
theorem bytes_append (l m : List UInt8) : (ByteArray.mk l.toArray) ++ (ByteArray.mk m.toArray) = ByteArray.mk (l ++ m).toArray := by
  apply ByteArray.ext
  simp
/-- A builder stays one while nothing below the heap's end turns. -/
theorem bld_below {B b : Nat} {bs : List Value} {w w' : World} (h : Bld B b bs w) (hb : Below w.heap.size w w') : Bld B b bs w' := by
  have key : ∀ p, Lib.BuilderAtF 90 5 B b p bs w → Lib.BuilderAtF 90 5 B b p bs w' := by
    intro p ⟨h1, v, h2, h3, h4⟩
    refine ⟨h1, v, ?_, ?_, h4⟩
    · rw [hb.block b (Array.getElem?_eq_some_iff.1 h2).1]; exact h2
    · refine ⟨h3.1, ?_⟩
      rcases h3.2 with h5 | ⟨g, cap, cur, fz, hv, hg, hh, r⟩
      · exact .inl h5
      · exact .inr ⟨g, cap, cur, fz, hv, hg, by rw [hb.block g (Array.getElem?_eq_some_iff.1 hh).1]; exact hh, r⟩
  rcases h with h | h
  · exact .inl (key _ h)
  · exact .inr (key _ h)
end Go.Proofs.YtnfccpkmaebbiaaGreatDoor

namespace Go.Proofs.YtnfccpkmaebbiaaGreatDoor
open Go.RowKit

/-- The library's table of powers of ten reads as laid. -/
def Pow (w : World) : Prop := Lib.TabIs Tryz.prog w "internal/strconv.uint64pow10" .u64 Lib.pow10Tab
theorem pow_named : Tryz.prog.globalNamed "internal/strconv.uint64pow10" = some 0 := by kernel_rfl
theorem Pow.below {w w' : World} (h : Pow w) (hb : Below w.heap.size w w') : Pow w' := Go.Joins.tab_stays pow_named h hb (Nat.le_refl _)
theorem Pow.keep {w w' : World} (h : Pow w) (hb : Below w.heap.size w w') : Pow w' := h.below hb
theorem pow_drew {w : World} (h : Pow w) : Pow w.drew := h.below (Below.refl _ _).drew
theorem fmtInt_pow (n : Int) (h : In64 n) (w : World) (ht : Pow w) : Calls Tryz.prog 96 #[.int .i64 n, .int .i64 10] w fun e w' => e = .returned (.string ⟨(Lib.itoa n).toArray⟩) ∧ Below w.heap.size w w' :=
  (sh_strconv_FormatInt_10 n h.1 h.2 w ht).mono fun _ _ ⟨h1, k, os, h2⟩ => ⟨h1, by rw [h2]; exact Lib.below_grow _ _ (Nat.le_refl _) _ _⟩
theorem itoa_pow (n : Int) (h : In64 n) (w : World) (ht : Pow w) : Calls Tryz.prog 75 #[.int .i64 n] w fun e w' => e = .returned (.string ⟨(Lib.itoa n).toArray⟩) ∧ Below w.heap.size w w' :=
  (sh_strconv_Itoa n h.1 h.2 w ht).mono fun _ _ ⟨h1, k, os, h2⟩ => ⟨h1, by rw [h2]; exact Lib.below_grow _ _ (Nat.le_refl _) _ _⟩
theorem app_bytes (l m : List UInt8) : (ByteArray.mk l.toArray) ++ (ByteArray.mk m.toArray) = ByteArray.mk (l ++ m).toArray := by
  apply ByteArray.ext
  simp
set_option maxHeartbeats 4000000 in
theorem val_at3 {w : World} {G : Nat → Prop} {a : Option Addr} {n c k : Nat} {l : List GVal} {x : GVal} (h : Sl valE w G (.slice a n c) l) (hk : l[k]? = some x) :
    ∃ b o, a = some ⟨b, o, none⟩ ∧ w.cell? ⟨b, o + k * 3, none⟩ = some (.int .i64 x.kind) ∧ w.cell? ⟨b, o + k * 3 + 1, none⟩ = some (.int .i64 x.n) ∧ w.cell? ⟨b, o + k * 3 + 2, none⟩ = some (.string x.s) := by
  obtain ⟨b, o, cs, ha, rfl, hc⟩ := Sl.at h hk
  exact ⟨b, o, ha, hc 0 _ rfl, hc 1 _ rfl, hc 2 _ rfl⟩
theorem bld_alloc {B b : Nat} {bs : List Value} {w : World} {o : Obj} (h : Bld B b bs w) : Bld B b bs (w.alloc o) := bld_below h (below_alloc _ _)
theorem bld_drew {B b : Nat} {bs : List Value} {w : World} (h : Bld B b bs w) : Bld B b bs w.drew := bld_below h (Below.refl _ _).drew
theorem bld_keep {B b : Nat} {bs : List Value} {w w' : World} (h : Bld B b bs w) (hb : Below w.heap.size w w') : Bld B b bs w' := bld_below h hb
theorem bkept_box {b g : Nat} {w w' : World} {c : Array Value} {t : TypeId} {fz : Nat × Nat} (hk : BKept b w w') (h : w.heap[g]? = some (.cells c t fz)) (hg : g ≠ b) (ht : t ≠ 5) : w'.heap[g]? = some (.cells c t fz) :=
  hk g _ h (fun e => hg (by cases e; rfl)) (fun c' fz' e => ht (by cases e; rfl))
theorem below_tr {B : Nat} {w W w' : World} (h : Below B w W) (hb : Below B W w') : Below B w w' := h.trans hb
theorem box_drew {w : World} {g : Nat} {o : Obj} (h : w.heap[g]? = some o) : w.drew.heap[g]? = some o := h
def keyBytes (v : GVal) : ByteArray := ⟨(keyOf v).toArray⟩
theorem keyBytes_eq (v : GVal) : keyBytes v = (ByteArray.mk (Lib.itoa v.kind).toArray) ++ (ByteArray.mk #[44]) ++ (ByteArray.mk (Lib.itoa v.n).toArray) ++ (ByteArray.mk #[44]) ++ (ByteArray.mk (Lib.itoa v.s.size).toArray) ++ (ByteArray.mk #[58]) ++ v.s := by
  rw [show v.s = ByteArray.mk v.s.data.toList.toArray from (bytes_mk v.s).symm, show (ByteArray.mk #[44]) = ByteArray.mk [44].toArray from rfl, show (ByteArray.mk #[58]) = ByteArray.mk [58].toArray from rfl]
  simp only [app_bytes, keyBytes, keyOf]
theorem keyOf_length (v : GVal) (hk : In64 v.kind) (hn : In64 v.n) (hs : v.s.size ≤ 9223372036854775807) : (keyOf v).length ≤ 70 + v.s.size := by
  have h1 := Lib.itoa_length_le v.kind hk.1 hk.2
  have h2 := Lib.itoa_length_le v.n hn.1 hn.2
  have h3 := Lib.itoa_length_le v.s.size (by omega) (by omega)
  have h4 := Lib.size_eq v.s
  simp only [keyOf, List.length_append, List.length_singleton]
  omega
theorem key_at_le (l : List GVal) : ∀ (k : Nat) (x : GVal), l[k]? = some x → x.s.size ≤ (keyL l).length ∧ (keyL (l.take k)).length + (keyOf x).length ≤ (keyL l).length := by
  intro k x h
  have e : keyL l = keyL (l.take k) ++ keyOf x ++ keyL (l.drop (k + 1)) := by
    have h1 : l = l.take k ++ (x :: l.drop (k + 1)) := by rw [← drop_get h, List.take_append_drop]
    conv => lhs; rw [h1]
    simp [keyL, List.flatMap_append]
  have h2 : x.s.size ≤ (keyOf x).length := by
    have := Lib.size_eq x.s
    simp only [keyOf, List.length_append, List.length_singleton]
    omega
  rw [e, List.length_append, List.length_append]
  omega
set_option maxHeartbeats 4000000 in
set_option maxRecDepth 100000 in
theorem key_any (v : Value) (l : List GVal) (w : World) (hv : Sl valE w free v l) (hk : ∀ x ∈ l, In64 x.kind ∧ In64 x.n ∧ x.s.size ≤ maxLen) (hlen : (keyL l).length ≤ 140737488355328) (hT : Pow w) :
    Calls Tryz.prog 76 #[v] w fun e w' => e = .returned (.string ⟨(keyL l).toArray⟩) ∧ Below w.heap.size w w' := by
  obtain ⟨a1, c1, rfl⟩ := hv.shape
  have h63 := hv.1
  have HV := Lib.hid hv
  have HT := Lib.hid hT
  have HK := Lib.hid hk
  have HL := Lib.hid hlen
  obtain ⟨n, hn⟩ : ∃ n, n = l.length := ⟨_, rfl⟩
  have HN := Lib.hid hn
  rw [← hn] at HV h63 ⊢
  clear hv hn hT hk hlen
  go_enter Tryz.func76, Tryz.ntmps76
  go_wp2_with fail
  go_loopw [8] (fun i wr => ∃ k : Nat, k ≤ n ∧ i = .int .i64 k ∧ Hid (Bld w.heap.size w.heap.size (Lib.byteCells (keyL (l.take k))) wr) ∧ Hid (Below w.heap.size w wr)) (fun i _ => n - (intOf i).toNat)
  case atStart => exact ⟨0, Nat.zero_le _, rfl, Lib.hid (bld_fresh w), Lib.hid (below_alloc _ _)⟩
  case round =>
    obtain ⟨k, hk, rfl, HBl, HB⟩ := hrel
    obtain ⟨wo, rfl⟩ : ∃ wo : World, wo = wr := ⟨_, rfl⟩
    by_cases hlt : k < n
    · obtain ⟨x, hx⟩ := lget_some l k (by rw [← HN.out]; exact hlt)
      obtain ⟨b, o, rfl, p0, p1, p2⟩ := val_at3 (HV.out.below HB.out) hx
      have hxm := HK.out x (List.mem_of_getElem? hx)
      have HX := Lib.hid hx
      have hzo := HB.out.size
      obtain ⟨kk, kn, ks⟩ := x
      dsimp only at hxm p0 p1 p2
      have hks : ks.size ≤ 9223372036854775807 := by have := hxm.2.2; unfold maxLen at this; omega
      have HXM := Lib.hid hxm
      clear hx hxm
      have hkk := HXM.out.1
      have hkn := HXM.out.2.1
      have hsz : In64 (ks.size : Int) := by unfold In64; omega
      have hl1 := Lib.itoa_length_le kk hkk.1 hkk.2
      have hl2 := Lib.itoa_length_le kn hkn.1 hkn.2
      have hl3 := Lib.itoa_length_le (ks.size : Int) hsz.1 hsz.2
      have hl4 : ks.size ≤ 140737488355328 := by
        have h1 := key_at_le l k _ HX.out
        have h2 := HL.out
        dsimp only at h1
        omega
      have j1 : ¬ 9223372036854775807 < (Lib.itoa kk).length + 1 := by omega
      have j2 : ¬ 9223372036854775807 < (Lib.itoa kk).length + 1 + (Lib.itoa kn).length := by omega
      have j3 : ¬ 9223372036854775807 < (Lib.itoa kk).length + 1 + (Lib.itoa kn).length + 1 := by omega
      have j4 : ¬ 9223372036854775807 < (Lib.itoa kk).length + 1 + (Lib.itoa kn).length + 1 + (Lib.itoa (ks.size : Int)).length := by omega
      have j5 : ¬ 9223372036854775807 < (Lib.itoa kk).length + 1 + (Lib.itoa kn).length + 1 + (Lib.itoa (ks.size : Int)).length + 1 := by omega
      have j6 : ¬ 9223372036854775807 < (Lib.itoa kk).length + 1 + (Lib.itoa kn).length + 1 + (Lib.itoa (ks.size : Int)).length + 1 + ks.size := by omega
      have hT0 := HT.out.below (below_alloc_keep (o := .cells #[.int .i64 kk, .int .i64 kn, .string ks] 74) HB.out)
      have hB0 := below_alloc_keep (o := .cells #[.int .i64 kk, .int .i64 kn, .string ks] 74) HB.out
      obtain ⟨⟨c0, c1, c2⟩, _⟩ := box_three (heap_alloc_new wo (.cells #[.int .i64 kk, .int .i64 kn, .string ks] 74))
      have hL0 := bld_alloc (o := .cells #[.int .i64 kk, .int .i64 kn, .string ks] 74) HBl.out
      go_wp2_with fail
      have hX0 := heap_alloc_new wo (.cells #[.int .i64 kk, .int .i64 kn, .string ks] 74)
      have hne : wo.heap.size ≠ w.heap.size := by have := bld_lt HBl.out; omega
      have HW : ∀ W : World, Hid (Bld w.heap.size w.heap.size (Lib.byteCells (keyL (l.take k))) W → w.heap.size ≤ W.heap.size → Calls Tryz.prog 74 #[.pointer (some ⟨w.heap.size, 0, none⟩), .string ((ByteArray.mk (Lib.itoa kk).toArray) ++ (ByteArray.mk #[44]) ++ (ByteArray.mk (Lib.itoa kn).toArray) ++ (ByteArray.mk #[44]) ++ (ByteArray.mk (Lib.itoa ks.size).toArray) ++ (ByteArray.mk #[58]) ++ ks)] W fun e w' =>
          e = .returned (.tuple #[.int .i64 ((keyBytes ⟨kk, kn, ks⟩).size : Int), .nilIface]) ∧ Bld w.heap.size w.heap.size (Lib.byteCells (keyL (l.take (k + 1)))) w' ∧ Below w.heap.size W w' ∧ BKept w.heap.size W w') := fun W hL hz => by
        have h1 := keyBytes_eq ⟨kk, kn, ks⟩
        have h2 := key_at_le l k _ HX.out
        have h3 := HL.out
        have h4 : (keyBytes ⟨kk, kn, ks⟩).size = (keyOf ⟨kk, kn, ks⟩).length := by simp [keyBytes, ByteArray.size]
        have h5 : (Lib.byteCells (keyL (l.take k))).length = (keyL (l.take k)).length := by simp [Lib.byteCells]
        dsimp only at h1
        rw [← h1]
        refine (bld_WriteString _ _ _ _ _ hL (by omega) hz).mono ?_
        rintro e w' ⟨h6, h7, h8, h9⟩
        refine ⟨h6, ?_, h8, h9⟩
        have h10 : keyL (l.take (k + 1)) = keyL (l.take k) ++ keyOf ⟨kk, kn, ks⟩ := by rw [take_get HX.out]; simp [keyL, List.flatMap_append]
        rw [h10, byteCells_append, ← strCells_mk (keyOf _)]
        exact h7
      go_region_held3 (fun W => Below w.heap.size w W ∧ Pow W ∧ W.heap[wo.heap.size]? = some (.cells #[.int .i64 kk, .int .i64 kn, .string ks] 74) ∧ W.cell? ⟨wo.heap.size, 0, none⟩ = some (.int .i64 kk) ∧ W.cell? ⟨wo.heap.size, 1, none⟩ = some (.int .i64 kn) ∧ W.cell? ⟨wo.heap.size, 2, none⟩ = some (.string ks))
        ((go_split_ands; refine ⟨?_, ?_, ?_, ?_, ?_, ?_⟩ <;> first | (with_reducible assumption) | with_reducible exact Below.drew (by assumption) | with_reducible exact pow_drew (by assumption) | with_reducible exact box_drew (by assumption) | with_reducible exact cell_drew (by assumption) | with_reducible exact below_keep (by assumption) (by assumption) | with_reducible exact Pow.keep (by assumption) (by assumption) | with_reducible exact box_kept (by assumption) (by assumption) | with_reducible exact cell_keep (by assumption) (by assumption)))
        (first
          | (go_at_call 75; go_split_ands; refine (itoa_pow _ (by assumption) _ (by assumption)).mono ?_; rintro e w' ⟨rfl, hb⟩; have hL := bld_keep (by first | assumption | exact bld_drew (by assumption)) hb)
          | (go_at_call 96; go_split_ands; refine (fmtInt_pow _ (by assumption) _ (by assumption)).mono ?_; rintro e w' ⟨rfl, hb⟩; have hL := bld_keep (by first | assumption | exact bld_drew (by assumption)) hb)
          | (go_at_call 74; go_split_ands; refine ((HW _).out (by first | assumption | exact bld_drew (by assumption)) (Below.size (by assumption))).mono ?_; rintro e w4 ⟨rfl, hL4, hb4, hk4⟩; have hB4 := below_tr (by assumption) hb4; have hT4 := HT.out.below hB4; have hX4 := bkept_box hk4 (by assumption) hne (by decide); obtain ⟨⟨e0, e1, e2⟩, _⟩ := box_three hX4))
      all_goals
        have HL4 := Lib.hid hL4
        have HB4 := Lib.hid hB4
        clear hL4 hB4 hb4 hk4 hT4 hX4 e0 e1 e2 HW
        go_wp2_with fail
        go_roundw
        case rel => exact ⟨k + 1, by omega, by go_num, HL4, HB4⟩
        case measure => simp [intOf]; omega
    · have hkn : k = n := by omega
      subst hkn
      have hz := HB.out.size
      have HS : Hid (keyL (l.take k) = keyL l) := by rw [List.take_of_length_le (by rw [← HN.out]; exact Nat.le_refl _)]; exact Lib.hid rfl
      go_wp2_with (go_at_call 77; refine (bld_String _ _ _ _ HBl.out hz).mono ?_; rintro e w' ⟨rfl, hw⟩)
      go_ret
      rw [HS.out]
      exact ⟨rfl, HB.out.trans hw⟩
/-- The key of a row. -/
def linKey (l : List Int) : List UInt8 := l.flatMap fun i => 44 :: Lib.itoa i
def rowKeyL (r : GRow) : List UInt8 := Lib.itoa r.vals.length ++ [59] ++ keyL r.vals ++ linKey r.lin
theorem linKey_snoc (l : List Int) (x : Int) : linKey (l ++ [x]) = linKey l ++ (44 :: Lib.itoa x) := by unfold linKey; rw [List.flatMap_append]; simp
theorem linKey_end (l : List Int) : ∃ h, linKey l ++ [44] = 44 :: h := by cases l with
  | nil => exact ⟨[], rfl⟩
  | cons x l => exact ⟨Lib.itoa x ++ linKey l ++ [44], by simp [linKey]⟩
theorem linKey_inj : ∀ (a b : List Int), linKey a = linKey b → a = b
  | [], [], _ => rfl
  | [], y :: b, h => by simp [linKey] at h
  | x :: a, [], h => by simp [linKey] at h
  | x :: a, y :: b, h => by
    have h1 : (Lib.itoa x ++ linKey a) ++ [44] = (Lib.itoa y ++ linKey b) ++ [44] := by
      have : Lib.itoa x ++ linKey a = Lib.itoa y ++ linKey b := by
        have h2 : (44 :: (Lib.itoa x ++ linKey a)) = 44 :: (Lib.itoa y ++ linKey b) := by simpa [linKey] using h
        exact (List.cons.inj h2).2
      rw [this]
    obtain ⟨p, hp⟩ := linKey_end a
    obtain ⟨q, hq⟩ := linKey_end b
    rw [List.append_assoc, List.append_assoc, hp, hq] at h1
    obtain ⟨h2, h3⟩ := sep_inj 44 _ _ _ _ (itoa_not _ _ (by decide) (by decide)) (itoa_not _ _ (by decide) (by decide)) h1
    have h4 : linKey a = linKey b := List.append_cancel_right (bs := [44]) (by rw [hp, hq, h3])
    rw [itoa_inj h2, linKey_inj a b h4]
theorem keyL_split : ∀ (a b : List GVal) (x y : List UInt8), a.length = b.length → keyL a ++ x = keyL b ++ y → a = b ∧ x = y
  | [], [], x, y, _, h => ⟨rfl, by simpa [keyL] using h⟩
  | [], v :: b, x, y, hl, _ => by simp at hl
  | u :: a, [], x, y, hl, _ => by simp at hl
  | u :: a, v :: b, x, y, hl, h => by
    simp only [keyL, List.flatMap_cons, List.append_assoc] at h
    obtain ⟨rfl, h2⟩ := key_step u v _ _ h
    obtain ⟨rfl, h3⟩ := keyL_split a b x y (by simpa using hl) h2
    exact ⟨rfl, h3⟩
theorem rowKey_inj {a b : GRow} (h : rowKeyL a = rowKeyL b) : a = b := by
  obtain ⟨v1, l1⟩ := a
  obtain ⟨v2, l2⟩ := b
  unfold rowKeyL at h
  dsimp only at h
  simp only [List.append_assoc, List.singleton_append] at h
  obtain ⟨h1, h2⟩ := sep_inj 59 _ _ _ _ (itoa_not _ _ (by decide) (by decide)) (itoa_not _ _ (by decide) (by decide)) h
  have h3 := itoa_inj h1
  obtain ⟨rfl, h4⟩ := keyL_split v1 v2 _ _ (by omega) h2
  rw [linKey_inj _ _ h4]
theorem linKey_length {l : List Int} (h : ∀ x ∈ l, In64 x) : (linKey l).length ≤ 30 * l.length := by
  induction l with
  | nil => simp [linKey]
  | cons x l ih =>
    have h1 := ih fun y hy => h y (.tail _ hy)
    have h2 := Lib.itoa_length_le x (h x (.head _)).1 (h x (.head _)).2
    have e : linKey (x :: l) = 44 :: (Lib.itoa x ++ linKey l) := by simp [linKey]
    rw [e, List.length_cons, List.length_append, List.length_cons]
    omega
theorem itoa_le {n : Int} (h : In64 n) : (Lib.itoa n).length ≤ 21 := Lib.itoa_length_le n h.1 h.2
end Go.Proofs.YtnfccpkmaebbiaaGreatDoor

namespace Go.Proofs.YtnfccpkmaebbiaaGreatDoor
open Go.RowKit

def keyT (x : Tup) : List UInt8 := rowKeyL x.row
/-- The periods of the tuples with that key. -/
def perOf (l : List Tup) (s : List UInt8) : List (Int × Int) := (l.filter fun x => pvalid x.lo x.hi && (keyT x == s)).map fun x => (x.lo, x.hi)
theorem perOf_snoc (l : List Tup) (x : Tup) (s : List UInt8) : perOf (l ++ [x]) s = perOf l s ++ if (pvalid x.lo x.hi && (keyT x == s)) = true then [(x.lo, x.hi)] else [] := by
  unfold perOf
  rw [List.filter_append, List.map_append]
  congr 1
  rw [List.filter_cons, List.filter_nil]
  split <;> rfl
theorem perOf_valid (l : List Tup) (s : List UInt8) : ∀ p ∈ perOf l s, pvalid p.1 p.2 = true := by
  intro p hp
  unfold perOf at hp
  obtain ⟨x, hx, rfl⟩ := List.mem_map.1 hp
  have := (List.mem_filter.1 hx).2
  rw [Bool.and_eq_true] at this
  exact this.1
theorem perOf_len (l : List Tup) (s : List UInt8) : (perOf l s).length ≤ l.length := by unfold perOf; rw [List.length_map]; exact List.length_filter_le _ _
theorem perOf_cnt (l : List Tup) (r : GRow) (t : Int) : atDay (l.filter fun x => keyT x == rowKeyL r) t = List.replicate (cntP (perOf l (rowKeyL r)) t) r := by
  induction l with
  | nil => rfl
  | cons x l ih =>
    by_cases h1 : keyT x = rowKeyL r
    · have hr : x.row = r := rowKey_inj h1
      rw [List.filter_cons, if_pos (by simpa using h1), atDay_cons, ih]
      by_cases h2 : pvalid x.lo x.hi = true
      · have e : perOf (x :: l) (rowKeyL r) = (x.lo, x.hi) :: perOf l (rowKeyL r) := by unfold perOf; rw [List.filter_cons, if_pos (by simp [h1, h2])]; rfl
        have ec : cntP ((x.lo, x.hi) :: perOf l (rowKeyL r)) t = cntP (perOf l (rowKeyL r)) t + if pincl x.lo x.hi t = true then 1 else 0 := by unfold cntP; rw [List.countP_cons]
        rw [e, ec]
        split
        · rw [List.replicate_succ, hr]
        · rfl
      · have e : perOf (x :: l) (rowKeyL r) = perOf l (rowKeyL r) := by unfold perOf; rw [List.filter_cons, if_neg (by simp [h2])]
        rw [e, if_neg (fun h => h2 (pincl_iff.1 h).1)]
    · have e : perOf (x :: l) (rowKeyL r) = perOf l (rowKeyL r) := by unfold perOf; rw [List.filter_cons, if_neg (by simp [h1])]
      rw [List.filter_cons, if_neg (by simpa using h1), ih, e]
/-- What is made of the tuples whose keys are done. -/
structure NrmI (l : List Tup) (L : List UInt8 → Bool) (out : List Tup) : Prop where
  lev : Lev out
  key : ∀ x ∈ out, L (keyT x) = false
  day : ∀ t, (atDay out t).Perm (atDay (l.filter fun x => !L (keyT x)) t)
  len : out.length ≤ (l.filter fun x => pvalid x.lo x.hi && !L (keyT x)).length
theorem NrmI.start {l : List Tup} {L : List UInt8 → Bool} (h : ∀ x ∈ l, pvalid x.lo x.hi = true → L (keyT x) = true) : NrmI l L [] := by
  refine ⟨Lev.nil, by simp, fun t => ?_, Nat.zero_le _⟩
  have : atDay (l.filter fun x => !L (keyT x)) t = [] := by
    refine List.eq_nil_iff_forall_not_mem.2 fun r hr => ?_
    obtain ⟨x, hx, _, hi⟩ := mem_atDay.1 hr
    obtain ⟨h1, h2⟩ := List.mem_filter.1 hx
    rw [h x h1 (pincl_iff.1 hi).1] at h2
    cases h2
  rw [this]
  exact .refl _
theorem filter_parts {l : List Tup} {p q r : Tup → Bool} (h : ∀ x, r x = (p x || q x)) (hd : ∀ x, p x = true → q x = false) : (l.filter p ++ l.filter q).Perm (l.filter r) := by
  have h1 := List.filter_append_perm p (l.filter r)
  rw [List.filter_filter, List.filter_filter] at h1
  have e1 : (fun a => p a && r a) = p := by funext x; rw [h x]; cases p x <;> simp
  have e2 : (fun a => !p a && r a) = q := by
    funext x
    rw [h x]
    cases hp : p x
    · simp
    · simp [hd x hp]
  rw [e1, e2] at h1
  exact h1
theorem NrmI.step {l out M : List _} {L : List UInt8 → Bool} {r : GRow} (h : NrmI l L out) (hL : L (rowKeyL r) = true) (hM : LevOf (perOf l (rowKeyL r)) M) (hlen : M.length ≤ (perOf l (rowKeyL r)).length) :
    NrmI l (fun z => L z && !(z == rowKeyL r)) (out ++ M.map fun p => (⟨r.vals, p.1, p.2, r.lin⟩ : Tup)) := by
  obtain ⟨h1, h2⟩ := lev_rows hM r
  have hk : ∀ y ∈ M.map (fun p => (⟨r.vals, p.1, p.2, r.lin⟩ : Tup)), keyT y = rowKeyL r := by
    intro y hy
    obtain ⟨p, _, rfl⟩ := List.mem_map.1 hy
    rfl
  refine ⟨⟨fun x hx => ?_, ?_⟩, fun x hx => ?_, fun t => ?_, ?_⟩
  · rcases List.mem_append.1 hx with hx | hx
    · exact h.lev.valid x hx
    · exact h1.valid x hx
  · rw [List.pairwise_append]
    refine ⟨h.lev.lam, h1.lam, fun x hx y hy e => ?_⟩
    have h3 := h.key x hx
    have h4 : keyT x = keyT y := congrArg rowKeyL e
    rw [h4, hk y hy, hL] at h3
    cases h3
  · rcases List.mem_append.1 hx with hx | hx
    · rw [h.key x hx]; rfl
    · rw [hk x hx]; simp
  · rw [atDay_append, h2 t, ← perOf_cnt l r t]
    refine ((h.day t).append_right _).trans ?_
    rw [← atDay_append]
    refine atDay_perm (filter_parts (fun x => ?_) fun x hx => ?_) t
    · cases L (keyT x) <;> cases (keyT x == rowKeyL r) <;> rfl
    · rw [beq_eq_false_iff_ne]
      intro e
      rw [e, hL] at hx
      cases hx
  · have hp := (filter_parts (l := l) (p := fun x => pvalid x.lo x.hi && !L (keyT x)) (q := fun x => pvalid x.lo x.hi && (keyT x == rowKeyL r)) (r := fun x => pvalid x.lo x.hi && !(L (keyT x) && !(keyT x == rowKeyL r))) (fun x => by
      cases pvalid x.lo x.hi <;> cases L (keyT x) <;> cases (keyT x == rowKeyL r) <;> rfl) fun x hx => by
        cases hk : (keyT x == rowKeyL r)
        · simp
        · rw [beq_iff_eq] at hk
          rw [hk, hL] at hx
          simp at hx).length_eq
    rw [List.length_append] at hp
    rw [List.length_append, List.length_map]
    have e : (perOf l (rowKeyL r)).length = (l.filter fun x => pvalid x.lo x.hi && (keyT x == rowKeyL r)).length := by unfold perOf; rw [List.length_map]
    have := h.len
    omega
theorem NrmI.done {l out T : List Tup} {L : List UInt8 → Bool} (h : NrmI l L out) (hL : ∀ s, L s = false) (hp : T.Perm out) (hs : T.Pairwise fun a b => ¬ cmpTup b a < 0) : IsNF l T := by
  refine ⟨h.lev.perm hp.symm, hs, fun t => (atDay_perm hp t).trans ((h.day t).trans ?_)⟩
  have : (l.filter fun x => !L (keyT x)) = l := List.filter_eq_self.2 fun x _ => by rw [hL]; rfl
  rw [this]
theorem NrmI.small {l out : List Tup} {L : List UInt8 → Bool} (h : NrmI l L out) : out.length ≤ l.length := Nat.le_trans h.len (List.length_filter_le _ _)
end Go.Proofs.YtnfccpkmaebbiaaGreatDoor

namespace Go.Proofs.YtnfccpkmaebbiaaGreatDoor
open Go.Shelf
def sh_sortEvs_ren : Go.Shelf.Ren := ⟨fun | 6 => 78 | 15 => 82 | 14 => 97 | 28 => 107 | 29 => 108 | 20 => 131 | 21 => 132 | 22 => 133 | 23 => 134 | 24 => 135 | 25 => 136 | 26 => 137 | 27 => 138 | 46 => 156 | 47 => 140 | 48 => 141 | 49 => 157 | 50 => 158 | 57 => 168 | n => n, fun | 22 => 98 | 24 => 100 | 25 => 102 | 3 => 3 | 39 => 105 | 0 => 0 | 53 => 127 | 55 => 129 | 4 => 4 | 46 => 120 | 45 => 119 | 50 => 124 | 5 => 5 | 9 => 9 | 66 => 150 | 70 => 154 | 76 => 168 | 77 => 169 | n => n, fun | n => n⟩
theorem sh_sortEvs : Go.Proofs.SlLaysF0.n6 Tryz.prog sh_sortEvs_ren := {
  mixed := by kernel_rfl
  f6 := ⟨Tryz.f78.name, by decide, Tryz.func78.trans (congrArg some (by kernel_rfl))⟩
  f14 := ⟨Tryz.f97.name, by decide, Tryz.func97.trans (congrArg some (by kernel_rfl))⟩
  f15 := Tryz.func82.trans (congrArg some (by kernel_rfl))
  f20 := ⟨Tryz.f131.name, by decide, Tryz.func131.trans (congrArg some (by kernel_rfl))⟩
  f21 := ⟨Tryz.f132.name, by decide, Tryz.func132.trans (congrArg some (by kernel_rfl))⟩
  f22 := ⟨Tryz.f133.name, by decide, Tryz.func133.trans (congrArg some (by kernel_rfl))⟩
  f23 := ⟨Tryz.f134.name, by decide, Tryz.func134.trans (congrArg some (by kernel_rfl))⟩
  f24 := ⟨Tryz.f135.name, by decide, Tryz.func135.trans (congrArg some (by kernel_rfl))⟩
  f25 := ⟨Tryz.f136.name, by decide, Tryz.func136.trans (congrArg some (by kernel_rfl))⟩
  f26 := ⟨Tryz.f137.name, by decide, Tryz.func137.trans (congrArg some (by kernel_rfl))⟩
  f27 := ⟨Tryz.f138.name, by decide, Tryz.func138.trans (congrArg some (by kernel_rfl))⟩
  f28 := Tryz.func107.trans (congrArg some (by kernel_rfl))
  f29 := Tryz.func108.trans (congrArg some (by kernel_rfl))
  f46 := ⟨Tryz.f156.name, by decide, Tryz.func156.trans (congrArg some (by kernel_rfl))⟩
  f47 := Tryz.func140.trans (congrArg some (by kernel_rfl))
  f48 := Tryz.func141.trans (congrArg some (by kernel_rfl))
  f49 := ⟨Tryz.f157.name, by decide, Tryz.func157.trans (congrArg some (by kernel_rfl))⟩
  f50 := ⟨Tryz.f158.name, by decide, Tryz.func158.trans (congrArg some (by kernel_rfl))⟩
  f57 := ⟨Tryz.f168.name, by decide, Tryz.func168.trans (congrArg some (by kernel_rfl))⟩
  t0 := Tryz.underlying0
  a0 := Tryz.isAgg0
  z0 := Tryz.sizeOf0
  v0 := Tryz.zeroValue0
  t3 := Tryz.underlying3
  a3 := Tryz.isAgg3
  z3 := Tryz.sizeOf3
  v3 := Tryz.zeroValue3
  t4 := Tryz.underlying4
  a4 := Tryz.isAgg4
  z4 := Tryz.sizeOf4
  v4 := Tryz.zeroValue4
  t5 := Tryz.underlying5
  a5 := Tryz.isAgg5
  z5 := Tryz.sizeOf5
  v5 := Tryz.zeroValue5
  t9 := Tryz.underlying9
  a9 := Tryz.isAgg9
  z9 := Tryz.sizeOf9
  v9 := Tryz.zeroValue9
  t22 := Tryz.underlying98
  a22 := Tryz.isAgg98
  z22 := Tryz.sizeOf98
  v22 := Tryz.zeroValue98
  t25 := Tryz.underlying102
  a25 := Tryz.isAgg102
  z25 := Tryz.sizeOf102
  v25 := Tryz.zeroValue102
  t39 := Tryz.underlying105
  a39 := Tryz.isAgg105
  z39 := Tryz.sizeOf105
  v39 := Tryz.zeroValue105
  t45 := Tryz.underlying119
  a45 := Tryz.isAgg119
  z45 := Tryz.sizeOf119
  v45 := Tryz.zeroValue119
  t46 := Tryz.underlying120
  a46 := Tryz.isAgg120
  z46 := Tryz.sizeOf120
  v46 := Tryz.zeroValue120
  t50 := Tryz.underlying124
  a50 := Tryz.isAgg124
  z50 := Tryz.sizeOf124
  v50 := Tryz.zeroValue124
  t53 := Tryz.underlying127
  a53 := Tryz.isAgg127
  z53 := Tryz.sizeOf127
  v53 := Tryz.zeroValue127
  t55 := Tryz.underlying129
  a55 := Tryz.isAgg129
  z55 := Tryz.sizeOf129
  v55 := Tryz.zeroValue129
  t66 := Tryz.underlying150
  a66 := Tryz.isAgg150
  z66 := Tryz.sizeOf150
  v66 := Tryz.zeroValue150
  t70 := Tryz.underlying154
  a70 := Tryz.isAgg154
  z70 := Tryz.sizeOf154
  v70 := Tryz.zeroValue154
  t76 := Tryz.underlying168
  a76 := Tryz.isAgg168
  z76 := Tryz.sizeOf168
  v76 := Tryz.zeroValue168
  t77 := Tryz.underlying169
  a77 := Tryz.isAgg169
  z77 := Tryz.sizeOf169
  v77 := Tryz.zeroValue169 }
end Go.Proofs.YtnfccpkmaebbiaaGreatDoor
