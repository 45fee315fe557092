/- A part of the proofs: Cls, Hol, CmbP, Cat, Mrg, RSpl, SplJ, ShCp, Bnd, Mgl, Snc. No condition beside sizes and tables that read as laid. -/
import Derived.Test.YtngigmpaabmngaaGreatDoorMgAd
import Derived.Test.YtngigmpaabmngaaGreatDoorMgAc
import Derived.Test.YtngigmpaabmngaaGreatDoorMgAa
import Derived.Test.YtngigmpaabmngaaGreatDoorMgAb
import Derived.Shelf.Small.Bits
import Derived.Shelf.Small.Strs
import Derived.Shelf.Strconv.Itoa0
import Derived.Shelf.Sort.Plain
import Derived.Shelf.Bits.Mul64
import Derived.Ground.Names2Prog
import Derived.Shelf.Slices.Clone
import Derived.Shelf.Slices.CompactI
import Derived.Shelf.Slices.SearchI
import Derived.Shelf.Slices.Cells
import Derived.Shelf.Slices.In.SortNone
import Derived.Shelf.Slices.Empties
import Derived.Ground.SlgnProg
import Derived.Shelf.SlicesG.SearchI
import Derived.Shelf.SlicesE.Clone
import Derived.Test.YtngigmpaabmngaaGreatDoorProg
namespace Go.Proofs.YtngigmpaabmngaaGreatDoor
open Go.RowKit Go.Lib Go.Maps

def ab (a b : List Tup) : Bool → List Tup := fun i => cond i b a
def stL (a b : List Tup) (j : Nat) : Bool → List Tup := fun i => if j = 0 then [] else if j = 1 then cond i [] a else cond i b a
def inL (a b : List Tup) (j k : Nat) : Bool → List Tup := fun i => if j = 0 then cond i [] (a.take k) else cond i (b.take k) a
theorem inL_zero (a b : List Tup) {j : Nat} (hj : j < 2) : inL a b j 0 = stL a b j := by
  funext i
  rcases (by omega : j = 0 ∨ j = 1) with rfl | rfl <;> cases i <;> rfl
theorem inL_all (a b : List Tup) {j n : Nat} (hj : j < 2) (hn : (if j = 0 then a else b).length ≤ n) : inL a b j n = stL a b (j + 1) := by
  funext i
  rcases (by omega : j = 0 ∨ j = 1) with rfl | rfl
  · cases i
    · show a.take n = a
      exact List.take_of_length_le hn
    · rfl
  · cases i
    · rfl
    · show b.take n = b
      exact List.take_of_length_le hn
theorem inL_snoc (a b : List Tup) {j k : Nat} {x : Tup} (hj : j < 2) (hx : (if j = 0 then a else b)[k]? = some x) : inL a b j (k + 1) = addT (inL a b j k) (decide (j = 1)) x := by
  funext i
  rcases (by omega : j = 0 ∨ j = 1) with rfl | rfl
  · cases i
    · show a.take (k + 1) = a.take k ++ [x]
      exact take_get hx
    · rfl
  · cases i
    · rfl
    · show b.take (k + 1) = b.take k ++ [x]
      exact take_get hx
theorem stL_done (a b : List Tup) : stL a b 2 = ab a b := by
  funext i
  cases i <;> rfl
theorem clsF_none {C : List UInt8 → Option Cls} {s : List UInt8} (h : C s = none) : clsF C s = none := by unfold clsF; rw [h]; rfl
theorem clsF_some {C : List UInt8 → Option Cls} {s : List UInt8} {c : Cls} (h : C s = some c) : clsF C s = some (.pointer (some ⟨c.p, 0, none⟩)) := by unfold clsF; rw [h]; rfl
theorem clsF_new (C : List UInt8 → Option Cls) (k : List UInt8) (c : Cls) : clsF (fun s => if s = k then some c else C s) = fun y => if y = k then some (.pointer (some ⟨c.p, 0, none⟩)) else clsF C y := by
  funext y
  unfold clsF
  dsimp only
  split <;> rfl
theorem clsF_same {C : List UInt8 → Option Cls} {k : List UInt8} {c d : Cls} (h : C k = some c) (hp : d.p = c.p) : clsF (fun s => if s = k then some d else C s) = clsF C := by
  funext y
  unfold clsF
  dsimp only
  split
  · rename_i e
    subst e
    rw [h]
    show some (Value.pointer (some ⟨d.p, 0, none⟩)) = some (Value.pointer (some ⟨c.p, 0, none⟩))
    rw [hp]
  · rfl
theorem OwnSV.no_cells {w : World} {b n p : Nat} {f : List UInt8 → Option Value} {cs : Array Value} {t : TypeId} {z : Nat × Nat} (h : OwnSV w b n f) (hp : w.heap[p]? = some (.cells cs t z)) : b ≠ p := by
  rintro rfl
  obtain ⟨D, ⟨es, clock, h1, _⟩, _⟩ := h
  rw [h1] at hp
  cases hp
theorem sideL_len' (l : List Tup) (vs : List GVal) : (sideL l vs).length ≤ l.length := List.length_filter_le _ _
/-- What a region that stores one cell of the block p and pushes onto the row of o leaves as it was. -/
structure Reg (o : Option Nat) (p : Nat) (i : Nat) (w W : World) : Prop where
  kept : Kept (fun m => some m = o ∨ m = p) w W
  cell : W.cell? ⟨p, i, none⟩ = some (vAt W ⟨p, i, none⟩)
  frz : W.frozen? ⟨p, i, none⟩ = false
theorem Reg.refl {o : Option Nat} {p i : Nat} {w : World} {u : Value} (h : w.cell? ⟨p, i, none⟩ = some u) (hf : w.frozen? ⟨p, i, none⟩ = false) : Reg o p i w w := ⟨⟨Nat.le_refl _, fun _ _ _ => rfl⟩, vAt_of h, hf⟩
theorem reg_drew {o : Option Nat} {p i : Nat} {w W : World} (h : Reg o p i w W) : Reg o p i w W.drew := ⟨h.kept, h.cell, h.frz⟩
theorem reg_alloc {o : Option Nat} {p i : Nat} {w W : World} {x : Obj} (h : Reg o p i w W) : Reg o p i w (W.alloc x) :=
  ⟨⟨by rw [World.size_alloc]; exact Nat.le_trans h.kept.1 (Nat.le_succ _), fun k h1 h2 => (Below.heap_alloc W x k (Nat.lt_of_lt_of_le h1 h.kept.1)).trans (h.kept.2 k h1 h2)⟩, vAt_alloc h.cell, frozen_alloc h.cell h.frz⟩
theorem reg_push {P : Program} {α : Type} {E : El P α} {B g cap p i : Nat} {w W w' : World} {v : Value} {l : List α} (h : Reg v.ownBlock p i w W) (hn : v.ownBlock ≠ some p) (hp : Pushed E B W w' v l g cap) : Reg v.ownBlock p i w w' :=
  ⟨h.kept.trans (Kept.or hp.kept), vAt_of (hp.cell (fun e => hn e.symm) h.cell), (World.frozen?_of_block (hp.kept.2 p (World.block_lt_of_cell? W ⟨p, i, none⟩ h.cell) (fun e => hn e.symm))).trans h.frz⟩
theorem reg_set {o : Option Nat} {p i : Nat} {w W : World} {u : Value} (h : Reg o p i w W) : Reg o p i w (W.setCell ⟨p, i, none⟩ u) :=
  ⟨h.kept.trans (kept_set (.inr rfl)), vAt_set h.cell, by simp [h.frz]⟩
theorem ptr_zero (w : World) : (zeroValue 131).run Tryz.prog w = .ok (.pointer none) w := by kernel_rfl
theorem cls_look {w : World} {b n : Nat} {C : List UInt8 → Option Cls} (h : OwnSV w b n (clsF C)) {s : ByteArray} (hs : s.size ≤ maxLen) {c : Cls} (hc : C s.data.toList = some c) :
    (Instr.lookup 129 (.map (some b)) (.string s) false).run Tryz.prog w = .ok (.pointer (some ⟨c.p, 0, none⟩)) w := by
  rw [h.look Tryz.underlying129 (ptr_zero w) hs, clsF_some hc]
  rfl
theorem cls_look_none {w : World} {b n : Nat} {C : List UInt8 → Option Cls} (h : OwnSV w b n (clsF C)) {s : ByteArray} (hs : s.size ≤ maxLen) (hc : C s.data.toList = none) :
    (Instr.lookup 129 (.map (some b)) (.string s) false).run Tryz.prog w = .ok (.pointer none) w := by
  rw [h.look Tryz.underlying129 (ptr_zero w) hs, clsF_none hc]
  rfl
set_option maxHeartbeats 8000000 in
set_option maxRecDepth 100000 in
theorem classes_any (v u : Value) (a b : List Tup) (w : World) (hv : Tups w v a) (hu : Tups w u b) (ha : a.length ≤ 100000) (hb : b.length ≤ 100000) (hKa : ∀ x ∈ a, Keyable x.row) (hKb : ∀ x ∈ b, Keyable x.row) (hT : Pow w) :
    Calls Tryz.prog 99 #[v, u] w fun e w' => e = .returned (.map (some w.heap.size)) ∧ ∃ C, OwnSV w' w.heap.size 200000 (clsF C) ∧ ClsIn 134 w w' w.heap.size (ab a b) (ab a b) C ∧ Below w.heap.size w w' := by
  obtain ⟨a1, c1, rfl⟩ := hv.shape
  obtain ⟨a2, c2, rfl⟩ := hu.shape
  have hmm := @run_makeMap Tryz.prog
  have HM1 : Hid (OwnSV (w.alloc (.map #[] 0)) w.heap.size 0 (clsF fun _ => none)) := Lib.hid (OwnSV.made w)
  have hFA : ∀ j : Nat, j < 2 → ∃ a3 c3 n3 l3, (∀ W, (Instr.index 132 (.agg #[.slice a1 a.length c1, .slice a2 b.length c2]) (.int .i64 (j : Int))).run Tryz.prog W = .ok (.slice a3 n3 c3) W) ∧ Tups w (.slice a3 n3 c3) l3 ∧ l3.length = n3 ∧ n3 ≤ 100000 ∧ (∀ x ∈ l3, Keyable x.row) ∧ (∀ x ∈ l3, x ∈ ab a b (decide (j = 1))) ∧ l3 = if j = 0 then a else b := by
    intro j hj
    rcases (by omega : j = 0 ∨ j = 1) with rfl | rfl
    · exact ⟨a1, c1, a.length, a, fun W => by kernel_rfl, hv, rfl, ha, hKa, fun x hx => hx, rfl⟩
    · exact ⟨a2, c2, b.length, b, fun W => by kernel_rfl, hu, rfl, hb, hKb, fun x hx => hx, rfl⟩
  have HFA := Lib.hid hFA
  have HT := Lib.hid hT
  clear hv hu hKa hKb hT hFA
  go_enter Tryz.func99, Tryz.ntmps99
  go_wp2_with fail
  go_loopw [15] (fun i wr => ∃ (j : Nat) (C : List UInt8 → Option Cls), j ≤ 2 ∧ i = .int .i64 j ∧ OwnSV wr w.heap.size (100000 * j) (clsF C) ∧ Hid (ClsIn 134 w wr w.heap.size (ab a b) (stL a b j) C) ∧ Hid (Below w.heap.size w wr)) (fun i _ => 2 - (RowKit.intOf i).toNat)
  case atStart => exact ⟨0, _, Nat.zero_le _, rfl, HM1.out, Lib.hid (ClsIn.nil _ _ _ _ _), Lib.hid (below_alloc _ _)⟩
  case round =>
    obtain ⟨j, C, hj, rfl, hM, HC, HB⟩ := hrel
    obtain ⟨wo, rfl⟩ : ∃ wo : World, wo = wr := ⟨_, rfl⟩
    have hji0 : (0 : Int) ≤ (j : Int) := by omega
    by_cases hlt : j < 2
    · obtain ⟨a3, c3, n3, l3, hidx, hl3, hln, hn3, hk3, hs3, he3⟩ := HFA.out j hlt
      have hji : (j : Int) < 2 := by omega
      have HOJ : Hid (1 + j = cond (decide (j = 1)) 2 1) := Lib.hid (by rcases (by omega : j = 0 ∨ j = 1) with rfl | rfl <;> rfl)
      have HL3 := Lib.hid hl3
      have HLN := Lib.hid hln
      have HK3 := Lib.hid hk3
      have HS3 := Lib.hid hs3
      have HE3 := Lib.hid he3
      have HM := Lib.hid hM
      have HCi : Hid (ClsIn 134 w wo w.heap.size (ab a b) (inL a b j 0) C) := by rw [inL_zero a b hlt]; exact HC
      clear hl3 hln hk3 hs3 he3 hM
      go_wp2_with fail
      go_loopw [21] (fun i wr => ∃ (k : Nat) (C : List UInt8 → Option Cls), k ≤ n3 ∧ i = .int .i64 k ∧ OwnSV wr w.heap.size (100000 * j + k) (clsF C) ∧ Hid (ClsIn 134 w wr w.heap.size (ab a b) (inL a b j k) C) ∧ Hid (Below w.heap.size w wr)) (fun i _ => n3 - (RowKit.intOf i).toNat)
      case atStart => exact ⟨0, C, Nat.zero_le _, rfl, HM.out, HCi, HB⟩
      case round =>
        obtain ⟨k, D, hk, rfl, hMk, HD, HBk⟩ := hrel
        obtain ⟨wp, rfl⟩ : ∃ wp : World, wp = wr := ⟨_, rfl⟩
        by_cases hlt2 : k < n3
        · obtain ⟨x, hx⟩ := lget_some l3 k (by rw [HLN.out]; exact hlt2)
          have hky := HK3.out x (List.mem_of_getElem? hx)
          have hxs := HS3.out x (List.mem_of_getElem? hx)
          obtain ⟨bb, oo, x1, y1, x2, y2, rfl, hvv, hll, p0, p1, p2, p3⟩ := tups_at HL3.out hx
          have HIN : Hid (inL a b j (k + 1) = addT (inL a b j k) (decide (j = 1)) x) := Lib.hid (inL_snoc a b hlt (by rw [← HE3.out]; exact hx))
          replace p0 := cell_keep HBk.out p0
          replace p1 := cell_keep HBk.out p1
          replace p2 := cell_keep HBk.out p2
          replace p3 := cell_keep HBk.out p3
          have HVV := Lib.hid hvv
          have HLL := Lib.hid hll
          have HXS := Lib.hid hxs
          obtain ⟨xv, xlo, xhi, xl⟩ := x
          dsimp only at p0 p1 p2 p3 HVV HLL
          have hb1 := below_alloc wp (.cells #[.slice x1 xv.length y1, .int .i64 xlo, .int .i64 xhi, .slice x2 xl.length y2] 52)
          have HG1 := Lib.hid (World.alloc_heap_new wp (.cells #[.slice x1 xv.length y1, .int .i64 xlo, .int .i64 xhi, .slice x2 xl.length y2] 52))
          have HB1 := Lib.hid (below_keep HBk.out hb1)
          have HM1 := Lib.hid (hMk.below hb1)
          have HD1 := Lib.hid (HD.out.below hb1)
          have hmb := hMk.lt
          have hkv : ∀ z ∈ xv, In64 z.kind ∧ In64 z.n ∧ z.s.size ≤ maxLen := hky.vals
          have hkl : (keyL xv).length ≤ 140737488000000 := hky.key
          have HKEY : ∀ W, Below w.heap.size w W → Hid (Calls Tryz.prog 78 #[.slice x1 xv.length y1] W fun e w' => e = .returned (.string ⟨(keyL xv).toArray⟩) ∧ Below W.heap.size W w') := fun W hW => Lib.hid (key_any _ xv W (HVV.out.below hW) hkv (by omega) (HT.out.below hW))
          have HXN : Hid (xl.length ≤ 1000) := Lib.hid hky.nl
          obtain ⟨ks, hks⟩ : ∃ ks : ByteArray, ks = ⟨(keyL xv).toArray⟩ := ⟨_, rfl⟩
          have HKS : Hid (ks.size ≤ maxLen) := by show ks.size ≤ maxLen; rw [hks]; show (keyL _).toArray.size ≤ maxLen; rw [List.size_toArray]; unfold maxLen; omega
          have HKL : Hid (ks.data.toList = keyL xv) := by show _ = _; rw [hks]
          rw [← hks] at HKEY
          have HKM : Hid (100000 * j + k < maxLen) := by show 100000 * j + k < maxLen; unfold maxLen; omega
          have HKEY1 := HKEY _ HB1.out
          have HLP : Hid (∀ s c, D s = some c → c.p < wp.heap.size) := Lib.hid (fun s c h => HD.out.lt h)
          have HLT : Hid (∀ s c i k, D s = some c → (c.ss i).ownBlock = some k → k < wp.heap.size) := Lib.hid (fun s c i k h1 h2 => ((HD.out.own s c i h1).lt k h2).2)
          clear hx hky hxs hvv hll hMk HD hb1 hkv hkl hks HKEY
          go_wp2_with fail
          refine HKEY1.out.mono ?_
          rintro _ w3 ⟨rfl, hb3⟩
          have HG3 := Lib.hid (box_kept HG1.out hb3)
          have HB3 := Lib.hid (below_keep HB1.out hb3)
          have HM3 := Lib.hid (HM1.out.below hb3)
          have HD3 := Lib.hid (HD1.out.below hb3)
          clear hb3 HG1 HB1 HM1 HD1 HKEY1 p0 p1 p2 p3
          obtain ⟨⟨d0, d1, d2, d3⟩, _, _, _, _⟩ := box_four HG3.out
          cases hDk : D (keyL xv) with
          | none =>
            have hlook := cls_look_none HM3.out HKS.out (by rw [HKL.out]; exact hDk)
            have hb4 := below_alloc w3 (.cells #[.slice x1 xv.length y1, .slice none 0 0, .slice none 0 0] 134)
            have HM4 := Lib.hid (HM3.out.below hb4)
            have HD4 := Lib.hid (HD3.out.new hDk HVV.out HB3.out.size ⟨_, _, HXS.out, rfl⟩)
            have HG4 := Lib.hid (box_kept HG3.out hb4)
            have hwp3 : wp.heap.size < w3.heap.size := (Array.getElem?_eq_some_iff.1 HG3.out).1
            have HB4 := Lib.hid (below_keep HB3.out hb4)
            clear HM3 HD3 HG3 hb4
            go_upto_region 11 with (at_mapUpdate; refine wpList_putSV Tryz.underlying129 _ rfl _ _ _ rfl w.heap.size (100000 * j + k) (clsF D) rfl HM4.out HKM.out ks (.pointer (some ⟨w3.heap.size, 0, none⟩)) rfl rfl HKS.out ?_; intro w5 hM5 hg5)
            rw [HKL.out] at hM5
            have HM5 : Hid (OwnSV w5 w.heap.size (100000 * j + k + 1) (clsF fun s => if s = keyL xv then some ⟨w3.heap.size, .slice x1 xv.length y1, fun _ => .slice none 0 0, xv⟩ else D s)) := Lib.hid (by rw [clsF_new]; exact hM5)
            have HD5 := Lib.hid (HD4.out.grown HM4.out hg5)
            have HG5 : Hid (w5.heap[wp.heap.size]? = some (.cells #[.slice x1 xv.length y1, .int .i64 xlo, .int .i64 xhi, .slice x2 xl.length y2] 52 (0, 0))) := Lib.hid ((hg5.block wp.heap.size (Array.getElem?_eq_some_iff.1 HG4.out).1 (by simp; omega)).trans HG4.out)
            have HB5 : Hid (Below w.heap.size w w5) := Lib.hid (HB4.out.grown hg5 HB4.out.size (fun j hj => by cases hj; exact Nat.le_refl _))
            obtain ⟨D', hD'⟩ : ∃ D', D' = fun s => if s = keyL xv then some ⟨w3.heap.size, .slice x1 xv.length y1, fun _ => .slice none 0 0, xv⟩ else D s := ⟨_, rfl⟩
            rw [← hD'] at HM5 HD5
            obtain ⟨c, hDc, hnb, hpb⟩ : ∃ c, D' (keyL xv) = some c ∧ (c.ss (decide (j = 1))).ownBlock ≠ some wp.heap.size ∧ c.p = w3.heap.size := by
              rw [hD']
              dsimp only
              rw [if_pos rfl]
              exact ⟨_, rfl, (fun e => by cases e), rfl⟩
            have HNB := Lib.hid hnb
            have HPB : Hid (c.p ≠ wp.heap.size) := Lib.hid (by omega)
            have HDC := Lib.hid hDc
            clear hM5 hg5 HM4 HD4 HG4 HB4 hD' hDc hnb hpb hwp3 hlook d0 d1 d2 d3 hDk
            (try dsimp only [Act.put])
            have hkc := HD5.out.key _ _ HDC.out
            have hcv : c.vs = xv := (key_inj _ _).1 hkc
            have hblk := HD5.out.blk _ _ HDC.out
            have HPW : Hid (w.heap.size ≤ c.p) := Lib.hid hblk.1
            have hown := HD5.out.own _ _ (decide (j = 1)) HDC.out
            have HNC : Hid ((c.ss (decide (j = 1))).ownBlock ≠ some c.p) := Lib.hid (hown.not_block hblk.2 (show (134 : TypeId) ≠ 52 by decide))
            have HNM : Hid ((c.ss (decide (j = 1))).ownBlock ≠ some w.heap.size) := Lib.hid (HM5.out.no_row hown)
            have HBC : Hid (w.heap.size ≠ c.p) := Lib.hid (HM5.out.no_cells hblk.2)
            have hb3 := box_three (show w5.heap[c.p]? = some (.cells #[c.v, c.ss false, c.ss true] 134 (0, 0)) from hblk.2)
            have hce : w5.cell? ⟨c.p, 1 + j, none⟩ = some (c.ss (decide (j = 1))) := by
              rcases (by omega : j = 0 ∨ j = 1) with rfl | rfl
              · exact hb3.1.2.1
              · exact hb3.1.2.2
            have hfe : w5.frozen? ⟨c.p, 1 + j, none⟩ = false := by
              rcases (by omega : j = 0 ∨ j = 1) with rfl | rfl
              · exact hb3.2.2.1
              · exact hb3.2.2.2
            have hpl : c.p < w5.heap.size := HD5.out.lt HDC.out
            have HKK : Hid (∀ W, Kept (fun m => some m = (c.ss (decide (j = 1))).ownBlock ∨ m = c.p) w5 W → (Instr.lookup 129 (.map (some w.heap.size)) (.string ks) false).run Tryz.prog W = .ok (.pointer (some ⟨c.p, 0, none⟩)) W ∧ W.cell? ⟨wp.heap.size, 0, none⟩ = some (.slice x1 xv.length y1) ∧ W.cell? ⟨wp.heap.size, 1, none⟩ = some (.int .i64 xlo) ∧ W.cell? ⟨wp.heap.size, 2, none⟩ = some (.int .i64 xhi) ∧ W.cell? ⟨wp.heap.size, 3, none⟩ = some (.slice x2 xl.length y2)) := Lib.hid (fun W hW => by
              obtain ⟨⟨e0, e1, e2, e3⟩, _, _, _, _⟩ := box_four HG5.out
              have hbx : ¬ (some wp.heap.size = (c.ss (decide (j = 1))).ownBlock ∨ wp.heap.size = c.p) := fun e => e.elim (fun e => HNB.out e.symm) (fun e => HPB.out e.symm)
              exact ⟨cls_look (HM5.out.kept hW (fun e => e.elim (fun e => HNM.out e.symm) HBC.out)) HKS.out (by rw [HKL.out]; exact HDC.out), hW.cell hbx e0, hW.cell hbx e1, hW.cell hbx e2, hW.cell hbx e3⟩)
            have HD5d := Lib.hid (HD5.out.below (w' := w5.drew) (Below.refl _ _).drew)
            have hlen : (sideL (inL a b j k (decide (j = 1))) c.vs).length ≤ 100000 := Nat.le_trans (sideL_len' _ _) (by
              unfold inL
              rcases (by omega : j = 0 ∨ j = 1) with rfl | rfl
              · show (a.take k).length ≤ 100000
                rw [List.length_take]; omega
              · show (b.take k).length ≤ 100000
                rw [List.length_take]; omega)
            obtain ⟨ls, hls⟩ : ∃ ls, ls = sideL (inL a b j k (decide (j = 1))) c.vs := ⟨_, rfl⟩
            rw [← hls] at hown hlen
            obtain ⟨sa, sc, hss⟩ := hown.shape
            obtain ⟨n, hn⟩ : ∃ n, n = ls.length := ⟨_, rfl⟩
            rw [← hn] at hss
            have HSS := Lib.hid hss
            have HLS := Lib.hid hls
            have HNN := Lib.hid hn
            rw [hss] at hown HKK
            have HOS := Lib.hid hown
            have HCV := Lib.hid hcv
            have hnl : n ≤ 100000 := by omega
            have hnl1 : ls.length ≤ n := by omega
            have hz5 := HB5.out.size
            obtain ⟨f1, f3, f4, f5, f6⟩ := HKK.out w5 (Reg.refl hce hfe).kept
            have f2 := hce
            rw [hss] at f2
            have hbb : Reg (Value.slice sa n sc).ownBlock c.p (1 + j) w5 w5 := Reg.refl hce hfe
            have HNC2 : Hid ((Value.slice sa n sc).ownBlock ≠ some c.p) := by rw [← HSS.out]; exact HNC
            have f9 := cell_alloc (o := .cells #[.slice x1 xv.length y1, .int .i64 xlo, .int .i64 xhi, .slice x2 xl.length y2] 52) f2
            clear hkc hcv hblk hb3 hown hce hfe hls hn hss hlen
            refine wp_region_held_drew (S := (fun W => Reg (Value.slice sa n sc).ownBlock c.p (1 + j) w5 W ∧ (Instr.lookup 129 (.map (some w.heap.size)) (.string ks) false).run Tryz.prog W = .ok (.pointer (some ⟨c.p, 0, none⟩)) W ∧ W.cell? ⟨wp.heap.size, 0, none⟩ = some (.slice x1 xv.length y1) ∧ W.cell? ⟨wp.heap.size, 1, none⟩ = some (.int .i64 xlo) ∧ W.cell? ⟨wp.heap.size, 2, none⟩ = some (.int .i64 xhi) ∧ W.cell? ⟨wp.heap.size, 3, none⟩ = some (.slice x2 xl.length y2))) (by kernel_rfl) ?_ (fun hHeld => ?_)
            · (try dsimp only)
              (go_split_ands; refine (fun hR => ⟨hR, HKK.out _ hR.kept⟩) ?_; first | with_reducible assumption | with_reducible exact reg_drew (by assumption) | with_reducible exact reg_alloc (by assumption) | with_reducible exact reg_drew (reg_alloc (by assumption)) | with_reducible exact reg_alloc (reg_drew (by assumption)) | with_reducible exact reg_set (by assumption))
            refine take_y (i := 0) (d := some 38) (v := ?_) rfl rfl (by kernel_rfl) (by kernel_rfl) (by kernel_rfl) (fun _ _ _ h => h) (by assumption) ?_ ?_
            rotate_left
            · intro oi ho
              simp only [List.getElem?_toArray, List.getElem?_cons_zero, Option.some.injEq] at ho
              subst ho
              intro w hSw
              (try dsimp only at hSw)
              go_simp
              (try with_reducible rfl)
            (try simp only [Act.put, List.setIfInBounds_toArray, List.set_cons_zero, List.set_cons_succ])
            refine take_y (i := 1) (d := some 39) (v := ?_) rfl rfl (by kernel_rfl) (by kernel_rfl) (by kernel_rfl) (fun _ _ _ h => h) (by assumption) ?_ ?_
            rotate_left
            · intro oi ho
              simp only [List.getElem?_toArray, List.getElem?_cons_succ, List.getElem?_cons_zero, Option.some.injEq] at ho
              subst ho
              intro w hSw
              (try dsimp only at hSw)
              go_simp
              (try with_reducible rfl)
            (try simp only [Act.put, List.setIfInBounds_toArray, List.set_cons_zero, List.set_cons_succ])
            refine take_y (i := 2) (d := some 40) (v := ?_) rfl rfl (by kernel_rfl) (by kernel_rfl) (by kernel_rfl) (fun _ _ _ h => h) (by assumption) ?_ ?_
            rotate_left
            · intro oi ho
              simp only [List.getElem?_toArray, List.getElem?_cons_succ, List.getElem?_cons_zero, Option.some.injEq] at ho
              subst ho
              intro w hSw
              (try dsimp only at hSw)
              go_simp
              (try with_reducible rfl)
            (try simp only [Act.put, List.setIfInBounds_toArray, List.set_cons_zero, List.set_cons_succ])
            refine take_y (i := 3) (d := some 41) (v := ?_) rfl rfl (by kernel_rfl) (by kernel_rfl) (by kernel_rfl) (fun _ _ _ h => h) (by assumption) ?_ ?_
            rotate_left
            · intro oi ho
              simp only [List.getElem?_toArray, List.getElem?_cons_succ, List.getElem?_cons_zero, Option.some.injEq] at ho
              subst ho
              intro w hSw
              (try dsimp only at hSw)
              go_simp
              (try with_reducible rfl)
            (try simp only [Act.put, List.setIfInBounds_toArray, List.set_cons_zero, List.set_cons_succ])
            refine take_y (i := 4) (d := some 42) (v := ?_) rfl rfl (by kernel_rfl) (by kernel_rfl) (by kernel_rfl) (fun _ _ _ h => h) (by assumption) ?_ ?_
            rotate_left
            · intro oi ho
              simp only [List.getElem?_toArray, List.getElem?_cons_succ, List.getElem?_cons_zero, Option.some.injEq] at ho
              subst ho
              intro w hSw
              (try dsimp only at hSw)
              go_simp
              (try with_reducible rfl)
            (try simp only [Act.put, List.setIfInBounds_toArray, List.set_cons_zero, List.set_cons_succ])
            refine take_y (i := 5) (d := some 43) (v := ?_) rfl rfl (by kernel_rfl) (by kernel_rfl) (by kernel_rfl) (fun _ _ _ h => h) (by assumption) ?_ ?_
            rotate_left
            · intro oi ho
              simp only [List.getElem?_toArray, List.getElem?_cons_succ, List.getElem?_cons_zero, Option.some.injEq] at ho
              subst ho
              intro w hSw
              (try dsimp only at hSw)
              go_simp
              (try with_reducible rfl)
            (try simp only [Act.put, List.setIfInBounds_toArray, List.set_cons_zero, List.set_cons_succ])
            refine take_y (i := 6) (d := some 44) (v := ?_) rfl rfl (by kernel_rfl) (by kernel_rfl) (by kernel_rfl) (fun _ _ _ h => h) (by assumption) ?_ ?_
            rotate_left
            · intro oi ho
              simp only [List.getElem?_toArray, List.getElem?_cons_succ, List.getElem?_cons_zero, Option.some.injEq] at ho
              subst ho
              intro w hSw
              (try dsimp only at hSw)
              go_simp
              (try with_reducible rfl)
            (try simp only [Act.put, List.setIfInBounds_toArray, List.set_cons_zero, List.set_cons_succ])
            refine take_y (i := 7) (d := some 45) (v := ?_) rfl rfl (by kernel_rfl) (by kernel_rfl) (by kernel_rfl) (fun _ _ _ h => h) (by assumption) ?_ ?_
            rotate_left
            · intro oi ho
              simp only [List.getElem?_toArray, List.getElem?_cons_succ, List.getElem?_cons_zero, Option.some.injEq] at ho
              subst ho
              intro w hSw
              (try dsimp only at hSw)
              go_simp
              (try with_reducible rfl)
            (try simp only [Act.put, List.setIfInBounds_toArray, List.set_cons_zero, List.set_cons_succ])
            refine take_y (i := 8) (d := some 46) (v := ?_) rfl rfl (by kernel_rfl) (by kernel_rfl) (by kernel_rfl) (fun _ _ _ h => h) (by assumption) ?_ ?_
            rotate_left
            · intro oi ho
              simp only [List.getElem?_toArray, List.getElem?_cons_succ, List.getElem?_cons_zero, Option.some.injEq] at ho
              subst ho
              intro w hSw
              (try dsimp only at hSw)
              go_simp
              (try with_reducible rfl)
            (try simp only [Act.put, List.setIfInBounds_toArray, List.set_cons_zero, List.set_cons_succ])
            refine take_y (i := 9) (d := some 47) (v := ?_) rfl rfl (by kernel_rfl) (by kernel_rfl) (by kernel_rfl) (fun _ _ _ h => h) (by assumption) ?_ ?_
            rotate_left
            · intro oi ho
              simp only [List.getElem?_toArray, List.getElem?_cons_succ, List.getElem?_cons_zero, Option.some.injEq] at ho
              subst ho
              intro w hSw
              (try dsimp only at hSw)
              go_simp
              (try with_reducible rfl)
            (try simp only [Act.put, List.setIfInBounds_toArray, List.set_cons_zero, List.set_cons_succ])
            refine take_y (i := 10) (d := some 48) (v := ?_) rfl rfl (by kernel_rfl) (by kernel_rfl) (by kernel_rfl) (fun _ _ _ h => h) (by assumption) ?_ ?_
            rotate_left
            · intro oi ho
              simp only [List.getElem?_toArray, List.getElem?_cons_succ, List.getElem?_cons_zero, Option.some.injEq] at ho
              subst ho
              intro w hSw
              (try dsimp only at hSw)
              go_simp
              (try with_reducible rfl)
            (try simp only [Act.put, List.setIfInBounds_toArray, List.set_cons_zero, List.set_cons_succ])
            refine take_y (i := 12) (d := some 50) (v := ?_) rfl rfl (by kernel_rfl) (by kernel_rfl) (by kernel_rfl) (fun _ _ _ h => h) (by assumption) ?_ ?_
            rotate_left
            · intro oi ho
              simp only [List.getElem?_toArray, List.getElem?_cons_succ, List.getElem?_cons_zero, Option.some.injEq] at ho
              subst ho
              intro w hSw
              (try dsimp only at hSw)
              go_simp
              (try with_reducible rfl)
            (try simp only [Act.put, List.setIfInBounds_toArray, List.set_cons_zero, List.set_cons_succ])
            refine take_y (i := 15) (d := some 53) (v := ?_) rfl rfl (by kernel_rfl) (by kernel_rfl) (by kernel_rfl) (fun _ _ _ h => h) (by assumption) ?_ ?_
            rotate_left
            · intro oi ho
              simp only [List.getElem?_toArray, List.getElem?_cons_succ, List.getElem?_cons_zero, Option.some.injEq] at ho
              subst ho
              intro w hSw
              (try dsimp only at hSw)
              go_simp
              (try with_reducible rfl)
            (try simp only [Act.put, List.setIfInBounds_toArray, List.set_cons_zero, List.set_cons_succ])
            refine take_y (i := 16) (d := some 54) (v := ?_) rfl rfl (by kernel_rfl) (by kernel_rfl) (by kernel_rfl) (fun _ _ _ h => h) (by assumption) ?_ ?_
            rotate_left
            · intro oi ho
              simp only [List.getElem?_toArray, List.getElem?_cons_succ, List.getElem?_cons_zero, Option.some.injEq] at ho
              subst ho
              intro w hSw
              (try dsimp only at hSw)
              go_simp
              (try with_reducible rfl)
            (try simp only [Act.put, List.setIfInBounds_toArray, List.set_cons_zero, List.set_cons_succ])
            refine wpAnyH_ready (rs := [11, 13]) (by kernel_rfl) (by simp) ?_
            refine AllReadyH.cons rfl (fun K hK => ?_) (AllReadyH.cons rfl (fun K hK => ?_) AllReadyH.nil)
            · go_simp
              refine hK.out _ _ ?_ (fun hHeld => ?_)
              · (try dsimp only)
                (go_split_ands; refine (fun hR => ⟨hR, HKK.out _ hR.kept⟩) ?_; first | with_reducible assumption | with_reducible exact reg_drew (by assumption) | with_reducible exact reg_alloc (by assumption) | with_reducible exact reg_drew (reg_alloc (by assumption)) | with_reducible exact reg_alloc (reg_drew (by assumption)) | with_reducible exact reg_set (by assumption))
              clear hK K
              (try simp only [Act.put, List.setIfInBounds_toArray, List.set_cons_zero, List.set_cons_succ])
              refine wpAnyH_ready (rs := [13]) (by kernel_rfl) (by simp) ?_
              refine AllReadyH.cons rfl (fun K hK => ?_) AllReadyH.nil
              go_simp
              refine hK.out _ _ ?_ (fun hHeld => ?_)
              · (try dsimp only)
                (go_split_ands; refine (fun hR => ⟨hR, HKK.out _ hR.kept⟩) ?_; first | with_reducible assumption | with_reducible exact reg_drew (by assumption) | with_reducible exact reg_alloc (by assumption) | with_reducible exact reg_drew (reg_alloc (by assumption)) | with_reducible exact reg_alloc (reg_drew (by assumption)) | with_reducible exact reg_set (by assumption))
              clear hK K
              (try simp only [Act.put, List.setIfInBounds_toArray, List.set_cons_zero, List.set_cons_succ])
              refine wpAnyH_ready (rs := [14]) (by kernel_rfl) (by simp) ?_
              refine AllReadyH.cons rfl (fun K hK => ?_) AllReadyH.nil
              (refine step_push rfl (.tmp 49) (.tmp 51) 24 rfl (tupW w) Tryz.underlying24 w.heap.size (.slice sa n sc) ls rfl HOS.out.drew [⟨xv, xlo, xhi, xl⟩] #[.slice x1 xv.length y1, .int .i64 xlo, .int .i64 xhi, .slice x2 xl.length y2] (Els.one ⟨_, _, rfl, HVV.out, HLL.out⟩) 1 1 rfl rfl (by decide) (by unfold maxLen; omega) (by show _ * 64 ≤ _; omega) hz5 ?_; intro g cap w7 hP hPa; have f12 := reg_push (reg_drew hbb) HNC2.out hP; have f10 := f12.cell; have f11 := f12.frz)
              refine hK.out _ _ ?_ (fun hHeld => ?_)
              · (try dsimp only)
                (go_split_ands; refine (fun hR => ⟨hR, HKK.out _ hR.kept⟩) ?_; first | with_reducible assumption | with_reducible exact reg_drew (by assumption) | with_reducible exact reg_alloc (by assumption) | with_reducible exact reg_drew (reg_alloc (by assumption)) | with_reducible exact reg_alloc (reg_drew (by assumption)) | with_reducible exact reg_set (by assumption))
              clear hK K
              (try simp only [Act.put, List.setIfInBounds_toArray])
              refine take_y (i := 17) (d := some 55) (v := ?_) rfl rfl (by kernel_rfl) (by kernel_rfl) (by kernel_rfl) (fun _ _ _ h => h) (by assumption) ?_ ?_
              rotate_left
              · intro oi ho
                simp only [List.getElem?_toArray, List.getElem?_cons_succ, List.getElem?_cons_zero, Option.some.injEq] at ho
                subst ho
                intro w hSw
                (try dsimp only at hSw)
                go_simp
                (try with_reducible rfl)
              (try simp only [Act.put])
              refine wpAnyH_ready (rs := [18]) (by kernel_rfl) (by simp) ?_
              refine AllReadyH.cons rfl (fun K hK => ?_) AllReadyH.nil
              go_simp
              refine hK.out _ _ ?_ (fun hHeld => ?_)
              · (try dsimp only)
                (go_split_ands; refine (fun hR => ⟨hR, HKK.out _ hR.kept⟩) ?_; first | with_reducible assumption | with_reducible exact reg_drew (by assumption) | with_reducible exact reg_alloc (by assumption) | with_reducible exact reg_drew (reg_alloc (by assumption)) | with_reducible exact reg_alloc (reg_drew (by assumption)) | with_reducible exact reg_set (by assumption))
              clear hK K
              (try simp only [Act.put, List.setIfInBounds_toArray, List.set_cons_zero, List.set_cons_succ])
              refine wpAnyH_done (by kernel_rfl) ?_ _
              have HPU : Pushed (tupW w) w.heap.size w5.drew w7 (c.ss (decide (j = 1))) (sideL (inL a b j k (decide (j = 1))) c.vs ++ [⟨xv, xlo, xhi, xl⟩]) g cap := by rw [HSS.out, ← HLS.out]; exact hP
              have HDF : Hid (ClsIn 134 w (w7.setCell ⟨c.p, 1 + j, none⟩ (.slice (some ⟨g, 0, none⟩) (ls.length + 1) cap)) w.heap.size (ab a b) (inL a b j (k + 1)) (fun z => if z = keyL xv then some { c with ss := setS c.ss (decide (j = 1)) (.slice (some ⟨g, 0, none⟩) (ls.length + 1) cap) } else D' z)) := Lib.hid (by rw [HIN.out]; exact HD5d.out.push (show (134 : TypeId) ≠ 52 by decide) HDC.out (x := ⟨xv, xlo, xhi, xl⟩) HCV.out.symm HPU (by rw [← HLS.out]) HOJ.out)
              have HMF : Hid (OwnSV (w7.setCell ⟨c.p, 1 + j, none⟩ (.slice (some ⟨g, 0, none⟩) (ls.length + 1) cap)) w.heap.size (100000 * j + (k + 1)) (clsF fun z => if z = keyL xv then some { c with ss := setS c.ss (decide (j = 1)) (.slice (some ⟨g, 0, none⟩) (ls.length + 1) cap) } else D' z)) := Lib.hid (by
                rw [clsF_same (d := { c with ss := setS c.ss (decide (j = 1)) (.slice (some ⟨g, 0, none⟩) (ls.length + 1) cap) }) HDC.out rfl]
                exact (HM5.out.kept (show Kept (fun m => some m = (Value.slice sa n sc).ownBlock) w5 w7 from hP.kept) (fun e => HNM.out (by rw [HSS.out]; exact e.symm))).kept (kept_set (G := fun m => m = c.p) (q := ⟨c.p, 1 + j, none⟩) rfl) HBC.out)
              have HBF : Hid (Below w.heap.size w (w7.setCell ⟨c.p, 1 + j, none⟩ (.slice (some ⟨g, 0, none⟩) (ls.length + 1) cap))) := Lib.hid ((HB5.out.drew.trans hP.below).setCell HPW.out _)
              clear HPU hP hPa f12 f10 f11 hHeld hbb f1 f2 f3 f4 f5 f6 f9
              go_wp2_with fail
              go_roundw
              case rel => exact ⟨k + 1, _, by omega, by go_num, HMF.out, HDF, HBF⟩
              case measure => simp [RowKit.intOf]; omega
            · go_simp
              refine hK.out _ _ ?_ (fun hHeld => ?_)
              · (try dsimp only)
                (go_split_ands; refine (fun hR => ⟨hR, HKK.out _ hR.kept⟩) ?_; first | with_reducible assumption | with_reducible exact reg_drew (by assumption) | with_reducible exact reg_alloc (by assumption) | with_reducible exact reg_drew (reg_alloc (by assumption)) | with_reducible exact reg_alloc (reg_drew (by assumption)) | with_reducible exact reg_set (by assumption))
              clear hK K
              (try simp only [Act.put, List.setIfInBounds_toArray, List.set_cons_zero, List.set_cons_succ])
              refine wpAnyH_ready (rs := [11]) (by kernel_rfl) (by simp) ?_
              refine AllReadyH.cons rfl (fun K hK => ?_) AllReadyH.nil
              go_simp
              refine hK.out _ _ ?_ (fun hHeld => ?_)
              · (try dsimp only)
                (go_split_ands; refine (fun hR => ⟨hR, HKK.out _ hR.kept⟩) ?_; first | with_reducible assumption | with_reducible exact reg_drew (by assumption) | with_reducible exact reg_alloc (by assumption) | with_reducible exact reg_drew (reg_alloc (by assumption)) | with_reducible exact reg_alloc (reg_drew (by assumption)) | with_reducible exact reg_set (by assumption))
              clear hK K
              (try simp only [Act.put, List.setIfInBounds_toArray, List.set_cons_zero, List.set_cons_succ])
              refine wpAnyH_ready (rs := [14]) (by kernel_rfl) (by simp) ?_
              refine AllReadyH.cons rfl (fun K hK => ?_) AllReadyH.nil
              (refine step_push rfl (.tmp 49) (.tmp 51) 24 rfl (tupW w) Tryz.underlying24 w.heap.size (.slice sa n sc) ls rfl HOS.out.drew [⟨xv, xlo, xhi, xl⟩] #[.slice x1 xv.length y1, .int .i64 xlo, .int .i64 xhi, .slice x2 xl.length y2] (Els.one ⟨_, _, rfl, HVV.out, HLL.out⟩) 1 1 rfl rfl (by decide) (by unfold maxLen; omega) (by show _ * 64 ≤ _; omega) hz5 ?_; intro g cap w7 hP hPa; have f12 := reg_push (reg_drew hbb) HNC2.out hP; have f10 := f12.cell; have f11 := f12.frz)
              refine hK.out _ _ ?_ (fun hHeld => ?_)
              · (try dsimp only)
                (go_split_ands; refine (fun hR => ⟨hR, HKK.out _ hR.kept⟩) ?_; first | with_reducible assumption | with_reducible exact reg_drew (by assumption) | with_reducible exact reg_alloc (by assumption) | with_reducible exact reg_drew (reg_alloc (by assumption)) | with_reducible exact reg_alloc (reg_drew (by assumption)) | with_reducible exact reg_set (by assumption))
              clear hK K
              (try simp only [Act.put, List.setIfInBounds_toArray])
              refine take_y (i := 17) (d := some 55) (v := ?_) rfl rfl (by kernel_rfl) (by kernel_rfl) (by kernel_rfl) (fun _ _ _ h => h) (by assumption) ?_ ?_
              rotate_left
              · intro oi ho
                simp only [List.getElem?_toArray, List.getElem?_cons_succ, List.getElem?_cons_zero, Option.some.injEq] at ho
                subst ho
                intro w hSw
                (try dsimp only at hSw)
                go_simp
                (try with_reducible rfl)
              (try simp only [Act.put])
              refine wpAnyH_ready (rs := [18]) (by kernel_rfl) (by simp) ?_
              refine AllReadyH.cons rfl (fun K hK => ?_) AllReadyH.nil
              go_simp
              refine hK.out _ _ ?_ (fun hHeld => ?_)
              · (try dsimp only)
                (go_split_ands; refine (fun hR => ⟨hR, HKK.out _ hR.kept⟩) ?_; first | with_reducible assumption | with_reducible exact reg_drew (by assumption) | with_reducible exact reg_alloc (by assumption) | with_reducible exact reg_drew (reg_alloc (by assumption)) | with_reducible exact reg_alloc (reg_drew (by assumption)) | with_reducible exact reg_set (by assumption))
              clear hK K
              (try simp only [Act.put, List.setIfInBounds_toArray, List.set_cons_zero, List.set_cons_succ])
              refine wpAnyH_done (by kernel_rfl) ?_ _
              have HPU : Pushed (tupW w) w.heap.size w5.drew w7 (c.ss (decide (j = 1))) (sideL (inL a b j k (decide (j = 1))) c.vs ++ [⟨xv, xlo, xhi, xl⟩]) g cap := by rw [HSS.out, ← HLS.out]; exact hP
              have HDF : Hid (ClsIn 134 w (w7.setCell ⟨c.p, 1 + j, none⟩ (.slice (some ⟨g, 0, none⟩) (ls.length + 1) cap)) w.heap.size (ab a b) (inL a b j (k + 1)) (fun z => if z = keyL xv then some { c with ss := setS c.ss (decide (j = 1)) (.slice (some ⟨g, 0, none⟩) (ls.length + 1) cap) } else D' z)) := Lib.hid (by rw [HIN.out]; exact HD5d.out.push (show (134 : TypeId) ≠ 52 by decide) HDC.out (x := ⟨xv, xlo, xhi, xl⟩) HCV.out.symm HPU (by rw [← HLS.out]) HOJ.out)
              have HMF : Hid (OwnSV (w7.setCell ⟨c.p, 1 + j, none⟩ (.slice (some ⟨g, 0, none⟩) (ls.length + 1) cap)) w.heap.size (100000 * j + (k + 1)) (clsF fun z => if z = keyL xv then some { c with ss := setS c.ss (decide (j = 1)) (.slice (some ⟨g, 0, none⟩) (ls.length + 1) cap) } else D' z)) := Lib.hid (by
                rw [clsF_same (d := { c with ss := setS c.ss (decide (j = 1)) (.slice (some ⟨g, 0, none⟩) (ls.length + 1) cap) }) HDC.out rfl]
                exact (HM5.out.kept (show Kept (fun m => some m = (Value.slice sa n sc).ownBlock) w5 w7 from hP.kept) (fun e => HNM.out (by rw [HSS.out]; exact e.symm))).kept (kept_set (G := fun m => m = c.p) (q := ⟨c.p, 1 + j, none⟩) rfl) HBC.out)
              have HBF : Hid (Below w.heap.size w (w7.setCell ⟨c.p, 1 + j, none⟩ (.slice (some ⟨g, 0, none⟩) (ls.length + 1) cap))) := Lib.hid ((HB5.out.drew.trans hP.below).setCell HPW.out _)
              clear HPU hP hPa f12 f10 f11 hHeld hbb f1 f2 f3 f4 f5 f6 f9
              go_wp2_with fail
              go_roundw
              case rel => exact ⟨k + 1, _, by omega, by go_num, HMF.out, HDF, HBF⟩
              case measure => simp [RowKit.intOf]; omega
          | some c =>
            have hlook := cls_look HM3.out HKS.out (by rw [HKL.out]; exact hDk)
            go_upto_region 11 with fail
            obtain ⟨w5, rfl⟩ : ∃ w5 : World, w5 = w3 := ⟨_, rfl⟩
            obtain ⟨D', rfl⟩ : ∃ D', D' = D := ⟨_, rfl⟩
            have HM5 := Lib.hid (HM3.out.mono (show 100000 * j + k ≤ 100000 * j + k + 1 by omega))
            have HD5 := HD3
            have HG5 := HG3
            have HB5 := HB3
            have HNB : Hid ((c.ss (decide (j = 1))).ownBlock ≠ some wp.heap.size) := Lib.hid (fun e => by have := HLT.out _ _ _ _ hDk e; omega)
            have HDC := Lib.hid hDk
            have HPB : Hid (c.p ≠ wp.heap.size) := Lib.hid (fun e => by have := HLP.out _ _ hDk; omega)
            clear hlook d0 d1 d2 d3 hDk HM3 HD3 HG3 HB3
            have hkc := HD5.out.key _ _ HDC.out
            have hcv : c.vs = xv := (key_inj _ _).1 hkc
            have hblk := HD5.out.blk _ _ HDC.out
            have HPW : Hid (w.heap.size ≤ c.p) := Lib.hid hblk.1
            have hown := HD5.out.own _ _ (decide (j = 1)) HDC.out
            have HNC : Hid ((c.ss (decide (j = 1))).ownBlock ≠ some c.p) := Lib.hid (hown.not_block hblk.2 (show (134 : TypeId) ≠ 52 by decide))
            have HNM : Hid ((c.ss (decide (j = 1))).ownBlock ≠ some w.heap.size) := Lib.hid (HM5.out.no_row hown)
            have HBC : Hid (w.heap.size ≠ c.p) := Lib.hid (HM5.out.no_cells hblk.2)
            have hb3 := box_three (show w5.heap[c.p]? = some (.cells #[c.v, c.ss false, c.ss true] 134 (0, 0)) from hblk.2)
            have hce : w5.cell? ⟨c.p, 1 + j, none⟩ = some (c.ss (decide (j = 1))) := by
              rcases (by omega : j = 0 ∨ j = 1) with rfl | rfl
              · exact hb3.1.2.1
              · exact hb3.1.2.2
            have hfe : w5.frozen? ⟨c.p, 1 + j, none⟩ = false := by
              rcases (by omega : j = 0 ∨ j = 1) with rfl | rfl
              · exact hb3.2.2.1
              · exact hb3.2.2.2
            have hpl : c.p < w5.heap.size := HD5.out.lt HDC.out
            have HKK : Hid (∀ W, Kept (fun m => some m = (c.ss (decide (j = 1))).ownBlock ∨ m = c.p) w5 W → (Instr.lookup 129 (.map (some w.heap.size)) (.string ks) false).run Tryz.prog W = .ok (.pointer (some ⟨c.p, 0, none⟩)) W ∧ W.cell? ⟨wp.heap.size, 0, none⟩ = some (.slice x1 xv.length y1) ∧ W.cell? ⟨wp.heap.size, 1, none⟩ = some (.int .i64 xlo) ∧ W.cell? ⟨wp.heap.size, 2, none⟩ = some (.int .i64 xhi) ∧ W.cell? ⟨wp.heap.size, 3, none⟩ = some (.slice x2 xl.length y2)) := Lib.hid (fun W hW => by
              obtain ⟨⟨e0, e1, e2, e3⟩, _, _, _, _⟩ := box_four HG5.out
              have hbx : ¬ (some wp.heap.size = (c.ss (decide (j = 1))).ownBlock ∨ wp.heap.size = c.p) := fun e => e.elim (fun e => HNB.out e.symm) (fun e => HPB.out e.symm)
              exact ⟨cls_look (HM5.out.kept hW (fun e => e.elim (fun e => HNM.out e.symm) HBC.out)) HKS.out (by rw [HKL.out]; exact HDC.out), hW.cell hbx e0, hW.cell hbx e1, hW.cell hbx e2, hW.cell hbx e3⟩)
            have HD5d := Lib.hid (HD5.out.below (w' := w5.drew) (Below.refl _ _).drew)
            have hlen : (sideL (inL a b j k (decide (j = 1))) c.vs).length ≤ 100000 := Nat.le_trans (sideL_len' _ _) (by
              unfold inL
              rcases (by omega : j = 0 ∨ j = 1) with rfl | rfl
              · show (a.take k).length ≤ 100000
                rw [List.length_take]; omega
              · show (b.take k).length ≤ 100000
                rw [List.length_take]; omega)
            obtain ⟨ls, hls⟩ : ∃ ls, ls = sideL (inL a b j k (decide (j = 1))) c.vs := ⟨_, rfl⟩
            rw [← hls] at hown hlen
            obtain ⟨sa, sc, hss⟩ := hown.shape
            obtain ⟨n, hn⟩ : ∃ n, n = ls.length := ⟨_, rfl⟩
            rw [← hn] at hss
            have HSS := Lib.hid hss
            have HLS := Lib.hid hls
            have HNN := Lib.hid hn
            rw [hss] at hown HKK
            have HOS := Lib.hid hown
            have HCV := Lib.hid hcv
            have hnl : n ≤ 100000 := by omega
            have hnl1 : ls.length ≤ n := by omega
            have hz5 := HB5.out.size
            obtain ⟨f1, f3, f4, f5, f6⟩ := HKK.out w5 (Reg.refl hce hfe).kept
            have f2 := hce
            rw [hss] at f2
            have hbb : Reg (Value.slice sa n sc).ownBlock c.p (1 + j) w5 w5 := Reg.refl hce hfe
            have HNC2 : Hid ((Value.slice sa n sc).ownBlock ≠ some c.p) := by rw [← HSS.out]; exact HNC
            have f9 := cell_alloc (o := .cells #[.slice x1 xv.length y1, .int .i64 xlo, .int .i64 xhi, .slice x2 xl.length y2] 52) f2
            clear hkc hcv hblk hb3 hown hce hfe hls hn hss hlen
            refine wp_region_held_drew (S := (fun W => Reg (Value.slice sa n sc).ownBlock c.p (1 + j) w5 W ∧ (Instr.lookup 129 (.map (some w.heap.size)) (.string ks) false).run Tryz.prog W = .ok (.pointer (some ⟨c.p, 0, none⟩)) W ∧ W.cell? ⟨wp.heap.size, 0, none⟩ = some (.slice x1 xv.length y1) ∧ W.cell? ⟨wp.heap.size, 1, none⟩ = some (.int .i64 xlo) ∧ W.cell? ⟨wp.heap.size, 2, none⟩ = some (.int .i64 xhi) ∧ W.cell? ⟨wp.heap.size, 3, none⟩ = some (.slice x2 xl.length y2))) (by kernel_rfl) ?_ (fun hHeld => ?_)
            · (try dsimp only)
              (go_split_ands; refine (fun hR => ⟨hR, HKK.out _ hR.kept⟩) ?_; first | with_reducible assumption | with_reducible exact reg_drew (by assumption) | with_reducible exact reg_alloc (by assumption) | with_reducible exact reg_drew (reg_alloc (by assumption)) | with_reducible exact reg_alloc (reg_drew (by assumption)) | with_reducible exact reg_set (by assumption))
            refine take_y (i := 0) (d := some 38) (v := ?_) rfl rfl (by kernel_rfl) (by kernel_rfl) (by kernel_rfl) (fun _ _ _ h => h) (by assumption) ?_ ?_
            rotate_left
            · intro oi ho
              simp only [List.getElem?_toArray, List.getElem?_cons_zero, Option.some.injEq] at ho
              subst ho
              intro w hSw
              (try dsimp only at hSw)
              go_simp
              (try with_reducible rfl)
            (try simp only [Act.put, List.setIfInBounds_toArray, List.set_cons_zero, List.set_cons_succ])
            refine take_y (i := 1) (d := some 39) (v := ?_) rfl rfl (by kernel_rfl) (by kernel_rfl) (by kernel_rfl) (fun _ _ _ h => h) (by assumption) ?_ ?_
            rotate_left
            · intro oi ho
              simp only [List.getElem?_toArray, List.getElem?_cons_succ, List.getElem?_cons_zero, Option.some.injEq] at ho
              subst ho
              intro w hSw
              (try dsimp only at hSw)
              go_simp
              (try with_reducible rfl)
            (try simp only [Act.put, List.setIfInBounds_toArray, List.set_cons_zero, List.set_cons_succ])
            refine take_y (i := 2) (d := some 40) (v := ?_) rfl rfl (by kernel_rfl) (by kernel_rfl) (by kernel_rfl) (fun _ _ _ h => h) (by assumption) ?_ ?_
            rotate_left
            · intro oi ho
              simp only [List.getElem?_toArray, List.getElem?_cons_succ, List.getElem?_cons_zero, Option.some.injEq] at ho
              subst ho
              intro w hSw
              (try dsimp only at hSw)
              go_simp
              (try with_reducible rfl)
            (try simp only [Act.put, List.setIfInBounds_toArray, List.set_cons_zero, List.set_cons_succ])
            refine take_y (i := 3) (d := some 41) (v := ?_) rfl rfl (by kernel_rfl) (by kernel_rfl) (by kernel_rfl) (fun _ _ _ h => h) (by assumption) ?_ ?_
            rotate_left
            · intro oi ho
              simp only [List.getElem?_toArray, List.getElem?_cons_succ, List.getElem?_cons_zero, Option.some.injEq] at ho
              subst ho
              intro w hSw
              (try dsimp only at hSw)
              go_simp
              (try with_reducible rfl)
            (try simp only [Act.put, List.setIfInBounds_toArray, List.set_cons_zero, List.set_cons_succ])
            refine take_y (i := 4) (d := some 42) (v := ?_) rfl rfl (by kernel_rfl) (by kernel_rfl) (by kernel_rfl) (fun _ _ _ h => h) (by assumption) ?_ ?_
            rotate_left
            · intro oi ho
              simp only [List.getElem?_toArray, List.getElem?_cons_succ, List.getElem?_cons_zero, Option.some.injEq] at ho
              subst ho
              intro w hSw
              (try dsimp only at hSw)
              go_simp
              (try with_reducible rfl)
            (try simp only [Act.put, List.setIfInBounds_toArray, List.set_cons_zero, List.set_cons_succ])
            refine take_y (i := 5) (d := some 43) (v := ?_) rfl rfl (by kernel_rfl) (by kernel_rfl) (by kernel_rfl) (fun _ _ _ h => h) (by assumption) ?_ ?_
            rotate_left
            · intro oi ho
              simp only [List.getElem?_toArray, List.getElem?_cons_succ, List.getElem?_cons_zero, Option.some.injEq] at ho
              subst ho
              intro w hSw
              (try dsimp only at hSw)
              go_simp
              (try with_reducible rfl)
            (try simp only [Act.put, List.setIfInBounds_toArray, List.set_cons_zero, List.set_cons_succ])
            refine take_y (i := 6) (d := some 44) (v := ?_) rfl rfl (by kernel_rfl) (by kernel_rfl) (by kernel_rfl) (fun _ _ _ h => h) (by assumption) ?_ ?_
            rotate_left
            · intro oi ho
              simp only [List.getElem?_toArray, List.getElem?_cons_succ, List.getElem?_cons_zero, Option.some.injEq] at ho
              subst ho
              intro w hSw
              (try dsimp only at hSw)
              go_simp
              (try with_reducible rfl)
            (try simp only [Act.put, List.setIfInBounds_toArray, List.set_cons_zero, List.set_cons_succ])
            refine take_y (i := 7) (d := some 45) (v := ?_) rfl rfl (by kernel_rfl) (by kernel_rfl) (by kernel_rfl) (fun _ _ _ h => h) (by assumption) ?_ ?_
            rotate_left
            · intro oi ho
              simp only [List.getElem?_toArray, List.getElem?_cons_succ, List.getElem?_cons_zero, Option.some.injEq] at ho
              subst ho
              intro w hSw
              (try dsimp only at hSw)
              go_simp
              (try with_reducible rfl)
            (try simp only [Act.put, List.setIfInBounds_toArray, List.set_cons_zero, List.set_cons_succ])
            refine take_y (i := 8) (d := some 46) (v := ?_) rfl rfl (by kernel_rfl) (by kernel_rfl) (by kernel_rfl) (fun _ _ _ h => h) (by assumption) ?_ ?_
            rotate_left
            · intro oi ho
              simp only [List.getElem?_toArray, List.getElem?_cons_succ, List.getElem?_cons_zero, Option.some.injEq] at ho
              subst ho
              intro w hSw
              (try dsimp only at hSw)
              go_simp
              (try with_reducible rfl)
            (try simp only [Act.put, List.setIfInBounds_toArray, List.set_cons_zero, List.set_cons_succ])
            refine take_y (i := 9) (d := some 47) (v := ?_) rfl rfl (by kernel_rfl) (by kernel_rfl) (by kernel_rfl) (fun _ _ _ h => h) (by assumption) ?_ ?_
            rotate_left
            · intro oi ho
              simp only [List.getElem?_toArray, List.getElem?_cons_succ, List.getElem?_cons_zero, Option.some.injEq] at ho
              subst ho
              intro w hSw
              (try dsimp only at hSw)
              go_simp
              (try with_reducible rfl)
            (try simp only [Act.put, List.setIfInBounds_toArray, List.set_cons_zero, List.set_cons_succ])
            refine take_y (i := 10) (d := some 48) (v := ?_) rfl rfl (by kernel_rfl) (by kernel_rfl) (by kernel_rfl) (fun _ _ _ h => h) (by assumption) ?_ ?_
            rotate_left
            · intro oi ho
              simp only [List.getElem?_toArray, List.getElem?_cons_succ, List.getElem?_cons_zero, Option.some.injEq] at ho
              subst ho
              intro w hSw
              (try dsimp only at hSw)
              go_simp
              (try with_reducible rfl)
            (try simp only [Act.put, List.setIfInBounds_toArray, List.set_cons_zero, List.set_cons_succ])
            refine take_y (i := 12) (d := some 50) (v := ?_) rfl rfl (by kernel_rfl) (by kernel_rfl) (by kernel_rfl) (fun _ _ _ h => h) (by assumption) ?_ ?_
            rotate_left
            · intro oi ho
              simp only [List.getElem?_toArray, List.getElem?_cons_succ, List.getElem?_cons_zero, Option.some.injEq] at ho
              subst ho
              intro w hSw
              (try dsimp only at hSw)
              go_simp
              (try with_reducible rfl)
            (try simp only [Act.put, List.setIfInBounds_toArray, List.set_cons_zero, List.set_cons_succ])
            refine take_y (i := 15) (d := some 53) (v := ?_) rfl rfl (by kernel_rfl) (by kernel_rfl) (by kernel_rfl) (fun _ _ _ h => h) (by assumption) ?_ ?_
            rotate_left
            · intro oi ho
              simp only [List.getElem?_toArray, List.getElem?_cons_succ, List.getElem?_cons_zero, Option.some.injEq] at ho
              subst ho
              intro w hSw
              (try dsimp only at hSw)
              go_simp
              (try with_reducible rfl)
            (try simp only [Act.put, List.setIfInBounds_toArray, List.set_cons_zero, List.set_cons_succ])
            refine take_y (i := 16) (d := some 54) (v := ?_) rfl rfl (by kernel_rfl) (by kernel_rfl) (by kernel_rfl) (fun _ _ _ h => h) (by assumption) ?_ ?_
            rotate_left
            · intro oi ho
              simp only [List.getElem?_toArray, List.getElem?_cons_succ, List.getElem?_cons_zero, Option.some.injEq] at ho
              subst ho
              intro w hSw
              (try dsimp only at hSw)
              go_simp
              (try with_reducible rfl)
            (try simp only [Act.put, List.setIfInBounds_toArray, List.set_cons_zero, List.set_cons_succ])
            refine wpAnyH_ready (rs := [11, 13]) (by kernel_rfl) (by simp) ?_
            refine AllReadyH.cons rfl (fun K hK => ?_) (AllReadyH.cons rfl (fun K hK => ?_) AllReadyH.nil)
            · go_simp
              refine hK.out _ _ ?_ (fun hHeld => ?_)
              · (try dsimp only)
                (go_split_ands; refine (fun hR => ⟨hR, HKK.out _ hR.kept⟩) ?_; first | with_reducible assumption | with_reducible exact reg_drew (by assumption) | with_reducible exact reg_alloc (by assumption) | with_reducible exact reg_drew (reg_alloc (by assumption)) | with_reducible exact reg_alloc (reg_drew (by assumption)) | with_reducible exact reg_set (by assumption))
              clear hK K
              (try simp only [Act.put, List.setIfInBounds_toArray, List.set_cons_zero, List.set_cons_succ])
              refine wpAnyH_ready (rs := [13]) (by kernel_rfl) (by simp) ?_
              refine AllReadyH.cons rfl (fun K hK => ?_) AllReadyH.nil
              go_simp
              refine hK.out _ _ ?_ (fun hHeld => ?_)
              · (try dsimp only)
                (go_split_ands; refine (fun hR => ⟨hR, HKK.out _ hR.kept⟩) ?_; first | with_reducible assumption | with_reducible exact reg_drew (by assumption) | with_reducible exact reg_alloc (by assumption) | with_reducible exact reg_drew (reg_alloc (by assumption)) | with_reducible exact reg_alloc (reg_drew (by assumption)) | with_reducible exact reg_set (by assumption))
              clear hK K
              (try simp only [Act.put, List.setIfInBounds_toArray, List.set_cons_zero, List.set_cons_succ])
              refine wpAnyH_ready (rs := [14]) (by kernel_rfl) (by simp) ?_
              refine AllReadyH.cons rfl (fun K hK => ?_) AllReadyH.nil
              (refine step_push rfl (.tmp 49) (.tmp 51) 24 rfl (tupW w) Tryz.underlying24 w.heap.size (.slice sa n sc) ls rfl HOS.out.drew [⟨xv, xlo, xhi, xl⟩] #[.slice x1 xv.length y1, .int .i64 xlo, .int .i64 xhi, .slice x2 xl.length y2] (Els.one ⟨_, _, rfl, HVV.out, HLL.out⟩) 1 1 rfl rfl (by decide) (by unfold maxLen; omega) (by show _ * 64 ≤ _; omega) hz5 ?_; intro g cap w7 hP hPa; have f12 := reg_push (reg_drew hbb) HNC2.out hP; have f10 := f12.cell; have f11 := f12.frz)
              refine hK.out _ _ ?_ (fun hHeld => ?_)
              · (try dsimp only)
                (go_split_ands; refine (fun hR => ⟨hR, HKK.out _ hR.kept⟩) ?_; first | with_reducible assumption | with_reducible exact reg_drew (by assumption) | with_reducible exact reg_alloc (by assumption) | with_reducible exact reg_drew (reg_alloc (by assumption)) | with_reducible exact reg_alloc (reg_drew (by assumption)) | with_reducible exact reg_set (by assumption))
              clear hK K
              (try simp only [Act.put, List.setIfInBounds_toArray])
              refine take_y (i := 17) (d := some 55) (v := ?_) rfl rfl (by kernel_rfl) (by kernel_rfl) (by kernel_rfl) (fun _ _ _ h => h) (by assumption) ?_ ?_
              rotate_left
              · intro oi ho
                simp only [List.getElem?_toArray, List.getElem?_cons_succ, List.getElem?_cons_zero, Option.some.injEq] at ho
                subst ho
                intro w hSw
                (try dsimp only at hSw)
                go_simp
                (try with_reducible rfl)
              (try simp only [Act.put])
              refine wpAnyH_ready (rs := [18]) (by kernel_rfl) (by simp) ?_
              refine AllReadyH.cons rfl (fun K hK => ?_) AllReadyH.nil
              go_simp
              refine hK.out _ _ ?_ (fun hHeld => ?_)
              · (try dsimp only)
                (go_split_ands; refine (fun hR => ⟨hR, HKK.out _ hR.kept⟩) ?_; first | with_reducible assumption | with_reducible exact reg_drew (by assumption) | with_reducible exact reg_alloc (by assumption) | with_reducible exact reg_drew (reg_alloc (by assumption)) | with_reducible exact reg_alloc (reg_drew (by assumption)) | with_reducible exact reg_set (by assumption))
              clear hK K
              (try simp only [Act.put, List.setIfInBounds_toArray, List.set_cons_zero, List.set_cons_succ])
              refine wpAnyH_done (by kernel_rfl) ?_ _
              have HPU : Pushed (tupW w) w.heap.size w5.drew w7 (c.ss (decide (j = 1))) (sideL (inL a b j k (decide (j = 1))) c.vs ++ [⟨xv, xlo, xhi, xl⟩]) g cap := by rw [HSS.out, ← HLS.out]; exact hP
              have HDF : Hid (ClsIn 134 w (w7.setCell ⟨c.p, 1 + j, none⟩ (.slice (some ⟨g, 0, none⟩) (ls.length + 1) cap)) w.heap.size (ab a b) (inL a b j (k + 1)) (fun z => if z = keyL xv then some { c with ss := setS c.ss (decide (j = 1)) (.slice (some ⟨g, 0, none⟩) (ls.length + 1) cap) } else D' z)) := Lib.hid (by rw [HIN.out]; exact HD5d.out.push (show (134 : TypeId) ≠ 52 by decide) HDC.out (x := ⟨xv, xlo, xhi, xl⟩) HCV.out.symm HPU (by rw [← HLS.out]) HOJ.out)
              have HMF : Hid (OwnSV (w7.setCell ⟨c.p, 1 + j, none⟩ (.slice (some ⟨g, 0, none⟩) (ls.length + 1) cap)) w.heap.size (100000 * j + (k + 1)) (clsF fun z => if z = keyL xv then some { c with ss := setS c.ss (decide (j = 1)) (.slice (some ⟨g, 0, none⟩) (ls.length + 1) cap) } else D' z)) := Lib.hid (by
                rw [clsF_same (d := { c with ss := setS c.ss (decide (j = 1)) (.slice (some ⟨g, 0, none⟩) (ls.length + 1) cap) }) HDC.out rfl]
                exact (HM5.out.kept (show Kept (fun m => some m = (Value.slice sa n sc).ownBlock) w5 w7 from hP.kept) (fun e => HNM.out (by rw [HSS.out]; exact e.symm))).kept (kept_set (G := fun m => m = c.p) (q := ⟨c.p, 1 + j, none⟩) rfl) HBC.out)
              have HBF : Hid (Below w.heap.size w (w7.setCell ⟨c.p, 1 + j, none⟩ (.slice (some ⟨g, 0, none⟩) (ls.length + 1) cap))) := Lib.hid ((HB5.out.drew.trans hP.below).setCell HPW.out _)
              clear HPU hP hPa f12 f10 f11 hHeld hbb f1 f2 f3 f4 f5 f6 f9
              go_wp2_with fail
              go_roundw
              case rel => exact ⟨k + 1, _, by omega, by go_num, HMF.out, HDF, HBF⟩
              case measure => simp [RowKit.intOf]; omega
            · go_simp
              refine hK.out _ _ ?_ (fun hHeld => ?_)
              · (try dsimp only)
                (go_split_ands; refine (fun hR => ⟨hR, HKK.out _ hR.kept⟩) ?_; first | with_reducible assumption | with_reducible exact reg_drew (by assumption) | with_reducible exact reg_alloc (by assumption) | with_reducible exact reg_drew (reg_alloc (by assumption)) | with_reducible exact reg_alloc (reg_drew (by assumption)) | with_reducible exact reg_set (by assumption))
              clear hK K
              (try simp only [Act.put, List.setIfInBounds_toArray, List.set_cons_zero, List.set_cons_succ])
              refine wpAnyH_ready (rs := [11]) (by kernel_rfl) (by simp) ?_
              refine AllReadyH.cons rfl (fun K hK => ?_) AllReadyH.nil
              go_simp
              refine hK.out _ _ ?_ (fun hHeld => ?_)
              · (try dsimp only)
                (go_split_ands; refine (fun hR => ⟨hR, HKK.out _ hR.kept⟩) ?_; first | with_reducible assumption | with_reducible exact reg_drew (by assumption) | with_reducible exact reg_alloc (by assumption) | with_reducible exact reg_drew (reg_alloc (by assumption)) | with_reducible exact reg_alloc (reg_drew (by assumption)) | with_reducible exact reg_set (by assumption))
              clear hK K
              (try simp only [Act.put, List.setIfInBounds_toArray, List.set_cons_zero, List.set_cons_succ])
              refine wpAnyH_ready (rs := [14]) (by kernel_rfl) (by simp) ?_
              refine AllReadyH.cons rfl (fun K hK => ?_) AllReadyH.nil
              (refine step_push rfl (.tmp 49) (.tmp 51) 24 rfl (tupW w) Tryz.underlying24 w.heap.size (.slice sa n sc) ls rfl HOS.out.drew [⟨xv, xlo, xhi, xl⟩] #[.slice x1 xv.length y1, .int .i64 xlo, .int .i64 xhi, .slice x2 xl.length y2] (Els.one ⟨_, _, rfl, HVV.out, HLL.out⟩) 1 1 rfl rfl (by decide) (by unfold maxLen; omega) (by show _ * 64 ≤ _; omega) hz5 ?_; intro g cap w7 hP hPa; have f12 := reg_push (reg_drew hbb) HNC2.out hP; have f10 := f12.cell; have f11 := f12.frz)
              refine hK.out _ _ ?_ (fun hHeld => ?_)
              · (try dsimp only)
                (go_split_ands; refine (fun hR => ⟨hR, HKK.out _ hR.kept⟩) ?_; first | with_reducible assumption | with_reducible exact reg_drew (by assumption) | with_reducible exact reg_alloc (by assumption) | with_reducible exact reg_drew (reg_alloc (by assumption)) | with_reducible exact reg_alloc (reg_drew (by assumption)) | with_reducible exact reg_set (by assumption))
              clear hK K
              (try simp only [Act.put, List.setIfInBounds_toArray])
              refine take_y (i := 17) (d := some 55) (v := ?_) rfl rfl (by kernel_rfl) (by kernel_rfl) (by kernel_rfl) (fun _ _ _ h => h) (by assumption) ?_ ?_
              rotate_left
              · intro oi ho
                simp only [List.getElem?_toArray, List.getElem?_cons_succ, List.getElem?_cons_zero, Option.some.injEq] at ho
                subst ho
                intro w hSw
                (try dsimp only at hSw)
                go_simp
                (try with_reducible rfl)
              (try simp only [Act.put])
              refine wpAnyH_ready (rs := [18]) (by kernel_rfl) (by simp) ?_
              refine AllReadyH.cons rfl (fun K hK => ?_) AllReadyH.nil
              go_simp
              refine hK.out _ _ ?_ (fun hHeld => ?_)
              · (try dsimp only)
                (go_split_ands; refine (fun hR => ⟨hR, HKK.out _ hR.kept⟩) ?_; first | with_reducible assumption | with_reducible exact reg_drew (by assumption) | with_reducible exact reg_alloc (by assumption) | with_reducible exact reg_drew (reg_alloc (by assumption)) | with_reducible exact reg_alloc (reg_drew (by assumption)) | with_reducible exact reg_set (by assumption))
              clear hK K
              (try simp only [Act.put, List.setIfInBounds_toArray, List.set_cons_zero, List.set_cons_succ])
              refine wpAnyH_done (by kernel_rfl) ?_ _
              have HPU : Pushed (tupW w) w.heap.size w5.drew w7 (c.ss (decide (j = 1))) (sideL (inL a b j k (decide (j = 1))) c.vs ++ [⟨xv, xlo, xhi, xl⟩]) g cap := by rw [HSS.out, ← HLS.out]; exact hP
              have HDF : Hid (ClsIn 134 w (w7.setCell ⟨c.p, 1 + j, none⟩ (.slice (some ⟨g, 0, none⟩) (ls.length + 1) cap)) w.heap.size (ab a b) (inL a b j (k + 1)) (fun z => if z = keyL xv then some { c with ss := setS c.ss (decide (j = 1)) (.slice (some ⟨g, 0, none⟩) (ls.length + 1) cap) } else D' z)) := Lib.hid (by rw [HIN.out]; exact HD5d.out.push (show (134 : TypeId) ≠ 52 by decide) HDC.out (x := ⟨xv, xlo, xhi, xl⟩) HCV.out.symm HPU (by rw [← HLS.out]) HOJ.out)
              have HMF : Hid (OwnSV (w7.setCell ⟨c.p, 1 + j, none⟩ (.slice (some ⟨g, 0, none⟩) (ls.length + 1) cap)) w.heap.size (100000 * j + (k + 1)) (clsF fun z => if z = keyL xv then some { c with ss := setS c.ss (decide (j = 1)) (.slice (some ⟨g, 0, none⟩) (ls.length + 1) cap) } else D' z)) := Lib.hid (by
                rw [clsF_same (d := { c with ss := setS c.ss (decide (j = 1)) (.slice (some ⟨g, 0, none⟩) (ls.length + 1) cap) }) HDC.out rfl]
                exact (HM5.out.kept (show Kept (fun m => some m = (Value.slice sa n sc).ownBlock) w5 w7 from hP.kept) (fun e => HNM.out (by rw [HSS.out]; exact e.symm))).kept (kept_set (G := fun m => m = c.p) (q := ⟨c.p, 1 + j, none⟩) rfl) HBC.out)
              have HBF : Hid (Below w.heap.size w (w7.setCell ⟨c.p, 1 + j, none⟩ (.slice (some ⟨g, 0, none⟩) (ls.length + 1) cap))) := Lib.hid ((HB5.out.drew.trans hP.below).setCell HPW.out _)
              clear HPU hP hPa f12 f10 f11 hHeld hbb f1 f2 f3 f4 f5 f6 f9
              go_wp2_with fail
              go_roundw
              case rel => exact ⟨k + 1, _, by omega, by go_num, HMF.out, HDF, HBF⟩
              case measure => simp [RowKit.intOf]; omega
        · obtain rfl : k = n3 := by omega
          have HCe : Hid (ClsIn 134 w wp w.heap.size (ab a b) (stL a b (j + 1)) D) := by rw [← inL_all a b hlt (n := k) (by rw [← HE3.out, HLN.out]; exact Nat.le_refl _)]; exact HD
          have hMe := hMk.mono (show 100000 * j + k ≤ 100000 * (j + 1) by omega)
          clear hMk
          go_wp2_with fail
          go_roundw
          case rel => exact ⟨j + 1, D, by omega, by go_num, hMe, HCe, HBk⟩
          case measure => simp [RowKit.intOf]; omega
    · obtain rfl : j = 2 := by omega
      rw [stL_done] at HC
      go_wp2_with fail
      go_ret
      exact ⟨rfl, C, hM, HC.out, HB.out⟩
end Go.Proofs.YtngigmpaabmngaaGreatDoor

namespace Go.Proofs.YtngigmpaabmngaaGreatDoor
open Go.RowKit Go.Lib

def linD (l : List Tup) (t : Int) : List Int := (atDay l t).flatMap GRow.lin
theorem linD_snoc {l : List Tup} {k : Nat} {x : Tup} (hx : l[k]? = some x) (t : Int) : linD (l.take (k + 1)) t = linD (l.take k) t ++ if pincl x.lo x.hi t = true then x.lin else [] := by
  unfold linD
  rw [take_get hx, atDay_snoc, List.flatMap_append]
  congr 1
  split
  · simp
  · rfl
theorem cntD_snoc {l : List Tup} {k : Nat} {x : Tup} (hx : l[k]? = some x) (t : Int) : (atDay (l.take (k + 1)) t).length = (atDay (l.take k) t).length + if pincl x.lo x.hi t = true then 1 else 0 := by
  rw [take_get hx, atDay_snoc, List.length_append]
  congr 1
  split <;> rfl
theorem linD_len {l : List Tup} (hs : ∀ x ∈ l, x.lin.length ≤ 1000) (t : Int) : (linD l t).length ≤ l.length * 1000 := by
  unfold linD
  induction l with
  | nil => simp [atDay]
  | cons x l ih =>
    have h1 := ih fun y hy => hs y (List.mem_cons_of_mem _ hy)
    have h2 := hs x (List.mem_cons_self ..)
    rw [atDay_cons, List.length_cons]
    split
    · rw [List.flatMap_cons, List.length_append]
      exact Nat.le_trans (Nat.add_le_add (show x.row.lin.length ≤ 1000 from h2) h1) (by rw [Nat.add_mul, Nat.one_mul, Nat.add_comm]; exact Nat.le_refl _)
    · exact Nat.le_trans h1 (Nat.mul_le_mul_right _ (Nat.le_succ _))
set_option maxHeartbeats 4000000 in
set_option maxRecDepth 100000 in
theorem holding_any (v : Value) (l : List Tup) (t : Int) (w : World) (hv : Tups w v l) (hl : l.length ≤ 1000) (hs : ∀ x ∈ l, x.lin.length ≤ 1000) :
    Calls Tryz.prog 101 #[v, .int .i64 t] w fun e w' => ∃ v', e = .returned (.tuple #[.int .i64 ((atDay l t).length : Nat), v']) ∧ Own intE w' w.heap.size v' (linD l t) ∧ Below w.heap.size w w' := by
  obtain ⟨a, c, rfl⟩ := hv.shape
  have HV := Lib.hid hv
  have HS := Lib.hid hs
  obtain ⟨n, hn⟩ : ∃ n, n = l.length := ⟨_, rfl⟩
  have HN := Lib.hid hn
  rw [← hn] at HV hl ⊢
  clear hv hn hs
  go_enter Tryz.func101, Tryz.ntmps101
  go_wp2_with fail
  go_loopw [12, 6, 7] (fun i z o wr => ∃ k : Nat, k ≤ n ∧ i = .int .i64 k ∧ z = .int .i64 ((atDay (l.take k) t).length : Nat) ∧ Own intE wr w.heap.size o (linD (l.take k) t) ∧ Hid (Below w.heap.size w wr)) (fun i _ _ _ => n - (RowKit.intOf i).toNat)
  case atStart => exact ⟨0, Nat.zero_le _, rfl, rfl, Own.nil _ _ _, Lib.hid (.refl _ _)⟩
  case round =>
    obtain ⟨k, hk, rfl, rfl, hO, HB⟩ := hrel
    obtain ⟨wo, rfl⟩ : ∃ wo : World, wo = wr := ⟨_, rfl⟩
    by_cases hlt : k < n
    · obtain ⟨x, hx⟩ := lget_some l k (by rw [← HN.out]; exact hlt)
      obtain ⟨b, o, a1, n1, e1, m1, rfl, hvv, hll, p0, p1, p2, p3⟩ := tups_at HV.out hx
      replace p0 := cell_keep HB.out p0
      replace p1 := cell_keep HB.out p1
      replace p2 := cell_keep HB.out p2
      replace p3 := cell_keep HB.out p3
      have HT : Hid (linD (l.take (k + 1)) t = linD (l.take k) t ++ if pincl x.lo x.hi t = true then x.lin else []) := Lib.hid (linD_snoc hx t)
      have HC : Hid ((atDay (l.take (k + 1)) t).length = (atDay (l.take k) t).length + if pincl x.lo x.hi t = true then 1 else 0) := Lib.hid (cntD_snoc hx t)
      have hlk : (linD (l.take k) t).length ≤ 1000000 := Nat.le_trans (linD_len (fun y hy => HS.out y (List.mem_of_mem_take hy)) t) (Nat.le_trans (Nat.mul_le_mul_right 1000 (by rw [List.length_take]; omega : (l.take k).length ≤ 1000)) (by decide))
      have hck : (atDay (l.take k) t).length ≤ 1000 := Nat.le_trans (atDay_len _ _) (by rw [List.length_take]; omega)
      have hxl := HS.out x (List.mem_of_getElem? hx)
      obtain ⟨lk, hlke⟩ : ∃ lk, lk = linD (l.take k) t := ⟨_, rfl⟩
      obtain ⟨ck, hcke⟩ : ∃ ck, ck = (atDay (l.take k) t).length := ⟨_, rfl⟩
      rw [← hlke] at hO HT hlk
      rw [← hcke] at HC hck ⊢
      obtain ⟨ao, co, rfl⟩ := hO.shape
      obtain ⟨xv, xlo, xhi, xl⟩ := x
      dsimp only at p0 p1 p2 p3 hvv hll HT HC hxl
      obtain ⟨q, hq⟩ : ∃ q, q = pincl xlo xhi t := ⟨_, rfl⟩
      have HI := fun W => Lib.hid (incl_any xlo xhi t W)
      rw [← hq] at HT HI HC
      have HLL := Lib.hid hll
      have hg := World.alloc_heap_new wo (.cells #[.slice a1 xv.length n1, .int .i64 xlo, .int .i64 xhi, .slice e1 xl.length m1] 52)
      have HB1 : Hid (Below w.heap.size w (wo.alloc (.cells #[.slice a1 xv.length n1, .int .i64 xlo, .int .i64 xhi, .slice e1 xl.length m1] 52))) := Lib.hid (below_alloc_keep HB.out)
      have HO1 := Lib.hid (hO.below (below_alloc wo (.cells #[.slice a1 xv.length n1, .int .i64 xlo, .int .i64 xhi, .slice e1 xl.length m1] 52)))
      have HG := Lib.hid hg
      clear hx hvv hll hO hlke hq hg hcke
      go_wp2_with fail
      refine (HI _).out.mono ?_
      rintro _ w3 ⟨rfl, hb3⟩
      obtain ⟨⟨d0, d1, d2, d3⟩, _, _, _, _⟩ := box_four (box_kept HG.out hb3)
      have HB3 : Hid (Below w.heap.size w w3) := Lib.hid (below_keep HB1.out hb3)
      have HO3 := Lib.hid (HO1.out.below hb3)
      clear hb3 HG HB1 HO1 HI
      cases q
      · have HT' : Hid (linD (l.take (k + 1)) t = lk) := by show _ = _; rw [HT.out, if_neg (by decide), List.append_nil]
        have HC' : Hid ((atDay (l.take (k + 1)) t).length = ck) := by show _ = _; rw [HC.out, if_neg (by decide)]; rfl
        go_wp2_with fail
        go_roundw
        case rel => exact ⟨k + 1, by omega, by go_num, by rw [HC'.out], by rw [HT'.out]; exact HO3.out, HB3⟩
        case measure => simp [RowKit.intOf]; omega
      · have HT' : Hid (linD (l.take (k + 1)) t = lk ++ xl) := by show _ = _; rw [HT.out, if_pos rfl]
        have HC' : Hid ((atDay (l.take (k + 1)) t).length = ck + 1) := by show _ = _; rw [HC.out, if_pos rfl]
        have hcw : IntKind.i64.wrap ((ck : Int) + 1) = (ck : Int) + 1 := IntWalk.i64_in _ (by omega)
        have HIS : Hid (Sl intE w3 (fun j => some j = (Value.slice ao lk.length co).ownBlock) (.slice e1 xl.length m1) xl) := Lib.hid (((HLL.out.old (Nat.le_refl _)).below HB3.out).mono fun j _ hj => (HO3.out.lt j hj.symm).1)
        obtain ⟨nt, hnt⟩ : ∃ nt, lk.length + xl.length = nt := ⟨_, rfl⟩
        have HNT := Lib.hid hnt
        clear hnt
        go_wp2_with (at_builtin; refine wpList_join rfl (.tmp 22) (.tmp 24) 23 rfl intE Tryz.underlying23 w.heap.size (.slice ao lk.length co) (.slice e1 xl.length m1) lk xl rfl rfl HO3.out HIS.out (by unfold maxLen; omega) (by show _ * 8 ≤ _; omega) HB3.out.size nt HNT.out ?_; intro a5 c5 w5 hJ)
        have HO5 : Hid (Own intE w5 w.heap.size (.slice a5 nt c5) (lk ++ xl)) := Lib.hid hJ.own
        have HB5 := Lib.hid (HB3.out.trans hJ.below)
        clear hJ
        go_wp2_with fail
        go_roundw
        case rel => exact ⟨k + 1, by omega, by go_num, by rw [HC'.out]; first | rfl | go_num, by rw [HT'.out]; exact HO5.out, HB5⟩
        case measure => simp [RowKit.intOf]; omega
    · have hkk : l.take k = l := List.take_of_length_le (by rw [← HN.out]; omega)
      rw [hkk] at hO ⊢
      have HO := Lib.hid hO
      obtain ⟨ao, co, rfl⟩ := hO.shape
      clear hO hkk
      go_wp2_with fail
      go_ret2
      exact ⟨_, rfl, HO.out, HB.out⟩
end Go.Proofs.YtngigmpaabmngaaGreatDoor

namespace Go.Proofs.YtngigmpaabmngaaGreatDoor
open Go.RowKit

theorem segOut_snoc (g : Int → List GRow) : ∀ (l : List Int) (k : Nat) (p q : Int), l[k]? = some p → l[k + 1]? = some q → segOut g (l.take (k + 2)) = segOut g (l.take (k + 1)) ++ during (g p) p q
  | [], k, p, q, h1, _ => by simp at h1
  | [a], k, p, q, _, h2 => by simp at h2
  | a :: b :: l, 0, p, q, h1, h2 => by
    simp at h1 h2
    subst h1
    subst h2
    show during (g a) a b ++ segOut g [b] = segOut g [a] ++ during (g a) a b
    show during (g a) a b ++ [] = [] ++ during (g a) a b
    rw [List.append_nil, List.nil_append]
  | a :: b :: l, k + 1, p, q, h1, h2 => by
    have ih := segOut_snoc g (b :: l) k p q h1 h2
    show during (g a) a b ++ segOut g ((b :: l).take (k + 2)) = (during (g a) a b ++ segOut g ((b :: l).take (k + 1))) ++ during (g p) p q
    rw [List.append_assoc, ih]
theorem segOut_one (g : Int → List GRow) (l : List Int) : segOut g (l.take 1) = [] := by
  match l with
  | [] => rfl
  | _ :: _ => rfl
theorem during_length (rs : List GRow) (p q : Int) : (during rs p q).length = rs.length := List.length_map _
theorem segOut_length {g : Int → List GRow} {c : Nat} (hg : ∀ t, (g t).length ≤ c) : ∀ l, (segOut g l).length ≤ l.length * c
  | [] => by simp [segOut]
  | [_] => by simp [segOut]
  | p :: q :: l => by
    have h1 := segOut_length hg (q :: l)
    have h2 := hg p
    rw [segOut, List.length_append, during_length, List.length_cons, Nat.add_mul, Nat.one_mul]
    omega
theorem segOut_mem {g : Int → List GRow} : ∀ {l : List Int} {x : Tup}, x ∈ segOut g l → ∃ t, x.row ∈ g t
  | [], x, h => by simp [segOut] at h
  | [_], x, h => by simp [segOut] at h
  | p :: q :: l, x, h => by
    rw [segOut] at h
    rcases List.mem_append.1 h with h | h
    · obtain ⟨r, hr, rfl⟩ := List.mem_map.1 h
      exact ⟨p, hr⟩
    · exact segOut_mem h
/-- The tuples of one class. -/
def clsN (a b : List Tup) (vs : List GVal) : Nat := (sideL a vs).length + (sideL b vs).length
theorem clsG_length {f : Nat → Nat → Nat} (hf : ∀ m n, f m n ≤ m + n) (a b : List Tup) (vs : List GVal) (t : Int) : (clsG f vs (atDay (sideL a vs) t) (atDay (sideL b vs) t)).length ≤ clsN a b vs := by
  unfold clsG clsN
  rw [List.length_replicate]
  exact Nat.le_trans (hf _ _) (Nat.add_le_add (atDay_len _ _) (atDay_len _ _))
theorem clsOut_length {f : Nat → Nat → Nat} (hf : ∀ m n, f m n ≤ m + n) (a b : List Tup) (vs : List GVal) : (clsOut f a b vs).length ≤ (clsN a b vs * 2) * clsN a b vs := by
  refine Nat.le_trans (segOut_length (clsG_length hf a b vs) _) (Nat.mul_le_mul_right _ ?_)
  refine Nat.le_trans (refBnd_length _) ?_
  rw [List.length_append]
  exact Nat.le_refl _
theorem sideL_len (l : List Tup) (vs : List GVal) : (sideL l vs).length ≤ l.length := List.length_filter_le _ _
theorem sideL_sub {l : List Tup} {vs : List GVal} {x : Tup} (h : x ∈ sideL l vs) : x ∈ l := (List.mem_filter.1 h).1
theorem linD_lenq {l : List Tup} {q : Nat} (hs : ∀ x ∈ l, x.lin.length ≤ q) (t : Int) : (linD l t).length ≤ l.length * q := by
  unfold linD
  induction l with
  | nil => simp [atDay]
  | cons x l ih =>
    have h1 := ih fun y hy => hs y (List.mem_cons_of_mem _ hy)
    have h2 := hs x (List.mem_cons_self ..)
    rw [atDay_cons, List.length_cons]
    split
    · rw [List.flatMap_cons, List.length_append]
      exact Nat.le_trans (Nat.add_le_add (show x.row.lin.length ≤ q from h2) h1) (by rw [Nat.add_mul, Nat.one_mul, Nat.add_comm]; exact Nat.le_refl _)
    · exact Nat.le_trans h1 (Nat.mul_le_mul_right _ (Nat.le_succ _))
theorem linD_in {l : List Tup} {t i : Int} (h : i ∈ linD l t) : ∃ x ∈ l, i ∈ x.lin := by
  obtain ⟨r, hr, hi⟩ := List.mem_flatMap.1 h
  obtain ⟨x, hx, rfl, _⟩ := mem_atDay.1 hr
  exact ⟨x, hx, hi⟩
/-- What the classes that are done have given. L: those that are not. -/
structure CmbI (f : Nat → Nat → Nat) (a b : List Tup) (L : List UInt8 → Bool) (out : List Tup) : Prop where
  sop : SopI f a b L out
  key : ∀ x ∈ out, Keyable x.row
  len : out.length ≤ ((a.length + b.length) * 2) * (a ++ b).countP fun x => !L (keyL x.vals)
theorem CmbI.start {f : Nat → Nat → Nat} (hf : f 0 0 = 0) {a b : List Tup} {L : List UInt8 → Bool} (ha : ∀ x ∈ a, L (keyL x.vals) = true) (hb : ∀ x ∈ b, L (keyL x.vals) = true) : CmbI f a b L [] :=
  ⟨SopI.start hf ha hb, by simp, Nat.zero_le _⟩
theorem count_key (L : List UInt8 → Bool) (k : List UInt8) (hL : L k = true) (l : List Tup) : (l.countP fun x => !(L (keyL x.vals) && !(keyL x.vals == k))) = (l.countP fun x => !L (keyL x.vals)) + l.countP fun x => keyL x.vals == k := by
  induction l with
  | nil => rfl
  | cons x l ih =>
    rw [List.countP_cons, List.countP_cons, List.countP_cons, ih]
    by_cases h : keyL x.vals = k
    · have hb : (keyL x.vals == k) = true := by simpa using h
      have hl : L (keyL x.vals) = true := by rw [h]; exact hL
      rw [hb, hl]
      simp
      omega
    · have hb : (keyL x.vals == k) = false := by simpa using h
      rw [hb]
      cases hl : L (keyL x.vals) <;> simp <;> omega
theorem side_count (l : List Tup) (vs : List GVal) : (l.countP fun x => keyL x.vals == keyL vs) = (sideL l vs).length := by
  unfold sideL
  rw [← List.countP_eq_length_filter]
  refine List.countP_congr fun x _ => ?_
  rw [beq_iff_eq, decide_eq_true_eq, key_inj, cmpRows_zero]
theorem CmbI.step {f : Nat → Nat → Nat} (hf : f 0 0 = 0) (hfm : ∀ m n, f m n ≤ m + n) {a b out : List Tup} {L : List UInt8 → Bool} {vs : List GVal} {q : Nat} (h : CmbI f a b L out) (hL : L (keyL vs) = true)
    (hK : ∀ x ∈ a ++ b, Keyable x.row) (hq : ∀ x ∈ a ++ b, x.lin.length ≤ q) (hN : (a.length + b.length) * q ≤ 1000) (hs : ∃ x ∈ a ++ b, x.vals = vs) :
    CmbI f a b (fun z => L z && !(z == keyL vs)) (out ++ clsOut f a b vs) := by
  have hn : clsN a b vs ≤ a.length + b.length := Nat.add_le_add (sideL_len _ _) (sideL_len _ _)
  refine ⟨h.sop.step hf hL, fun x hx => ?_, ?_⟩
  · rcases List.mem_append.1 hx with hx | hx
    · exact h.key x hx
    · obtain ⟨t, ht⟩ := segOut_mem hx
      have e := (List.mem_replicate.1 ht).2
      obtain ⟨y, hy, hyv⟩ := hs
      have hky := hK y hy
      rw [e]
      have hm : ∀ i, i ∈ mergeL ((atDay (sideL a vs) t).flatMap GRow.lin) ((atDay (sideL b vs) t).flatMap GRow.lin) → ∃ x ∈ a ++ b, i ∈ x.lin := fun i hi => by
        rcases (mergeL_mem _ _ _).1 hi with hi | hi
        · obtain ⟨x, hx, h1⟩ := linD_in hi
          exact ⟨x, List.mem_append.2 (.inl (sideL_sub hx)), h1⟩
        · obtain ⟨x, hx, h1⟩ := linD_in hi
          exact ⟨x, List.mem_append.2 (.inr (sideL_sub hx)), h1⟩
      refine ⟨?_, fun i hi => ?_, ?_, ?_, ?_⟩
      · dsimp only; rw [← hyv]; exact hky.vals
      · obtain ⟨x, hx, h1⟩ := hm i hi
        exact (hK x hx).lin i h1
      · dsimp only; rw [← hyv]; exact hky.nv
      · have h1 := linD_lenq (l := sideL a vs) (q := q) (fun x hx => hq x (List.mem_append.2 (.inl (sideL_sub hx)))) t
        have h2 := linD_lenq (l := sideL b vs) (q := q) (fun x hx => hq x (List.mem_append.2 (.inr (sideL_sub hx)))) t
        have h3 := Nat.mul_le_mul_right q (sideL_len a vs)
        have h4 := Nat.mul_le_mul_right q (sideL_len b vs)
        have h5 := mergeL_length (linD (sideL a vs) t) (linD (sideL b vs) t)
        rw [Nat.add_mul] at hN
        show (mergeL (linD (sideL a vs) t) (linD (sideL b vs) t)).length ≤ 1000
        omega
      · dsimp only; rw [← hyv]; exact hky.key
  · have h1 := clsOut_length hfm a b vs
    have h2 : (a ++ b).countP (fun x => keyL x.vals == keyL vs) = clsN a b vs := by rw [side_count]; unfold clsN sideL; rw [List.filter_append, List.length_append]
    have h3 := count_key L (keyL vs) hL (a ++ b)
    rw [h2] at h3
    have h4 : clsN a b vs * 2 * clsN a b vs ≤ ((a.length + b.length) * 2) * clsN a b vs := Nat.mul_le_mul_right _ (Nat.mul_le_mul_right _ hn)
    have h5 := h.len
    rw [List.length_append]
    refine Nat.le_trans (Nat.add_le_add h5 (Nat.le_trans h1 h4)) ?_
    rw [← Nat.mul_add, ← h3]
    exact Nat.le_refl _
theorem CmbI.size {f : Nat → Nat → Nat} {a b out : List Tup} {L : List UInt8 → Bool} (h : CmbI f a b L out) : out.length ≤ ((a.length + b.length) * 2) * (a.length + b.length) :=
  Nat.le_trans h.len (Nat.mul_le_mul_left _ (Nat.le_trans List.countP_le_length (by rw [List.length_append]; exact Nat.le_refl _)))
/-- Between the k-th point and the next. -/
def segPre (f : Nat → Nat → Nat) (a b : List Tup) (vs : List GVal) (k : Nat) : List Tup := segOut (fun s => clsG f vs (atDay (sideL a vs) s) (atDay (sideL b vs) s)) ((bnds (sideL a vs ++ sideL b vs)).take (k + 1))
theorem segPre_zero (f : Nat → Nat → Nat) (a b : List Tup) (vs : List GVal) : segPre f a b vs 0 = [] := segOut_one _ _
theorem segPre_snoc (f : Nat → Nat → Nat) (a b : List Tup) (vs : List GVal) {k : Nat} {p q : Int} (h1 : (bnds (sideL a vs ++ sideL b vs))[k]? = some p) (h2 : (bnds (sideL a vs ++ sideL b vs))[k + 1]? = some q) :
    segPre f a b vs (k + 1) = segPre f a b vs k ++ during (clsG f vs (atDay (sideL a vs) p) (atDay (sideL b vs) p)) p q := segOut_snoc _ _ k p q h1 h2
theorem segPre_all (f : Nat → Nat → Nat) (a b : List Tup) (vs : List GVal) {k : Nat} (h : (bnds (sideL a vs ++ sideL b vs)).length ≤ k + 1) : segPre f a b vs k = clsOut f a b vs := by
  unfold segPre clsOut
  rw [List.take_of_length_le h, bnds_ref]
theorem segPre_length {f : Nat → Nat → Nat} (hf : ∀ m n, f m n ≤ m + n) (a b : List Tup) (vs : List GVal) (k : Nat) : (segPre f a b vs k).length ≤ ((a.length + b.length) * 2) * (a.length + b.length) := by
  have hn : clsN a b vs ≤ a.length + b.length := Nat.add_le_add (sideL_len _ _) (sideL_len _ _)
  refine Nat.le_trans (segOut_length (clsG_length hf a b vs) _) (Nat.mul_le_mul ?_ hn)
  rw [List.length_take]
  refine Nat.le_trans (Nat.min_le_right _ _) (Nat.le_trans (bnds_length _) (Nat.mul_le_mul_right _ ?_))
  rw [List.length_append]
  exact hn
theorem during_snoc (r : GRow) (p q : Int) (t : Nat) : during (List.replicate (t + 1) r) p q = during (List.replicate t r) p q ++ [⟨r.vals, p, q, r.lin⟩] := by
  rw [List.replicate_succ']
  unfold during
  rw [List.map_append]
  rfl
theorem flat_filter (p : GRow → Bool) (l : List GRow) : ((l.filter p).flatMap GRow.lin).length ≤ (l.flatMap GRow.lin).length := by
  induction l with
  | nil => simp
  | cons x l ih =>
    rw [List.filter_cons, List.flatMap_cons, List.length_append]
    split
    · rw [List.flatMap_cons, List.length_append]; omega
    · omega
/-- The rows of a set operation have keys. -/
theorem NFS.keyable {f : Nat → Nat → Nat} (hf : ∀ n, f 0 n = 0) {a b T : List Tup} {q : Nat} (h : NFS f a b T) (hK : ∀ x ∈ a ++ b, Keyable x.row) (hq : ∀ x ∈ a ++ b, x.lin.length ≤ q) (hN : (a.length + b.length) * q ≤ 1000) : ∀ x ∈ T, Keyable x.row := by
  intro x hx
  have hv : pvalid x.lo x.hi = true := by
    obtain ⟨o, h1, h2⟩ := h
    exact h2.lev.valid x hx
  have hv' := pvalid_iff.1 hv
  have hr : x.row ∈ atDay T x.lo := mem_atDay.2 ⟨x, hx, rfl, pincl_iff.2 ⟨hv, Int.le_refl _, hv'.2.1⟩⟩
  obtain ⟨h1, h2⟩ := h.lin hr
  have h3 : 0 < multL (atDay a x.lo) x.row.vals := by
    rcases Nat.eq_zero_or_pos (multL (atDay a x.lo) x.row.vals) with h0 | h0
    · rw [h0, hf] at h2; omega
    · exact h0
  obtain ⟨r, hr2, hrv⟩ := multL_mem h3
  obtain ⟨y, hy, rfl, _⟩ := mem_atDay.1 hr2
  have hky := hK y (List.mem_append.2 (.inl hy))
  have hsub : ∀ (l : List Tup) i, i ∈ linsL (atDay l x.lo) x.row.vals → i ∈ linD l x.lo := fun l i hi => by
    obtain ⟨z, hz, hi⟩ := List.mem_flatMap.1 hi
    exact List.mem_flatMap.2 ⟨z, (List.mem_filter.1 hz).1, hi⟩
  have hlen : ∀ l : List Tup, (linsL (atDay l x.lo) x.row.vals).length ≤ (linD l x.lo).length := fun l => by
    exact flat_filter _ _
  have h4 := linD_lenq (l := a) (q := q) (fun x hx => hq x (List.mem_append.2 (.inl hx))) x.lo
  have h5 := linD_lenq (l := b) (q := q) (fun x hx => hq x (List.mem_append.2 (.inr hx))) x.lo
  have h6 := mergeL_length (linsL (atDay a x.lo) x.row.vals) (linsL (atDay b x.lo) x.row.vals)
  rw [Nat.add_mul] at hN
  refine ⟨?_, fun i hi => ?_, ?_, ?_, ?_⟩
  · rw [← hrv]; exact hky.vals
  · rw [h1] at hi
    rcases (mergeL_mem _ _ _).1 hi with hi | hi
    · obtain ⟨z, hz, h7⟩ := linD_in (hsub a i hi)
      exact (hK z (List.mem_append.2 (.inl hz))).lin i h7
    · obtain ⟨z, hz, h7⟩ := linD_in (hsub b i hi)
      exact (hK z (List.mem_append.2 (.inr hz))).lin i h7
  · rw [← hrv]; exact hky.nv
  · rw [h1]
    have := hlen a
    have := hlen b
    omega
  · rw [← hrv]; exact hky.key
end Go.Proofs.YtngigmpaabmngaaGreatDoor

namespace Go.Proofs.YtngigmpaabmngaaGreatDoor
open Go.RowKit Go.Lib

theorem Own.take {P : Program} {α : Type} {E : El P α} {w : World} {B n c k : Nat} {a : Option Addr} {l : List α} (h : Own E w B (.slice a n c) l) (hk : k ≤ n) : Own E w B (.slice a k c) (l.take k) := by
  obtain ⟨xs, h1, h2⟩ := h
  have hn : n = l.length := by
    obtain ⟨a', c', e⟩ := own_shape h1
    exact (Value.slice.inj e).2.1
  subst hn
  have hxl : xs.length = l.length * E.size := h1.1
  have hm : k * E.size ≤ l.length * E.size := Nat.mul_le_mul_right _ hk
  have ho : (Value.slice a l.length c).ownBlock = (Value.slice a k c).ownBlock := by cases a <;> rfl
  rw [ho] at h2
  refine ⟨xs.take (k * E.size), ⟨?_, ?_⟩, fun i x hi => ?_⟩
  · show (xs.take _).length = (l.take k).length * E.size
    rw [List.length_take, List.length_take, Nat.min_eq_left hk, hxl, Nat.min_eq_left hm]
  · rw [List.length_take, Nat.min_eq_left hk]
    rcases h1.2 with ⟨e, hz⟩ | ⟨g, cap, cur, e, q1, q2, q3, q4, q5, q6⟩
    · obtain ⟨e1, e2, e3⟩ := Value.slice.inj e
      obtain rfl : k = 0 := by omega
      exact .inl ⟨by rw [e1, e3], rfl⟩
    · obtain ⟨e1, e2, e3⟩ := Value.slice.inj e
      refine .inr ⟨g, cap, cur, by rw [e1, e3], q1, q2, by omega, q4, q5, ?_⟩
      have h7 := congrArg (List.take (k * E.size)) q6
      rw [List.take_take, Nat.min_eq_left hm] at h7
      exact h7
  · rw [List.getElem?_take] at hi
    split at hi
    · rename_i hik
      have h3 := h2 i x hi
      have h4 : i * E.size + E.size ≤ k * E.size := by
        have := Nat.mul_le_mul_right E.size (show i + 1 ≤ k from hik); rwa [Nat.add_mul, Nat.one_mul] at this
      have e1 : ((xs.take (k * E.size)).drop (i * E.size)).take E.size = (xs.drop (i * E.size)).take E.size := by
        rw [List.drop_take, List.take_take, Nat.min_eq_left (by omega)]
      rw [e1]
      exact h3
    · cases hi
theorem cap_ge (w : World) (n : Nat) (e : TypeId) : n ≤ (Question.appendCap n 0 e).cut (w.tape w.drawn (Question.appendCap n 0 e)) := grownCap_ge w n 0 e
theorem cap_le (w : World) (n : Nat) (e : TypeId) (h : n ≤ maxLen) : (Question.appendCap n 0 e).cut (w.tape w.drawn (Question.appendCap n 0 e)) ≤ maxLen := grownCap_le_maxLen w n 0 e h
theorem made_own {P : Program} {α : Type} (E : El P α) (w : World) (z : Array Value) (n c : Nat) (hz : z.size = E.size) (hn : n ≤ c) (hc : c ≤ maxLen) : Own E (w.alloc (.cells (Builtin.zeroCells z n ++ Builtin.zeroCells z (c - n)) E.ty)).drew w.heap.size (.slice (some ⟨w.heap.size, 0, none⟩) 0 c) [] := by
  refine Own.drew ⟨[], World.ownsRow_made w _ c (Nat.le_refl _) hc ?_, by simp⟩
  rw [Array.size_append, size_zeroCells, size_zeroCells, hz, ← Nat.add_mul]
  congr 1
  omega
def szC (n1 n2 : Nat) : Nat → Nat
  | 0 => 0
  | 1 => n1
  | _ => n1 + n2
def acC {α : Type} (a b : List α) : Nat → List α
  | 0 => []
  | 1 => a
  | _ => a ++ b
set_option maxHeartbeats 2000000 in
set_option maxRecDepth 100000 in
theorem growT_any (n : Nat) (w : World) (hn : n ≤ 2000000) : Calls Tryz.prog 88 #[.slice none 0 0, .int .i64 n] w fun e w' => ∃ a c, e = .returned (.slice a 0 c) ∧ Own tupE w' w.heap.size (.slice a 0 c) [] ∧ Below w.heap.size w w' := by
  have hby : (Tryz.t52).bytes = 64 := by kernel_rfl
  have hnx : Builtin.nextslicecap n 0 = n := by
    unfold Builtin.nextslicecap
    split
    · rfl
    · rw [if_pos (by decide)]; omega
  have hb1 : (n : Int) * ((Tryz.t52).bytes : Int) ≤ 281474976710656 := by rw [hby]; omega
  have hb2 : ¬ 281474976710656 < Builtin.nextslicecap n 0 * (Tryz.t52).bytes := by rw [hby, hnx]; omega
  have hc1 := cap_ge w n 52
  have hc2 := cap_le w n 52 (by unfold maxLen; omega)
  have hMO := Lib.hid (made_own tupE w #[.slice none 0 0, .int .i64 0, .int .i64 0, .slice none 0 0] n _ rfl hc1 hc2)
  clear hby hnx hc1 hc2
  go_enter Tryz.func88, Tryz.ntmps88
  go_wp2_with fail
  · go_ret
    exact ⟨_, _, rfl, hMO.out, (below_alloc w _).drew⟩
  · go_ret
    exact ⟨_, _, rfl, Own.nil _ _ _, .refl _ _⟩
set_option maxHeartbeats 4000000 in
set_option maxRecDepth 100000 in
theorem concatT_any (g : Nat) (v u : Value) (a b : List Tup) (w : World) (h0 : w.cell? ⟨g, 0, none⟩ = some v) (h1 : w.cell? ⟨g, 1, none⟩ = some u) (hv : Sl tupE w free v a) (hu : Sl tupE w free u b) (hs : a.length + b.length ≤ 1000000) :
    Calls Tryz.prog 46 #[.slice (some ⟨g, 0, none⟩) 2 2] w (RetOwn tupE w (a ++ b)) := by
  obtain ⟨a1, c1, rfl⟩ := hv.shape
  obtain ⟨a2, c2, rfl⟩ := hu.shape
  have HA := Lib.hid hv
  have HU := Lib.hid hu
  obtain ⟨n1, hn1⟩ : ∃ n, n = a.length := ⟨_, rfl⟩
  obtain ⟨n2, hn2⟩ : ∃ n, n = b.length := ⟨_, rfl⟩
  have HN1 := Lib.hid hn1
  have HN2 := Lib.hid hn2
  rw [← hn1] at HA h0 hs
  rw [← hn2] at HU h1 hs
  have hEA : ∀ j, j < 2 → ∃ a3 c3 n3 l3, w.cell? ⟨g, j, none⟩ = some (.slice a3 n3 c3) ∧ Sl tupE w free (.slice a3 n3 c3) l3 ∧ l3.length = n3 ∧ n3 ≤ 1000000 ∧ szC n1 n2 j + n3 = szC n1 n2 (j + 1) ∧ acC a b j ++ l3 = acC a b (j + 1) := by
    intro j hj
    rcases (by omega : j = 0 ∨ j = 1) with rfl | rfl
    · exact ⟨a1, c1, n1, a, h0, HA.out, HN1.out.symm, by omega, Nat.zero_add _, rfl⟩
    · exact ⟨a2, c2, n2, b, h1, HU.out, HN2.out.symm, by omega, rfl, rfl⟩
  have HEA := Lib.hid hEA
  have hsz : ∀ j, szC n1 n2 j ≤ 1000000 := fun j => by unfold szC; split <;> omega
  have HSZ := Lib.hid hsz
  have HAC : Hid (∀ j, (acC a b j).length = szC n1 n2 j) := Lib.hid (fun j => by unfold acC szC; split <;> simp [HN1.out, HN2.out])
  clear hv hu hn1 hn2 h0 h1 hEA hsz
  go_enter Tryz.func46, Tryz.ntmps46
  go_wp2_with fail
  go_loopw [11, 3] (fun i z wr => ∃ j : Nat, j ≤ 2 ∧ i = .int .i64 j ∧ z = .int .i64 (szC n1 n2 j : Nat) ∧ Hid (Below w.heap.size w wr)) (fun i _ _ => 2 - (RowKit.intOf i).toNat)
  case atStart => exact ⟨0, Nat.zero_le _, rfl, rfl, Lib.hid (.refl _ _)⟩
  case round =>
    obtain ⟨j, hj, rfl, rfl, HB⟩ := hrel
    obtain ⟨wo, rfl⟩ : ∃ wo : World, wo = wr := ⟨_, rfl⟩
    by_cases hlt : j < 2
    · obtain ⟨a3, c3, n3, l3, hc, _, _, hn3, hss, _⟩ := HEA.out j hlt
      have p0 := cell_keep HB.out hc
      have hs1 := HSZ.out j
      have HSS := Lib.hid hss
      have hji : (j : Int) < 2 := by omega
      generalize szC n1 n2 j = s at hs1 HSS ⊢
      clear hc hss
      go_wp2_with fail
      go_roundw
      case rel => exact ⟨j + 1, by omega, by go_num, by rw [← HSS.out]; first | rfl | go_num, HB⟩
      case measure => simp [RowKit.intOf]; omega
    · obtain rfl : j = 2 := by omega
      have hs1 := HSZ.out 2
      have HGR := fun W => Lib.hid (growT_any (szC n1 n2 2) W (by omega))
      generalize szC n1 n2 2 = s at hs1 HGR ⊢
      go_wp2_with fail
      refine (HGR _).out.mono ?_
      rintro _ w2 ⟨ao, co, rfl, hO, hb2⟩
      have HO := Lib.hid (hO.mono HB.out.size)
      have HB2 := Lib.hid (below_keep HB.out hb2)
      clear hO hb2 HGR
      go_wp2_with fail
      go_loopw [27, 6] (fun i o wr => ∃ j : Nat, j ≤ 2 ∧ i = .int .i64 j ∧ Own tupE wr w.heap.size o (acC a b j) ∧ Hid (Below w.heap.size w wr)) (fun i _ _ => 2 - (RowKit.intOf i).toNat)
      case atStart => exact ⟨0, Nat.zero_le _, rfl, HO.out, HB2⟩
      case round =>
        obtain ⟨j, hj, rfl, hOj, HBj⟩ := hrel
        obtain ⟨wo, rfl⟩ : ∃ wo : World, wo = wr := ⟨_, rfl⟩
        have hlj := HAC.out j
        have hs2 := HSZ.out j
        by_cases hlt : j < 2
        · obtain ⟨a3, c3, n3, l3, hc, hsl, hl3, hn3, _, hac⟩ := HEA.out j hlt
          have p0 := cell_keep HBj.out hc
          have HAJ := Lib.hid hac
          have hji : (j : Int) < 2 := by omega
          obtain ⟨lk, hlk⟩ : ∃ lk, lk = acC a b j := ⟨_, rfl⟩
          rw [← hlk] at hOj hlj HAJ
          obtain ⟨ap, cp, rfl⟩ := hOj.shape
          have HOJ := Lib.hid hOj
          have HIS : Hid (Sl tupE wo (fun k => some k = (Value.slice ap lk.length cp).ownBlock) (.slice a3 n3 c3) l3) := Lib.hid (((hsl.old (Nat.le_refl _)).below HBj.out).mono fun k _ hk => (HOJ.out.lt k hk.symm).1)
          obtain ⟨nt, hnt⟩ : ∃ nt, lk.length + l3.length = nt := ⟨_, rfl⟩
          have hnt1 : nt ≤ 2000000 := by omega
          have HNT := Lib.hid hnt
          have hlb : lk.length + l3.length ≤ 2000000 := by omega
          clear hc hsl hl3 hac hOj hlk hnt hlj
          go_wp2_with (at_builtin; refine wpList_join rfl (.tmp 31) (.tmp 32) 24 rfl tupE Tryz.underlying24 w.heap.size (.slice ap lk.length cp) (.slice a3 n3 c3) lk l3 rfl rfl HOJ.out HIS.out (by unfold maxLen; omega) (by show _ * 64 ≤ _; omega) HBj.out.size nt HNT.out ?_; intro a5 c5 w5 hJ)
          go_roundw
          case rel => exact ⟨j + 1, by omega, by go_num, by rw [← HAJ.out]; exact hJ.own, Lib.hid (HBj.out.trans hJ.below)⟩
          case measure => simp [RowKit.intOf]; omega
        · obtain rfl : j = 2 := by omega
          obtain ⟨ap, cp, rfl⟩ := hOj.shape
          have HOJ : Hid (Own tupE wo w.heap.size (.slice ap (acC a b 2).length cp) (a ++ b)) := Lib.hid hOj
          clear hOj hlj
          generalize (acC a b 2).length = s3 at HOJ ⊢
          go_wp2_with fail
          go_ret
          exact ⟨_, rfl, HOJ.out, HBj.out⟩
set_option maxHeartbeats 2000000 in
set_option maxRecDepth 100000 in
theorem growI_any (n : Nat) (w : World) (hn : n ≤ 2000000) : Calls Tryz.prog 105 #[.slice none 0 0, .int .i64 n] w fun e w' => ∃ a c, e = .returned (.slice a 0 c) ∧ Own intE w' w.heap.size (.slice a 0 c) [] ∧ Below w.heap.size w w' := by
  have hby : (Tryz.t3).bytes = 8 := by kernel_rfl
  have hnx : Builtin.nextslicecap n 0 = n := by
    unfold Builtin.nextslicecap
    split
    · rfl
    · rw [if_pos (by decide)]; omega
  have hb1 : (n : Int) * ((Tryz.t3).bytes : Int) ≤ 281474976710656 := by rw [hby]; omega
  have hb2 : ¬ 281474976710656 < Builtin.nextslicecap n 0 * (Tryz.t3).bytes := by rw [hby, hnx]; omega
  have hc1 := cap_ge w n 3
  have hc2 := cap_le w n 3 (by unfold maxLen; omega)
  have hMO := Lib.hid (made_own intE w #[.int .i64 0] n _ rfl hc1 hc2)
  clear hby hnx hc1 hc2
  go_enter Tryz.func105, Tryz.ntmps105
  go_wp2_with fail
  · go_ret
    exact ⟨_, _, rfl, hMO.out, (below_alloc w _).drew⟩
  · go_ret
    exact ⟨_, _, rfl, Own.nil _ _ _, .refl _ _⟩
set_option maxHeartbeats 4000000 in
set_option maxRecDepth 100000 in
theorem concatI_any (g : Nat) (v u : Value) (a b : List Int) (w : World) (h0 : w.cell? ⟨g, 0, none⟩ = some v) (h1 : w.cell? ⟨g, 1, none⟩ = some u) (hv : Sl intE w free v a) (hu : Sl intE w free u b) (hs : a.length + b.length ≤ 1000000) :
    Calls Tryz.prog 64 #[.slice (some ⟨g, 0, none⟩) 2 2] w (RetOwn intE w (a ++ b)) := by
  obtain ⟨a1, c1, rfl⟩ := hv.shape
  obtain ⟨a2, c2, rfl⟩ := hu.shape
  have HA := Lib.hid hv
  have HU := Lib.hid hu
  obtain ⟨n1, hn1⟩ : ∃ n, n = a.length := ⟨_, rfl⟩
  obtain ⟨n2, hn2⟩ : ∃ n, n = b.length := ⟨_, rfl⟩
  have HN1 := Lib.hid hn1
  have HN2 := Lib.hid hn2
  rw [← hn1] at HA h0 hs
  rw [← hn2] at HU h1 hs
  have hEA : ∀ j, j < 2 → ∃ a3 c3 n3 l3, w.cell? ⟨g, j, none⟩ = some (.slice a3 n3 c3) ∧ Sl intE w free (.slice a3 n3 c3) l3 ∧ l3.length = n3 ∧ n3 ≤ 1000000 ∧ szC n1 n2 j + n3 = szC n1 n2 (j + 1) ∧ acC a b j ++ l3 = acC a b (j + 1) := by
    intro j hj
    rcases (by omega : j = 0 ∨ j = 1) with rfl | rfl
    · exact ⟨a1, c1, n1, a, h0, HA.out, HN1.out.symm, by omega, Nat.zero_add _, rfl⟩
    · exact ⟨a2, c2, n2, b, h1, HU.out, HN2.out.symm, by omega, rfl, rfl⟩
  have HEA := Lib.hid hEA
  have hsz : ∀ j, szC n1 n2 j ≤ 1000000 := fun j => by unfold szC; split <;> omega
  have HSZ := Lib.hid hsz
  have HAC : Hid (∀ j, (acC a b j).length = szC n1 n2 j) := Lib.hid (fun j => by unfold acC szC; split <;> simp [HN1.out, HN2.out])
  clear hv hu hn1 hn2 h0 h1 hEA hsz
  go_enter Tryz.func64, Tryz.ntmps64
  go_wp2_with fail
  go_loopw [11, 3] (fun i z wr => ∃ j : Nat, j ≤ 2 ∧ i = .int .i64 j ∧ z = .int .i64 (szC n1 n2 j : Nat) ∧ Hid (Below w.heap.size w wr)) (fun i _ _ => 2 - (RowKit.intOf i).toNat)
  case atStart => exact ⟨0, Nat.zero_le _, rfl, rfl, Lib.hid (.refl _ _)⟩
  case round =>
    obtain ⟨j, hj, rfl, rfl, HB⟩ := hrel
    obtain ⟨wo, rfl⟩ : ∃ wo : World, wo = wr := ⟨_, rfl⟩
    by_cases hlt : j < 2
    · obtain ⟨a3, c3, n3, l3, hc, _, _, hn3, hss, _⟩ := HEA.out j hlt
      have p0 := cell_keep HB.out hc
      have hs1 := HSZ.out j
      have HSS := Lib.hid hss
      have hji : (j : Int) < 2 := by omega
      generalize szC n1 n2 j = s at hs1 HSS ⊢
      clear hc hss
      go_wp2_with fail
      go_roundw
      case rel => exact ⟨j + 1, by omega, by go_num, by rw [← HSS.out]; first | rfl | go_num, HB⟩
      case measure => simp [RowKit.intOf]; omega
    · obtain rfl : j = 2 := by omega
      have hs1 := HSZ.out 2
      have HGR := fun W => Lib.hid (growI_any (szC n1 n2 2) W (by omega))
      generalize szC n1 n2 2 = s at hs1 HGR ⊢
      go_wp2_with fail
      refine (HGR _).out.mono ?_
      rintro _ w2 ⟨ao, co, rfl, hO, hb2⟩
      have HO := Lib.hid (hO.mono HB.out.size)
      have HB2 := Lib.hid (below_keep HB.out hb2)
      clear hO hb2 HGR
      go_wp2_with fail
      go_loopw [27, 6] (fun i o wr => ∃ j : Nat, j ≤ 2 ∧ i = .int .i64 j ∧ Own intE wr w.heap.size o (acC a b j) ∧ Hid (Below w.heap.size w wr)) (fun i _ _ => 2 - (RowKit.intOf i).toNat)
      case atStart => exact ⟨0, Nat.zero_le _, rfl, HO.out, HB2⟩
      case round =>
        obtain ⟨j, hj, rfl, hOj, HBj⟩ := hrel
        obtain ⟨wo, rfl⟩ : ∃ wo : World, wo = wr := ⟨_, rfl⟩
        have hlj := HAC.out j
        have hs2 := HSZ.out j
        by_cases hlt : j < 2
        · obtain ⟨a3, c3, n3, l3, hc, hsl, hl3, hn3, _, hac⟩ := HEA.out j hlt
          have p0 := cell_keep HBj.out hc
          have HAJ := Lib.hid hac
          have hji : (j : Int) < 2 := by omega
          obtain ⟨lk, hlk⟩ : ∃ lk, lk = acC a b j := ⟨_, rfl⟩
          rw [← hlk] at hOj hlj HAJ
          obtain ⟨ap, cp, rfl⟩ := hOj.shape
          have HOJ := Lib.hid hOj
          have HIS : Hid (Sl intE wo (fun k => some k = (Value.slice ap lk.length cp).ownBlock) (.slice a3 n3 c3) l3) := Lib.hid (((hsl.old (Nat.le_refl _)).below HBj.out).mono fun k _ hk => (HOJ.out.lt k hk.symm).1)
          obtain ⟨nt, hnt⟩ : ∃ nt, lk.length + l3.length = nt := ⟨_, rfl⟩
          have hnt1 : nt ≤ 2000000 := by omega
          have HNT := Lib.hid hnt
          have hlb : lk.length + l3.length ≤ 2000000 := by omega
          clear hc hsl hl3 hac hOj hlk hnt hlj
          go_wp2_with (at_builtin; refine wpList_join rfl (.tmp 31) (.tmp 32) 23 rfl intE Tryz.underlying23 w.heap.size (.slice ap lk.length cp) (.slice a3 n3 c3) lk l3 rfl rfl HOJ.out HIS.out (by unfold maxLen; omega) (by show _ * 8 ≤ _; omega) HBj.out.size nt HNT.out ?_; intro a5 c5 w5 hJ)
          go_roundw
          case rel => exact ⟨j + 1, by omega, by go_num, by rw [← HAJ.out]; exact hJ.own, Lib.hid (HBj.out.trans hJ.below)⟩
          case measure => simp [RowKit.intOf]; omega
        · obtain rfl : j = 2 := by omega
          obtain ⟨ap, cp, rfl⟩ := hOj.shape
          have HOJ : Hid (Own intE wo w.heap.size (.slice ap (acC a b 2).length cp) (a ++ b)) := Lib.hid hOj
          clear hOj hlj
          generalize (acC a b 2).length = s3 at HOJ ⊢
          go_wp2_with fail
          go_ret
          exact ⟨_, rfl, HOJ.out, HBj.out⟩
end Go.Proofs.YtngigmpaabmngaaGreatDoor

namespace Go.Proofs.YtngigmpaabmngaaGreatDoor
open Go.RowKit Go.Lib Go.Shelf

theorem ints_at {w : World} {G : Nat → Prop} {a : Option Addr} {n c k : Nat} {l : List Int} {x : Int} (h : Sl intE w G (.slice a n c) l) (hk : l[k]? = some x) : ∃ b o, a = some ⟨b, o, none⟩ ∧ w.cell? ⟨b, o + k, none⟩ = some (.int .i64 x) := by
  obtain ⟨b, o, cs, ha, rfl, hc⟩ := Sl.at h hk
  have h0 : w.cell? ⟨b, o + k * 1 + 0, none⟩ = some (.int .i64 x) := hc 0 _ rfl
  rw [Nat.mul_one, Nat.add_zero] at h0
  exact ⟨b, o, ha, h0⟩
/-- After j of both slices. -/
def accU (a b : List Int) : Nat → List Int
  | 0 => []
  | 1 => a.foldl ins []
  | _ => mergeL a b
theorem accU_length (a b : List Int) (j : Nat) : (accU a b j).length ≤ a.length + b.length := by
  match j with
  | 0 => simp [accU]
  | 1 => have := foldIns_length a []; simp [accU] at *; omega
  | j + 2 => exact mergeL_length a b

set_option maxHeartbeats 8000000 in
set_option maxRecDepth 100000 in
theorem merge_any (v u : Value) (a b : List Int) (w : World) (hv : Sl intE w free v a) (hu : Sl intE w free u b) (hs : a.length + b.length ≤ 1000000000) :
    Calls Tryz.prog 90 #[v, u] w (RetOwn intE w (mergeL a b)) := by
  obtain ⟨a1, c1, rfl⟩ := hv.shape
  obtain ⟨a2, c2, rfl⟩ := hu.shape
  have HA := Lib.hid hv
  have HB := Lib.hid hu
  obtain ⟨n1, hn1⟩ : ∃ n, n = a.length := ⟨_, rfl⟩
  obtain ⟨n2, hn2⟩ : ∃ n, n = b.length := ⟨_, rfl⟩
  have HN1 := Lib.hid hn1
  have HN2 := Lib.hid hn2
  rw [← hn1] at HA ⊢
  rw [← hn2] at HB ⊢
  clear hv hu hn1 hn2
  go_enter Tryz.func90, Tryz.ntmps90
  go_wp2_with fail
  go_loopw [14, 5] (fun i o wr => ∃ j : Nat, j ≤ 2 ∧ i = .int .i64 j ∧ Own intE wr w.heap.size o (accU a b j) ∧ Below w.heap.size w wr) (fun i _ _ => 2 - (intOf i).toNat)
  case atStart => exact ⟨0, Nat.zero_le _, rfl, Own.nil _ _ _, Below.refl _ _⟩
  case round =>
    obtain ⟨j, hj, rfl, hO, hB⟩ := hrel
    obtain ⟨wo, rfl⟩ : ∃ wo : World, wo = wr := ⟨_, rfl⟩
    obtain ⟨oa, oc, rfl⟩ := hO.shape
    by_cases hlt : j < 2
    · obtain ⟨a3, c3, n3, lx, hidx, hlx, hn3, hacc⟩ : ∃ (a3 : Option Addr) (c3 n3 : Nat) (lx : List Int), (∀ W, (Instr.index 162 (.agg #[.slice a1 n1 c1, .slice a2 n2 c2]) (.int .i64 (j : Int))).run Tryz.prog W = .ok (.slice a3 n3 c3) W) ∧ Sl intE w free (.slice a3 n3 c3) lx ∧ lx.length = n3 ∧ Hid (∀ q, ((lx.take q).foldl ins (accU a b j)).length ≤ a.length + b.length) ∧ lx.foldl ins (accU a b j) = accU a b (j + 1) ∧ n3 ≤ 1000000000 := by
        have hlen : ∀ (xs l : List Int) (q : Nat), ((xs.take q).foldl ins l).length ≤ l.length + xs.length := fun xs l q => Nat.le_trans (foldIns_length _ _) (by rw [List.length_take]; omega)
        rcases (by omega : j = 0 ∨ j = 1) with rfl | rfl
        · exact ⟨a1, c1, n1, a, fun W => by kernel_rfl, HA.out, HN1.out.symm, fun q => by have := hlen a [] q; simp [accU] at *; omega, rfl, by have := HN1.out; omega⟩
        · refine ⟨a2, c2, n2, b, fun W => by kernel_rfl, HB.out, HN2.out.symm, fun q => ?_, by simp [accU, mergeL], by have := HN2.out; omega⟩
          have := hlen b (accU a b 1) q
          have h2 := foldIns_length a []
          simp [accU] at *; omega
      obtain ⟨hacb, hacc, hn3b⟩ := hacc
      have HACC := Lib.hid hacc
      have HL3 := Lib.hid hn3
      have HLX := Lib.hid hlx
      clear hacc hn3 hlx
      have hjd : decide ((j : Int) < 2) = true := by simp; omega
      go_wp2_with fail
      go_loopw [19, 5] (fun i o wr => ∃ q : Nat, q ≤ n3 ∧ i = .int .i64 q ∧ Own intE wr w.heap.size o ((lx.take q).foldl ins (accU a b j)) ∧ Below w.heap.size w wr) (fun i _ _ => n3 - (intOf i).toNat)
      case atStart => exact ⟨0, Nat.zero_le _, rfl, hO, hB⟩
      case round =>
        obtain ⟨q, hq, rfl, hO2, hB2⟩ := hrel
        obtain ⟨wp, rfl⟩ : ∃ wp : World, wp = wr := ⟨_, rfl⟩
        have hml := hacb.out q
        obtain ⟨out, hout⟩ : ∃ out, out = (lx.take q).foldl ins (accU a b j) := ⟨_, rfl⟩
        have HOUT := Lib.hid hout
        rw [← hout] at hO2 hml
        obtain ⟨m, hm⟩ : ∃ m, m = out.length := ⟨_, rfl⟩
        obtain ⟨pa, pc, rfl⟩ := hO2.shape
        have HM := Lib.hid hm
        rw [← hm] at hO2 hml ⊢
        have hmx : m ≤ 1000000000 := by omega
        have hml1 : out.length ≤ m := Nat.le_of_eq HM.out.symm
        have hml2 : m ≤ out.length := Nat.le_of_eq HM.out
        clear hout hm hml
        by_cases hlt2 : q < n3
        · obtain ⟨x, hx⟩ := lget_some lx q (by rw [HL3.out]; exact hlt2)
          obtain ⟨b3, o3, e3, hat⟩ := ints_at HLX.out hx
          subst e3
          replace hat := cell_keep hB2 hat
          have HNEXT : Hid ((lx.take (q + 1)).foldl ins (accU a b j) = ins out x) := by show _ = _; rw [take_get hx, List.foldl_append, ← HOUT.out]; rfl
          clear hx
          go_wp2_with fail
          go_loop [10] (fun t => ∃ k : Nat, k ≤ m ∧ t = .int .i64 k ∧ Hid (∀ i y, i < k → out[i]? = some y → y < x)) (fun t => m - (intOf t).toNat)
          case atStart => exact ⟨0, Nat.zero_le _, rfl, fun i y h => absurd h (Nat.not_lt_zero i)⟩
          case round =>
            obtain ⟨k, hk, rfl, HK⟩ := hrel
            by_cases h3 : k < m
            · obtain ⟨y, hy⟩ := lget_some out k (by rw [← HM.out]; exact h3)
              obtain ⟨b4, o4, e4, hat4⟩ := ints_at hO2.sl hy
              subst e4
              have HY := Lib.hid hy
              have hkb : ((k : Int) == (m : Int)) = false := by rw [beq_eq_false_iff_ne]; omega
              have hkl : (k : Int) < (m : Int) := by omega
              by_cases h4 : y < x
              · clear hy
                go_wp2_with fail
                go_round
                case rel =>
                  refine ⟨k + 1, by omega, by go_num, fun i z hi hz => ?_⟩
                  rcases Nat.lt_or_ge i k with h | h
                  · exact HK.out i z h hz
                  · have : i = k := by omega
                    subst this
                    rw [HY.out] at hz; cases hz; exact h4
                case measure => simp [intOf]; omega
              · have hlead : lead x out = k := lead_eq x out k (by omega) HK.out (fun z hz => by rw [hy] at hz; cases hz; exact h4)
                by_cases h5 : y = x
                · have HINS : Hid ((lx.take (q + 1)).foldl ins (accU a b j) = out) := by show _ = _; rw [HNEXT.out, ins, hlead, if_pos (by rw [hy, h5])]
                  have h5b : (y != x) = false := by simp [h5]
                  have HY5 := Lib.hid h5
                  clear hy hlead h5
                  go_wp2_with fail
                  go_roundw
                  case rel => exact ⟨q + 1, by omega, by go_num, by rw [HINS.out]; exact hO2, hB2⟩
                  case measure => simp [intOf]; omega
                · have HINS : Hid ((lx.take (q + 1)).foldl ins (accU a b j) = out.take k ++ [x] ++ out.drop k) := by show _ = _; rw [HNEXT.out, ins, hlead, if_neg (by rw [hy]; simpa using h5)]
                  have h5b : (y != x) = true := by simpa using h5
                  clear hy hlead
                  have HTL : Hid (([] : List Int).length + (out.take k).length = k) := by show _ = _; simp; omega
                  have HDL : Hid ((out.take k ++ [x]).length + (out.drop k).length = m + 1) := by show _ = _; simp; omega
                  have hcap := hO2.sl.cap
                  have hki1 : (k : Int) ≤ (pc : Int) := by omega
                  have hki2 : (0 : Int) ≤ (k : Int) := by omega
                  have hki3 : (k : Int) ≤ (m : Int) := by omega
                  have hki4 : (m : Int) ≤ (pc : Int) := by omega
                  have HT : Hid (Sl intE wp (fun mm => wp.heap.size ≤ mm) (.slice (some ⟨b4, o4, none⟩) k pc) (out.take k)) := (hO2.sl.takeS hk).old (Nat.le_refl _)
                  have hck : ¬ pc = k := by omega
                  have HD : Hid (Sl intE wp (fun mm => wp.heap.size ≤ mm) (.slice (some ⟨b4, o4 + k, none⟩) (m - k) (pc - k)) (out.drop k)) := by
                    have h := hO2.sl.dropS hk
                    rw [show k * intE.size = k from Nat.mul_one k] at h
                    rw [Option.map_some, Addr.add_lit] at h
                    exact h.old (Nat.le_refl _)
                  go_wp2_with fail
                  go_region_held3 (fun W => Below wp.heap.size wp W)
                    ((first | exact (Below.refl _ _).drew | exact below_alloc_keep (by assumption) | exact Below.trans (by assumption) (Joined.below (by assumption)) | exact Below.trans (by assumption) (Pushed.below (by assumption))))
                    (first
                      | (refine step_join rfl (.const (.slice none 0 0)) (.tmp 51) 23 rfl intE Tryz.underlying23 wp.heap.size (.slice none 0 0) (.slice (some ⟨b4, o4, none⟩) k pc) [] (out.take k) rfl rfl (Own.nil _ _ _) ((HT.out.below (by assumption)).mono (fun _ _ h => by simp [Value.ownBlock] at h)) (by unfold maxLen; simp; omega) (by show _ * 8 ≤ _; simp; omega) (Below.size (by assumption)) k HTL.out ?_; intro x1 y1 w1 hJ1)
                      | (refine step_push rfl (.tmp 52) (.tmp 54) 23 rfl intE Tryz.underlying23 wp.heap.size (.slice x1 k y1) (out.take k) rfl hJ1.own [x] #[.int .i64 x] (Els.one rfl) 1 1 rfl rfl (by decide) (by unfold maxLen; simp; omega) (by show _ * 8 ≤ _; simp; omega) hJ1.below.size ?_; intro g cap w2 hP hPa)
                      | (refine step_push_at rfl (.tmp 52) (.tmp 54) 23 rfl intE Tryz.underlying23 wp.heap.size (.slice x1 k y1) (out.take k) rfl hJ1.own [x] [.int .i64 x] (Els.one rfl) ⟨wp.heap.size, 0, none⟩ 1 1 rfl rfl (fun jj uu hu => hJ1.kept.cell (by simp [Value.ownBlock]) (cells_new wp.drew _ _ jj uu hu)) (by decide) (by unfold maxLen; simp; omega) (by show _ * 8 ≤ _; simp; omega) (Below.size (by assumption)) ?_; intro g cap w2 hP)
                      | (refine step_join rfl (.tmp 55) (.tmp 58) 23 rfl intE Tryz.underlying23 wp.heap.size (.slice (some ⟨g, 0, none⟩) ((out.take k).length + 1) cap) (.slice (some ⟨b4, o4 + k, none⟩) (m - k) (pc - k)) (out.take k ++ [x]) (out.drop k) rfl rfl (hP.own' (by simp)) ((HD.out.below (by assumption)).mono (fun mm _ hh => ((hP.own' (n := (out.take k).length + 1) (by simp)).lt mm hh.symm).1)) (by unfold maxLen; simp; omega) (by show _ * 8 ≤ _; simp; omega) (Below.size (by assumption)) (m + 1) HDL.out ?_; intro x3 y3 w3 hJ3))
                  all_goals
                    have hb9 : Below wp.heap.size wp w3 := by assumption
                    have hB9 : Below w.heap.size w w3 := hB2.trans (hb9.mono hB2.size)
                    go_wp2_with fail
                    go_roundw
                    case rel => exact ⟨q + 1, by omega, by go_num, by rw [HINS.out]; exact hJ3.own.mono hB2.size, hB9⟩
                    case measure => simp [intOf]; omega
            · have hlead : lead x out = k := lead_eq x out k (by omega) HK.out (fun z hz => by rw [List.getElem?_eq_none (by omega)] at hz; cases hz)
              have HINS : Hid ((lx.take (q + 1)).foldl ins (accU a b j) = out.take k ++ [x] ++ out.drop k) := by show _ = _; rw [HNEXT.out, ins, hlead, if_neg (by rw [List.getElem?_eq_none (by omega)]; simp)]
              have hkb : ((k : Int) == (m : Int)) = true := by rw [beq_iff_eq]; omega
              clear hlead
              have HTL : Hid (([] : List Int).length + (out.take k).length = k) := by show _ = _; simp; omega
              have HDL : Hid ((out.take k ++ [x]).length + (out.drop k).length = m + 1) := by show _ = _; simp; omega
              have hcap := hO2.sl.cap
              have hki1 : (k : Int) ≤ (pc : Int) := by omega
              have hki2 : (0 : Int) ≤ (k : Int) := by omega
              have hki3 : (k : Int) ≤ (m : Int) := by omega
              have hki4 : (m : Int) ≤ (pc : Int) := by omega
              have HT : Hid (Sl intE wp (fun mm => wp.heap.size ≤ mm) (.slice pa k pc) (out.take k)) := (hO2.sl.takeS hk).old (Nat.le_refl _)
              by_cases hck : pc = k
              · have hck' := hck.symm
                subst hck'
                have HD : Hid (Sl intE wp (fun mm => wp.heap.size ≤ mm) (.slice pa 0 0) (out.drop k)) := Sl.none_left (by omega) rfl
                go_wp2_with fail
                go_region_held3 (fun W => Below wp.heap.size wp W)
                  ((first | exact (Below.refl _ _).drew | exact below_alloc_keep (by assumption) | exact Below.trans (by assumption) (Joined.below (by assumption)) | exact Below.trans (by assumption) (Pushed.below (by assumption))))
                  (first
                    | (refine step_join rfl (.const (.slice none 0 0)) (.tmp 51) 23 rfl intE Tryz.underlying23 wp.heap.size (.slice none 0 0) (.slice pa k k) [] (out.take k) rfl rfl (Own.nil _ _ _) ((HT.out.below (by assumption)).mono (fun _ _ h => by simp [Value.ownBlock] at h)) (by unfold maxLen; simp; omega) (by show _ * 8 ≤ _; simp; omega) (Below.size (by assumption)) k HTL.out ?_; intro x1 y1 w1 hJ1)
                    | (refine step_push rfl (.tmp 52) (.tmp 54) 23 rfl intE Tryz.underlying23 wp.heap.size (.slice x1 k y1) (out.take k) rfl hJ1.own [x] #[.int .i64 x] (Els.one rfl) 1 1 rfl rfl (by decide) (by unfold maxLen; simp; omega) (by show _ * 8 ≤ _; simp; omega) hJ1.below.size ?_; intro g cap w2 hP hPa)
                    | (refine step_push_at rfl (.tmp 52) (.tmp 54) 23 rfl intE Tryz.underlying23 wp.heap.size (.slice x1 k y1) (out.take k) rfl hJ1.own [x] [.int .i64 x] (Els.one rfl) ⟨wp.heap.size, 0, none⟩ 1 1 rfl rfl (fun jj uu hu => hJ1.kept.cell (by simp [Value.ownBlock]) (cells_new wp.drew _ _ jj uu hu)) (by decide) (by unfold maxLen; simp; omega) (by show _ * 8 ≤ _; simp; omega) (Below.size (by assumption)) ?_; intro g cap w2 hP)
                    | (refine step_join rfl (.tmp 55) (.tmp 58) 23 rfl intE Tryz.underlying23 wp.heap.size (.slice (some ⟨g, 0, none⟩) ((out.take k).length + 1) cap) (.slice pa 0 0) (out.take k ++ [x]) (out.drop k) rfl rfl (hP.own' (by simp)) ((HD.out.below (by assumption)).mono (fun mm _ hh => ((hP.own' (n := (out.take k).length + 1) (by simp)).lt mm hh.symm).1)) (by unfold maxLen; simp; omega) (by show _ * 8 ≤ _; simp; omega) (Below.size (by assumption)) (m + 1) HDL.out ?_; intro x3 y3 w3 hJ3))
                all_goals
                  have hb9 : Below wp.heap.size wp w3 := by assumption
                  have hB9 : Below w.heap.size w w3 := hB2.trans (hb9.mono hB2.size)
                  go_wp2_with fail
                  go_roundw
                  case rel => exact ⟨q + 1, by omega, by go_num, by rw [HINS.out]; exact hJ3.own.mono hB2.size, hB9⟩
                  case measure => simp [intOf]; omega
              · have HD : Hid (Sl intE wp (fun mm => wp.heap.size ≤ mm) (.slice (pa.map fun y => y.add k) (m - k) (pc - k)) (out.drop k)) := by
                  have h := hO2.sl.dropS hk
                  rw [show k * intE.size = k from Nat.mul_one k] at h
                  exact h.old (Nat.le_refl _)
                go_wp2_with fail
                go_region_held3 (fun W => Below wp.heap.size wp W)
                  ((first | exact (Below.refl _ _).drew | exact below_alloc_keep (by assumption) | exact Below.trans (by assumption) (Joined.below (by assumption)) | exact Below.trans (by assumption) (Pushed.below (by assumption))))
                  (first
                    | (refine step_join rfl (.const (.slice none 0 0)) (.tmp 51) 23 rfl intE Tryz.underlying23 wp.heap.size (.slice none 0 0) (.slice pa k pc) [] (out.take k) rfl rfl (Own.nil _ _ _) ((HT.out.below (by assumption)).mono (fun _ _ h => by simp [Value.ownBlock] at h)) (by unfold maxLen; simp; omega) (by show _ * 8 ≤ _; simp; omega) (Below.size (by assumption)) k HTL.out ?_; intro x1 y1 w1 hJ1)
                    | (refine step_push rfl (.tmp 52) (.tmp 54) 23 rfl intE Tryz.underlying23 wp.heap.size (.slice x1 k y1) (out.take k) rfl hJ1.own [x] #[.int .i64 x] (Els.one rfl) 1 1 rfl rfl (by decide) (by unfold maxLen; simp; omega) (by show _ * 8 ≤ _; simp; omega) hJ1.below.size ?_; intro g cap w2 hP hPa)
                    | (refine step_push_at rfl (.tmp 52) (.tmp 54) 23 rfl intE Tryz.underlying23 wp.heap.size (.slice x1 k y1) (out.take k) rfl hJ1.own [x] [.int .i64 x] (Els.one rfl) ⟨wp.heap.size, 0, none⟩ 1 1 rfl rfl (fun jj uu hu => hJ1.kept.cell (by simp [Value.ownBlock]) (cells_new wp.drew _ _ jj uu hu)) (by decide) (by unfold maxLen; simp; omega) (by show _ * 8 ≤ _; simp; omega) (Below.size (by assumption)) ?_; intro g cap w2 hP)
                    | (refine step_join rfl (.tmp 55) (.tmp 58) 23 rfl intE Tryz.underlying23 wp.heap.size (.slice (some ⟨g, 0, none⟩) ((out.take k).length + 1) cap) (.slice (pa.map fun y => y.add k) (m - k) (pc - k)) (out.take k ++ [x]) (out.drop k) rfl rfl (hP.own' (by simp)) ((HD.out.below (by assumption)).mono (fun mm _ hh => ((hP.own' (n := (out.take k).length + 1) (by simp)).lt mm hh.symm).1)) (by unfold maxLen; simp; omega) (by show _ * 8 ≤ _; simp; omega) (Below.size (by assumption)) (m + 1) HDL.out ?_; intro x3 y3 w3 hJ3))
                all_goals
                  have hb9 : Below wp.heap.size wp w3 := by assumption
                  have hB9 : Below w.heap.size w w3 := hB2.trans (hb9.mono hB2.size)
                  go_wp2_with fail
                  go_roundw
                  case rel => exact ⟨q + 1, by omega, by go_num, by rw [HINS.out]; exact hJ3.own.mono hB2.size, hB9⟩
                  case measure => simp [intOf]; omega
        · have HEND : Hid (out = accU a b (j + 1)) := by show _ = _; rw [HOUT.out, List.take_of_length_le (by rw [HL3.out]; omega), HACC.out]
          go_wp2_with fail
          go_roundw
          case rel => exact ⟨j + 1, by omega, by go_num, by rw [← HEND.out]; exact hO2, hB2⟩
          case measure => simp [intOf]; omega
    · have hj2 : j = 2 := by omega
      have HF : Hid (accU a b j = mergeL a b) := by show _ = _; rw [hj2]; rfl
      clear hj2
      go_wp2_with fail
      go_ret
      exact ⟨_, rfl, by rw [← HF.out]; exact hO, hB⟩
end Go.Proofs.YtngigmpaabmngaaGreatDoor

namespace Go.Proofs.YtngigmpaabmngaaGreatDoor
open Go.RowKit Go.Lib Go.Shelf

set_option maxHeartbeats 1000000 in
theorem rvalid_any (lo hi : Int) (w : World) :
    Calls Tryz.prog 89 #[.agg #[.int .i64 lo, .int .i64 hi]] w fun e w' => e = .returned (.bool (pvalid lo hi)) ∧ Below w.heap.size w w' := by
  go_enter Tryz.func89, Tryz.ntmps89
  go_wp2
  all_goals go_ret
  all_goals refine ⟨congrArg (fun b => Ending.returned (.bool b)) ?_, below_alloc _ _⟩
  all_goals (simp [pvalid, *]; try omega)

/-- What was there before the call is clear of a row of the call's own. -/
theorem Sl.clearOf {P : Program} {α : Type} {E : El P α} {w0 w : World} {G : Nat → Prop} {v u : Value} {ys : List α} (hu : Sl E w0 G u ys) (hb : Below w0.heap.size w0 w) (hlt : ∀ k, v.ownBlock = some k → w0.heap.size ≤ k) : Sl E w (fun k => some k = v.ownBlock) u ys :=
  ((hu.old (Nat.le_refl _)).below hb).mono (fun k _ hk => hlt k hk.symm)

end Go.Proofs.YtngigmpaabmngaaGreatDoor

namespace Go.Proofs.YtngigmpaabmngaaGreatDoor
open Go.RowKit Go.Lib Go.Shelf

theorem bs_any (v : Value) (zs : List Int) (x : Int) (w : World) (hr : Reads w 1 v zs.length (numCells zs)) (hs : zs.Pairwise (· ≤ ·)) (hbig : zs.length ≤ 1000000000) :
    Calls Tryz.prog 34 #[v, .int .i64 x] w fun e w' => e = .returned (.tuple #[.int .i64 (zs.countP (· < x) : Nat), .bool (zs.contains x)]) ∧ ∃ q, w' = w.drewN q := by
  obtain ⟨_, _, a, c, rfl, _, hp⟩ := hr
  rcases Nat.eq_zero_or_pos zs.length with hz | hz
  · have : zs = [] := List.eq_nil_of_length_eq_zero hz
    subst this
    refine (sh_slices_BinarySearch_int_empty a c x w).mono ?_
    rintro e w' ⟨rfl, rfl⟩
    exact ⟨rfl, 0, rfl⟩
  · obtain ⟨b, o, rfl, hc⟩ := hp hz
    have := sh_slices_BinarySearch_int b o zs.length c zs x w (Nat.le_refl _) (by omega) (fun j hj => by
      rw [hc j _ (numCells_at zs j _ (List.getElem?_eq_getElem hj))]; simp [List.getD, List.getElem?_eq_getElem hj]) (by rw [List.take_length]; exact hs)
    rw [List.take_length] at this
    exact this

set_option maxHeartbeats 4000000 in
set_option maxRecDepth 100000 in
theorem splitAt_any (v u : Value) (l : List Tup) (ps : List Int) (w : World) (hv : Tups w v l) (hu : Sl intE w free u ps) (hsm : ∀ t ∈ l, t.vals.length ≤ 1000 ∧ t.lin.length ≤ 1000)
    (hsz : l.length * (ps.length + 1) ≤ 1000000000) (hps : ps.length ≤ 1000000000) :
    Calls Tryz.prog 13 #[v, u] w (RetOwn tupE w (splitAt l ps)) := by
  obtain ⟨a, c, rfl⟩ := hv.shape
  obtain ⟨a2, c2, rfl⟩ := hu.shape
  have HV := Lib.hid hv
  have HU := Lib.hid hu
  have HSM := Lib.hid hsm
  obtain ⟨n, hn⟩ : ∃ n, n = l.length := ⟨_, rfl⟩
  have HN := Lib.hid hn
  have h63 := hv.1
  rw [← hn] at h63 hsz HV ⊢
  clear hv hu hsm hn
  go_enter Tryz.func13, Tryz.ntmps13
  go_wp2_with fail
  refine (values_any _ a2 ps.length c2 rfl _).mono ?_
  rintro e w1 ⟨rfl, rfl⟩
  go_wp2_with fail
  have hb0 : Below w.heap.size w (w.alloc (.cells #[.slice a2 ps.length c2] 23)) := below_alloc _ _
  refine (sorted_any w.heap.size (.slice a2 ps.length c2) ps (by unfold maxLen; omega) (by omega) _ (by simp [go_sem]) (HU.out.ints.below hb0)).mono ?_
  rintro e w1 ⟨v1, rfl, hS, hb1⟩
  obtain ⟨q, hq⟩ : ∃ q, q = srt ps := ⟨_, rfl⟩
  have hql : q.length = ps.length := by rw [hq]; exact List.length_mergeSort _
  have hqs : q.Pairwise (· ≤ ·) := by rw [hq]; exact srt_sorted _
  rw [← hq, ← hql] at hS
  have HQ := Lib.hid hq
  have HQL := Lib.hid hql
  have HQS := Lib.hid hqs
  have hr1 : Reads w1 1 v1 q.length (numCells q) := own_reads hS
  obtain ⟨b1, c1, rfl⟩ := reads_shape hr1
  have HR1 := Lib.hid hr1
  have hB1 : Below w.heap.size w w1 := hb0.trans (hb1.mono hb0.size)
  clear hq hql hqs hS hb1 hb0 hr1
  go_wp2_with fail
  go_loopw [18, 5] (fun i o wr => ∃ k : Nat, k ≤ n ∧ i = .int .i64 k ∧ Own tupE wr w1.heap.size o (splitAt (l.take k) ps) ∧ Below w1.heap.size w1 wr) (fun i _ _ => n - (intOf i).toNat)
  case atStart => exact ⟨0, Nat.zero_le _, rfl, Own.nil _ _ _, Below.refl _ _⟩
  case round =>
    obtain ⟨k, hk, rfl, hO, hB⟩ := hrel
    obtain ⟨wo, rfl⟩ : ∃ wo : World, wo = wr := ⟨_, rfl⟩
    obtain ⟨oa, oc, rfl⟩ := hO.shape
    by_cases hlt : k < n
    · obtain ⟨x, hx⟩ := lget_some l k (by rw [← HN.out]; exact hlt)
      obtain ⟨b, o, a3, n3, e3, m3, rfl, hv1, hu1, p0, p1, p2, p3⟩ := tups_at HV.out hx
      replace p0 := cell_keep hB (cell_keep hB1 p0)
      replace p1 := cell_keep hB (cell_keep hB1 p1)
      replace p2 := cell_keep hB (cell_keep hB1 p2)
      replace p3 := cell_keep hB (cell_keep hB1 p3)
      have HX := Lib.hid hx
      clear hx
      go_wp2_with fail
      refine (pvalid_any _ _ _).mono ?_
      rintro e w2 ⟨rfl, hb2⟩
      have hbx := box_kept (World.alloc_heap_new wo (.cells #[.slice a3 x.vals.length n3, .int .i64 x.lo, .int .i64 x.hi, .slice e3 x.lin.length m3] 52)) hb2
      have hB2 : Below wo.heap.size wo w2 := below_alloc2' hb2
      have hz2 : wo.heap.size < w2.heap.size := (Array.getElem?_eq_some_iff.1 hbx).1
      have hO2 := hO.below hB2
      have hne2 : ∀ g, (Value.slice oa (splitAt (l.take k) ps).length oc).ownBlock = some g → g < wo.heap.size := fun g hg => (hO.lt g hg).2
      have hB2' : Below w1.heap.size w1 w2 := below_keep hB hB2
      clear hb2 p0 p1 p2 p3 hO hB2
      obtain ⟨⟨p0, p1, p2, p3⟩, f0, f1, f2, f3⟩ := box_four hbx
      have HBX := Lib.hid hbx
      clear hbx
      cases hval : pvalid x.lo x.hi
      · have HT : Hid (splitAt (l.take (k + 1)) ps = splitAt (l.take k) ps) := by show _ = _; rw [splitAt_snoc l ps k x HX.out, splitOne, hval]; simp
        clear hval
        go_wp2_with fail
        go_roundw
        case rel => exact ⟨k + 1, by omega, by go_num, by rw [HT.out]; exact hO2, hB2'⟩
        case measure => simp [intOf]; omega
      · have hv' : 0 ≤ x.lo ∧ x.lo < x.hi ∧ x.hi ≤ 1099511627776 := by simpa [pvalid] using hval
        obtain ⟨hv1', hv2', hv3'⟩ := hv'
        obtain ⟨j0, hj0⟩ : ∃ j0, j0 = q.countP (· < x.lo + 1) := ⟨_, rfl⟩
        have hj0l : j0 ≤ q.length := by rw [hj0]; exact List.countP_le_length
        have HT : Hid (splitAt (l.take (k + 1)) ps = splitAt (l.take k) ps ++ cutAt x.vals x.lin x.hi x.lo (q.drop j0)) := by show _ = _; rw [splitAt_snoc l ps k x HX.out, splitOne, hval, if_pos rfl, ← HQ.out, ← hj0]
        clear hval
        go_wp2_with fail
        refine (bs_any (.slice b1 q.length c1) q (x.lo + 1) _ (HR1.out.below hB2') HQS.out (by rw [HQL.out]; exact hps)).mono ?_
        rw [← hj0]
        rintro e w3 ⟨rfl, q3, rfl⟩
        clear hj0
        have hRd : Reads w1 1 (.slice (b1.map fun x => x.add j0) (q.length - j0) (c1 - j0)) (q.length - j0) (numCells (q.drop j0)) := by
          have := HR1.out.drop1 j0 hj0l
          rwa [show (numCells q).drop j0 = numCells (q.drop j0) by simp [numCells]] at this
        have hqd : (q.drop j0).length = q.length - j0 := List.length_drop
        obtain ⟨nq, hnq⟩ : ∃ nq, nq = q.length - j0 := ⟨_, rfl⟩
        have hnqb : nq ≤ 1000000000 := by have := HQL.out; omega
        obtain ⟨qs, hqs⟩ : ∃ qs, qs = q.drop j0 := ⟨_, rfl⟩
        rw [← hqs] at HT hRd hqd
        rw [← hnq] at hRd hqd
        have hn0 : c1 = j0 → nq = 0 := fun e => by
          have h1 : q.length ≤ c1 := by obtain ⟨_, _, _, _, e, h, _⟩ := HR1.out; cases e; exact h
          omega
        obtain ⟨B1', C1', HQD, HRq, HN0⟩ : ∃ (B1' : Option Addr) (C1' : Nat), Hid (qs.length = nq) ∧ Hid (Reads w1 1 (.slice B1' nq C1') nq (numCells qs)) ∧ Hid (B1' = (if c1 = j0 then b1 else b1.map fun x => x.add j0) ∧ C1' = c1 - j0 ∧ nq = q.length - j0) := by
          by_cases hcj : c1 = j0
          · have h0 := hn0 hcj
            subst h0
            refine ⟨b1, c1 - j0, hqd, ?_, by rw [if_pos hcj], rfl, hnq⟩
            have : qs = [] := List.eq_nil_of_length_eq_zero hqd
            subst this
            exact ⟨rfl, by omega, _, _, rfl, by omega, fun h => absurd h (by omega)⟩
          · exact ⟨_, _, hqd, hRd, by rw [if_neg hcj], rfl, hnq⟩
        obtain ⟨hs1, hs2⟩ := HSM.out x (List.mem_of_getElem? HX.out)
        have hTl : ∀ acc t, acc ++ [t] = splitAt (l.take (k + 1)) ps → acc.length < 1000000000 := fun acc t h => by
          have := splitAt_take_length l ps (k + 1)
          rw [← HN.out, ← h, List.length_append] at this
          simp at this; omega
        have hTl' : ∀ acc r, acc ++ r = splitAt (l.take (k + 1)) ps → acc.length ≤ 1000000000 := fun acc r h => by
          have := splitAt_take_length l ps (k + 1)
          rw [← HN.out, ← h, List.length_append] at this
          omega
        obtain ⟨tgt, htgt⟩ : ∃ tgt, tgt = splitAt (l.take (k + 1)) ps := ⟨_, rfl⟩
        have HTG := Lib.hid htgt
        rw [← htgt] at HT hTl hTl'
        have HTL := Lib.hid hTl
        have HTL' := Lib.hid hTl'
        clear hqd hnq hqs hRd hn0 htgt hTl hTl'
        have hbs2 : w1.heap.size ≤ w2.heap.size := hB2'.size
        by_cases hcj : c1 = j0
        · have hBB : B1' = b1 := by have := HN0.out.1; rwa [if_pos hcj] at this
          have hNN := HN0.out.2.2
          subst hBB
          subst hcj
          have HNN := Lib.hid hNN
          clear hNN
          go_wp2_with fail
          rw [← HNN.out]
          go_loopw [40, 8, 5] (fun i f o w4 => ∃ (j : Nat) (fr : Int) (acc : List Tup), j ≤ nq ∧ i = .int .i64 j ∧ f = .int .i64 fr ∧ x.lo ≤ fr ∧ fr < x.hi ∧ Own tupE w4 w1.heap.size o acc ∧ Hid (acc ++ cutAt x.vals x.lin x.hi fr (qs.drop j) = tgt) ∧ w4.heap[wo.heap.size]? = some (.cells #[.slice a3 x.vals.length n3, .int .i64 x.lo, .int .i64 x.hi, .slice e3 x.lin.length m3] 52) ∧ Below w1.heap.size w1 w4 ∧ some wo.heap.size ≠ o.ownBlock) (fun i _ _ _ => nq - (intOf i).toNat)
          case atStart => exact ⟨0, x.lo, _, Nat.zero_le _, rfl, rfl, Int.le_refl _, hv2', hO2.drewN _, HT.out.symm, HBX.out, below_drewN hB2' _, fun h => by have := hne2 _ h.symm; omega⟩
          case round =>
            obtain ⟨j, fr, acc, hj, rfl, rfl, hf1, hf2, hO4, HACC, hbx, hB4, hne⟩ := hrel
            obtain ⟨ob, oc4, rfl⟩ := hO4.shape
            obtain ⟨⟨p0, p1, p2, p3⟩, f0, f1, f2, f3⟩ := box_four hbx
            have HBX4 := Lib.hid hbx
            clear hbx
            by_cases hlt4 : j < nq
            · obtain ⟨y, hy⟩ := lget_some qs j (by rw [HQD.out]; exact hlt4)
              obtain ⟨_, _, A, cA, eA, _, hcA⟩ := HRq.out
              obtain ⟨bA, oA, eB, hcB⟩ := hcA (by omega)
              injection eA with eA _ _
              subst eA eB
              have hat := cell_keep hB4 (hcB _ _ (numCells_at qs j y hy))
              have HCUT : Hid (cutAt x.vals x.lin x.hi fr (qs.drop j) = if x.hi ≤ y then [⟨x.vals, fr, x.hi, x.lin⟩] else if fr < y then ⟨x.vals, fr, y, x.lin⟩ :: cutAt x.vals x.lin x.hi y (qs.drop (j + 1)) else cutAt x.vals x.lin x.hi fr (qs.drop (j + 1))) := by rw [drop_get hy]; exact Lib.hid rfl
              clear hcA hcB hy
              by_cases hge : x.hi ≤ y
              · have HFIN : Hid (acc ++ [⟨x.vals, fr, x.hi, x.lin⟩] = tgt) := by show _ = _; rw [← HACC.out, HCUT.out, if_pos hge]
                have hlen := HTL.out _ _ HFIN.out
                go_wp2_with fail
                go_region_held3 (fun W => Below w1.heap.size w1 W ∧ W.cell? ⟨wo.heap.size, 0, none⟩ = some (.slice a3 x.vals.length n3) ∧ W.cell? ⟨wo.heap.size, 1, none⟩ = some (.int .i64 x.lo) ∧ W.cell? ⟨wo.heap.size, 2, none⟩ = some (.int .i64 x.hi) ∧ W.cell? ⟨wo.heap.size, 3, none⟩ = some (.slice e3 x.lin.length m3))
                  ((go_split_ands; refine ⟨?_, ?_, ?_, ?_, ?_⟩ <;> (first | assumption | exact Below.drew (by assumption) | exact cell_drew (by assumption) | exact below_keep (by assumption) (by assumption) | exact cell_keep (by assumption) (by assumption) | exact below_alloc_keep (by assumption) | exact cell_alloc (by assumption) | exact Below.trans (by assumption) (Pushed.below (by assumption)) | exact Pushed.cell (by assumption) hne (by assumption))))
                  (first
                    | (go_at_call 36; (with_reducible refine (tupleRow_any _ _ _ _ _ _ _ _ _ _ _ rfl rfl).mono ?_); rintro e wR ⟨rfl, hbR⟩)
                    | (go_at_call 35; refine (during_any _ _ ⟨x.vals, fr, x.hi, x.lin⟩ _ (hv1.below (below_keep (below_keep hB1 hB4.drew) hbR)).vals (hu1.below (below_keep (below_keep hB1 hB4.drew) hbR)).ints hs1 hs2).mono ?_; rintro e wD hN; obtain ⟨a4, c4, b4, d4, rfl, his⟩ := hN.cells; have hbD := hN.below; clear hN)
                    | (refine step_push rfl _ _ 24 rfl tupE Tryz.underlying24 w1.heap.size (.slice ob acc.length oc4) acc rfl ((hO4.drew.below hbR).below hbD) [⟨x.vals, fr, x.hi, x.lin⟩] #[.slice a4 x.vals.length c4, .int .i64 fr, .int .i64 x.hi, .slice b4 x.lin.length d4] (Els.one (tupE.mono his (fun k _ hk => Nat.lt_of_lt_of_le (hO4.drew.lt k hk.symm).2 hbR.size))) 1 1 rfl rfl (by decide) (by unfold maxLen; omega) (by show _ * 64 ≤ _; omega) (Nat.le_trans (Nat.le_trans hB4.drew.size hbR.size) hbD.size) ?_; intro g cap w5 hP hPa))
                go_split_ands
                go_wp2_with fail
                go_roundw
                case rel => exact ⟨k + 1, by omega, by go_num, by rw [← HTG.out, ← HFIN.out]; exact hP.own' (by simp), by assumption⟩
                case measure => simp [intOf]; omega
              · have hl := HTL'.out _ _ HACC.out
                by_cases hgt : fr < y
                · have HNX : Hid ((acc ++ [⟨x.vals, fr, y, x.lin⟩]) ++ cutAt x.vals x.lin x.hi y (qs.drop (j + 1)) = tgt) := by show _ = _; rw [← HACC.out, HCUT.out, if_neg hge, if_pos hgt, List.append_assoc]; rfl
                  go_wp2_with (first | (go_at_call 36; (with_reducible refine (tupleRow_any _ _ _ _ _ _ _ _ _ _ _ rfl rfl).mono ?_); rintro e wR ⟨rfl, hbR⟩) | (go_at_call 35; refine (during_any _ _ ⟨x.vals, fr, y, x.lin⟩ _ (hv1.below (below_keep (below_keep hB1 hB4) hbR)).vals (hu1.below (below_keep (below_keep hB1 hB4) hbR)).ints hs1 hs2).mono ?_; rintro e wD hN; obtain ⟨a4, c4, b4, d4, rfl, his⟩ := hN.cells; have hbD := hN.below; clear hN) | (at_builtin; (refine wpList_push rfl _ _ 24 rfl tupE Tryz.underlying24 w1.heap.size (.slice ob acc.length oc4) acc rfl ((hO4.below hbR).below hbD) [⟨x.vals, fr, y, x.lin⟩] #[.slice a4 x.vals.length c4, .int .i64 fr, .int .i64 y, .slice b4 x.lin.length d4] (Els.one (tupE.mono his (fun k _ hk => Nat.lt_of_lt_of_le (hO4.lt k hk.symm).2 hbR.size))) 1 1 rfl rfl (by decide) (by unfold maxLen; omega) (by show _ * 64 ≤ _; omega) (Nat.le_trans (Nat.le_trans hB4.size hbR.size) hbD.size) ?_; intro g cap w5 hP hPa)))
                  go_roundw
                  case rel => exact ⟨j + 1, y, _, by omega, by go_num, rfl, by omega, by omega, hP.own' (by simp), HNX, hP.block hne (box_kept (box_kept HBX4.out hbR) hbD), hB4.trans (((hbR.mono hB4.size).trans (hbD.mono (Nat.le_trans hB4.size hbR.size))).trans hP.below), hP.ne' hne (box_kept (box_kept HBX4.out hbR) hbD)⟩
                  case measure => simp [intOf]; omega
                · have HNX : Hid (acc ++ cutAt x.vals x.lin x.hi fr (qs.drop (j + 1)) = tgt) := by show _ = _; rw [← HACC.out, HCUT.out, if_neg hge, if_neg hgt]
                  go_wp2_with fail
                  go_roundw
                  case rel => exact ⟨j + 1, fr, _, by omega, by go_num, rfl, hf1, hf2, hO4, HNX, HBX4.out, hB4, hne⟩
                  case measure => simp [intOf]; omega
            · have HFIN : Hid (acc ++ [⟨x.vals, fr, x.hi, x.lin⟩] = tgt) := by show _ = _; rw [← HACC.out, List.drop_of_length_le (by rw [HQD.out]; omega)]; rfl
              have hlen := HTL.out _ _ HFIN.out
              go_wp2_with fail
              go_region_held3 (fun W => Below w1.heap.size w1 W ∧ W.cell? ⟨wo.heap.size, 0, none⟩ = some (.slice a3 x.vals.length n3) ∧ W.cell? ⟨wo.heap.size, 1, none⟩ = some (.int .i64 x.lo) ∧ W.cell? ⟨wo.heap.size, 2, none⟩ = some (.int .i64 x.hi) ∧ W.cell? ⟨wo.heap.size, 3, none⟩ = some (.slice e3 x.lin.length m3))
                ((go_split_ands; refine ⟨?_, ?_, ?_, ?_, ?_⟩ <;> (first | assumption | exact Below.drew (by assumption) | exact cell_drew (by assumption) | exact below_keep (by assumption) (by assumption) | exact cell_keep (by assumption) (by assumption) | exact below_alloc_keep (by assumption) | exact cell_alloc (by assumption) | exact Below.trans (by assumption) (Pushed.below (by assumption)) | exact Pushed.cell (by assumption) hne (by assumption))))
                (first
                  | (go_at_call 36; (with_reducible refine (tupleRow_any _ _ _ _ _ _ _ _ _ _ _ rfl rfl).mono ?_); rintro e wR ⟨rfl, hbR⟩)
                  | (go_at_call 35; refine (during_any _ _ ⟨x.vals, fr, x.hi, x.lin⟩ _ (hv1.below (below_keep (below_keep hB1 hB4.drew) hbR)).vals (hu1.below (below_keep (below_keep hB1 hB4.drew) hbR)).ints hs1 hs2).mono ?_; rintro e wD hN; obtain ⟨a4, c4, b4, d4, rfl, his⟩ := hN.cells; have hbD := hN.below; clear hN)
                  | (refine step_push rfl _ _ 24 rfl tupE Tryz.underlying24 w1.heap.size (.slice ob acc.length oc4) acc rfl ((hO4.drew.below hbR).below hbD) [⟨x.vals, fr, x.hi, x.lin⟩] #[.slice a4 x.vals.length c4, .int .i64 fr, .int .i64 x.hi, .slice b4 x.lin.length d4] (Els.one (tupE.mono his (fun k _ hk => Nat.lt_of_lt_of_le (hO4.drew.lt k hk.symm).2 hbR.size))) 1 1 rfl rfl (by decide) (by unfold maxLen; omega) (by show _ * 64 ≤ _; omega) (Nat.le_trans (Nat.le_trans hB4.drew.size hbR.size) hbD.size) ?_; intro g cap w5 hP hPa))
              go_split_ands
              go_wp2_with fail
              go_roundw
              case rel => exact ⟨k + 1, by omega, by go_num, by rw [← HTG.out, ← HFIN.out]; exact hP.own' (by simp), by assumption⟩
              case measure => simp [intOf]; omega
        · have hBB : B1' = b1.map fun x => x.add j0 := by have := HN0.out.1; rwa [if_neg hcj] at this
          have hNN := HN0.out.2.2
          have HBB := Lib.hid hBB
          have HNN := Lib.hid hNN
          clear hBB hNN
          go_wp2_with fail
          rw [← HBB.out, ← HNN.out]
          go_loopw [40, 8, 5] (fun i f o w4 => ∃ (j : Nat) (fr : Int) (acc : List Tup), j ≤ nq ∧ i = .int .i64 j ∧ f = .int .i64 fr ∧ x.lo ≤ fr ∧ fr < x.hi ∧ Own tupE w4 w1.heap.size o acc ∧ Hid (acc ++ cutAt x.vals x.lin x.hi fr (qs.drop j) = tgt) ∧ w4.heap[wo.heap.size]? = some (.cells #[.slice a3 x.vals.length n3, .int .i64 x.lo, .int .i64 x.hi, .slice e3 x.lin.length m3] 52) ∧ Below w1.heap.size w1 w4 ∧ some wo.heap.size ≠ o.ownBlock) (fun i _ _ _ => nq - (intOf i).toNat)
          case atStart => exact ⟨0, x.lo, _, Nat.zero_le _, rfl, rfl, Int.le_refl _, hv2', hO2.drewN _, HT.out.symm, HBX.out, below_drewN hB2' _, fun h => by have := hne2 _ h.symm; omega⟩
          case round =>
            obtain ⟨j, fr, acc, hj, rfl, rfl, hf1, hf2, hO4, HACC, hbx, hB4, hne⟩ := hrel
            obtain ⟨ob, oc4, rfl⟩ := hO4.shape
            obtain ⟨⟨p0, p1, p2, p3⟩, f0, f1, f2, f3⟩ := box_four hbx
            have HBX4 := Lib.hid hbx
            clear hbx
            by_cases hlt4 : j < nq
            · obtain ⟨y, hy⟩ := lget_some qs j (by rw [HQD.out]; exact hlt4)
              obtain ⟨_, _, A, cA, eA, _, hcA⟩ := HRq.out
              obtain ⟨bA, oA, eB, hcB⟩ := hcA (by omega)
              injection eA with eA _ _
              subst eA eB
              have hat := cell_keep hB4 (hcB _ _ (numCells_at qs j y hy))
              have HCUT : Hid (cutAt x.vals x.lin x.hi fr (qs.drop j) = if x.hi ≤ y then [⟨x.vals, fr, x.hi, x.lin⟩] else if fr < y then ⟨x.vals, fr, y, x.lin⟩ :: cutAt x.vals x.lin x.hi y (qs.drop (j + 1)) else cutAt x.vals x.lin x.hi fr (qs.drop (j + 1))) := by rw [drop_get hy]; exact Lib.hid rfl
              clear hcA hcB hy
              by_cases hge : x.hi ≤ y
              · have HFIN : Hid (acc ++ [⟨x.vals, fr, x.hi, x.lin⟩] = tgt) := by show _ = _; rw [← HACC.out, HCUT.out, if_pos hge]
                have hlen := HTL.out _ _ HFIN.out
                go_wp2_with fail
                go_region_held3 (fun W => Below w1.heap.size w1 W ∧ W.cell? ⟨wo.heap.size, 0, none⟩ = some (.slice a3 x.vals.length n3) ∧ W.cell? ⟨wo.heap.size, 1, none⟩ = some (.int .i64 x.lo) ∧ W.cell? ⟨wo.heap.size, 2, none⟩ = some (.int .i64 x.hi) ∧ W.cell? ⟨wo.heap.size, 3, none⟩ = some (.slice e3 x.lin.length m3))
                  ((go_split_ands; refine ⟨?_, ?_, ?_, ?_, ?_⟩ <;> (first | assumption | exact Below.drew (by assumption) | exact cell_drew (by assumption) | exact below_keep (by assumption) (by assumption) | exact cell_keep (by assumption) (by assumption) | exact below_alloc_keep (by assumption) | exact cell_alloc (by assumption) | exact Below.trans (by assumption) (Pushed.below (by assumption)) | exact Pushed.cell (by assumption) hne (by assumption))))
                  (first
                    | (go_at_call 36; (with_reducible refine (tupleRow_any _ _ _ _ _ _ _ _ _ _ _ rfl rfl).mono ?_); rintro e wR ⟨rfl, hbR⟩)
                    | (go_at_call 35; refine (during_any _ _ ⟨x.vals, fr, x.hi, x.lin⟩ _ (hv1.below (below_keep (below_keep hB1 hB4.drew) hbR)).vals (hu1.below (below_keep (below_keep hB1 hB4.drew) hbR)).ints hs1 hs2).mono ?_; rintro e wD hN; obtain ⟨a4, c4, b4, d4, rfl, his⟩ := hN.cells; have hbD := hN.below; clear hN)
                    | (refine step_push rfl _ _ 24 rfl tupE Tryz.underlying24 w1.heap.size (.slice ob acc.length oc4) acc rfl ((hO4.drew.below hbR).below hbD) [⟨x.vals, fr, x.hi, x.lin⟩] #[.slice a4 x.vals.length c4, .int .i64 fr, .int .i64 x.hi, .slice b4 x.lin.length d4] (Els.one (tupE.mono his (fun k _ hk => Nat.lt_of_lt_of_le (hO4.drew.lt k hk.symm).2 hbR.size))) 1 1 rfl rfl (by decide) (by unfold maxLen; omega) (by show _ * 64 ≤ _; omega) (Nat.le_trans (Nat.le_trans hB4.drew.size hbR.size) hbD.size) ?_; intro g cap w5 hP hPa))
                go_split_ands
                go_wp2_with fail
                go_roundw
                case rel => exact ⟨k + 1, by omega, by go_num, by rw [← HTG.out, ← HFIN.out]; exact hP.own' (by simp), by assumption⟩
                case measure => simp [intOf]; omega
              · have hl := HTL'.out _ _ HACC.out
                by_cases hgt : fr < y
                · have HNX : Hid ((acc ++ [⟨x.vals, fr, y, x.lin⟩]) ++ cutAt x.vals x.lin x.hi y (qs.drop (j + 1)) = tgt) := by show _ = _; rw [← HACC.out, HCUT.out, if_neg hge, if_pos hgt, List.append_assoc]; rfl
                  go_wp2_with (first | (go_at_call 36; (with_reducible refine (tupleRow_any _ _ _ _ _ _ _ _ _ _ _ rfl rfl).mono ?_); rintro e wR ⟨rfl, hbR⟩) | (go_at_call 35; refine (during_any _ _ ⟨x.vals, fr, y, x.lin⟩ _ (hv1.below (below_keep (below_keep hB1 hB4) hbR)).vals (hu1.below (below_keep (below_keep hB1 hB4) hbR)).ints hs1 hs2).mono ?_; rintro e wD hN; obtain ⟨a4, c4, b4, d4, rfl, his⟩ := hN.cells; have hbD := hN.below; clear hN) | (at_builtin; (refine wpList_push rfl _ _ 24 rfl tupE Tryz.underlying24 w1.heap.size (.slice ob acc.length oc4) acc rfl ((hO4.below hbR).below hbD) [⟨x.vals, fr, y, x.lin⟩] #[.slice a4 x.vals.length c4, .int .i64 fr, .int .i64 y, .slice b4 x.lin.length d4] (Els.one (tupE.mono his (fun k _ hk => Nat.lt_of_lt_of_le (hO4.lt k hk.symm).2 hbR.size))) 1 1 rfl rfl (by decide) (by unfold maxLen; omega) (by show _ * 64 ≤ _; omega) (Nat.le_trans (Nat.le_trans hB4.size hbR.size) hbD.size) ?_; intro g cap w5 hP hPa)))
                  go_roundw
                  case rel => exact ⟨j + 1, y, _, by omega, by go_num, rfl, by omega, by omega, hP.own' (by simp), HNX, hP.block hne (box_kept (box_kept HBX4.out hbR) hbD), hB4.trans (((hbR.mono hB4.size).trans (hbD.mono (Nat.le_trans hB4.size hbR.size))).trans hP.below), hP.ne' hne (box_kept (box_kept HBX4.out hbR) hbD)⟩
                  case measure => simp [intOf]; omega
                · have HNX : Hid (acc ++ cutAt x.vals x.lin x.hi fr (qs.drop (j + 1)) = tgt) := by show _ = _; rw [← HACC.out, HCUT.out, if_neg hge, if_neg hgt]
                  go_wp2_with fail
                  go_roundw
                  case rel => exact ⟨j + 1, fr, _, by omega, by go_num, rfl, hf1, hf2, hO4, HNX, HBX4.out, hB4, hne⟩
                  case measure => simp [intOf]; omega
            · have HFIN : Hid (acc ++ [⟨x.vals, fr, x.hi, x.lin⟩] = tgt) := by show _ = _; rw [← HACC.out, List.drop_of_length_le (by rw [HQD.out]; omega)]; rfl
              have hlen := HTL.out _ _ HFIN.out
              go_wp2_with fail
              go_region_held3 (fun W => Below w1.heap.size w1 W ∧ W.cell? ⟨wo.heap.size, 0, none⟩ = some (.slice a3 x.vals.length n3) ∧ W.cell? ⟨wo.heap.size, 1, none⟩ = some (.int .i64 x.lo) ∧ W.cell? ⟨wo.heap.size, 2, none⟩ = some (.int .i64 x.hi) ∧ W.cell? ⟨wo.heap.size, 3, none⟩ = some (.slice e3 x.lin.length m3))
                ((go_split_ands; refine ⟨?_, ?_, ?_, ?_, ?_⟩ <;> (first | assumption | exact Below.drew (by assumption) | exact cell_drew (by assumption) | exact below_keep (by assumption) (by assumption) | exact cell_keep (by assumption) (by assumption) | exact below_alloc_keep (by assumption) | exact cell_alloc (by assumption) | exact Below.trans (by assumption) (Pushed.below (by assumption)) | exact Pushed.cell (by assumption) hne (by assumption))))
                (first
                  | (go_at_call 36; (with_reducible refine (tupleRow_any _ _ _ _ _ _ _ _ _ _ _ rfl rfl).mono ?_); rintro e wR ⟨rfl, hbR⟩)
                  | (go_at_call 35; refine (during_any _ _ ⟨x.vals, fr, x.hi, x.lin⟩ _ (hv1.below (below_keep (below_keep hB1 hB4.drew) hbR)).vals (hu1.below (below_keep (below_keep hB1 hB4.drew) hbR)).ints hs1 hs2).mono ?_; rintro e wD hN; obtain ⟨a4, c4, b4, d4, rfl, his⟩ := hN.cells; have hbD := hN.below; clear hN)
                  | (refine step_push rfl _ _ 24 rfl tupE Tryz.underlying24 w1.heap.size (.slice ob acc.length oc4) acc rfl ((hO4.drew.below hbR).below hbD) [⟨x.vals, fr, x.hi, x.lin⟩] #[.slice a4 x.vals.length c4, .int .i64 fr, .int .i64 x.hi, .slice b4 x.lin.length d4] (Els.one (tupE.mono his (fun k _ hk => Nat.lt_of_lt_of_le (hO4.drew.lt k hk.symm).2 hbR.size))) 1 1 rfl rfl (by decide) (by unfold maxLen; omega) (by show _ * 64 ≤ _; omega) (Nat.le_trans (Nat.le_trans hB4.drew.size hbR.size) hbD.size) ?_; intro g cap w5 hP hPa))
              go_split_ands
              go_wp2_with fail
              go_roundw
              case rel => exact ⟨k + 1, by omega, by go_num, by rw [← HTG.out, ← HFIN.out]; exact hP.own' (by simp), by assumption⟩
              case measure => simp [intOf]; omega
    · have HT : Hid (splitAt (l.take k) ps = splitAt l ps) := by show _ = _; rw [List.take_of_length_le (by rw [← HN.out]; omega)]
      go_wp2_with fail
      go_ret
      exact ⟨_, rfl, by rw [← HT.out]; exact hO.mono hB1.size, hB1.trans (hB.mono hB1.size)⟩
end Go.Proofs.YtngigmpaabmngaaGreatDoor

namespace Go.Proofs.YtngigmpaabmngaaGreatDoor
open Go.Shelf Go.RowKit Go.Lib Go.Sort
def sh_laysNm220_ren : Go.Shelf.Ren := ⟨fun | 20 => 66 | n => n, fun | 22 => 23 | 3 => 3 | 4 => 4 | 0 => 0 | n => n, fun | n => n⟩
theorem sh_laysNm220 : Lays2.n20 Tryz.prog sh_laysNm220_ren := {
  mixed := by kernel_rfl
  f20 := Tryz.func66.trans (congrArg some (by kernel_rfl))
  t0 := Tryz.underlying0
  a0 := Tryz.isAgg0
  z0 := Tryz.sizeOf0
  v0 := Tryz.zeroValue0
  t3 := Tryz.underlying3
  a3 := Tryz.isAgg3
  z3 := Tryz.sizeOf3
  v3 := Tryz.zeroValue3
  t4 := Tryz.underlying4
  a4 := Tryz.isAgg4
  z4 := Tryz.sizeOf4
  v4 := Tryz.zeroValue4
  t22 := Tryz.underlying23
  a22 := Tryz.isAgg23
  z22 := Tryz.sizeOf23
  v22 := Tryz.zeroValue23
  i3 := by kernel_rfl }
theorem sh_slices_Compact_int (blk off cap : Nat) (zs : List Int) (w : World) (hH : Holds (Value.int .i64) w blk off zs.toArray) (hsz : zs.length ≤ 9223372036854775807) (hcap : zs.length ≤ cap) :
    Calls Tryz.prog 66 #[.slice (some ⟨blk, off, none⟩) zs.length cap] w fun e w' => e = .returned (.slice (some ⟨blk, off, none⟩) (Lib.compact zs).length cap) ∧ ∃ q, w' = putRow (Value.int .i64) (Sort.ahead w q) blk off (Lib.compact zs ++ List.replicate (zs.length - (Lib.compact zs).length) 0).toArray := Any.slices_Compact_int sh_laysNm220 blk off cap zs w hH hsz hcap
theorem sh_slices_Compact_int_empty (a : Option Addr) (cap : Nat) (w : World) :
    Calls Tryz.prog 66 #[.slice a 0 cap] w fun e w' => e = .returned (.slice a 0 cap) ∧ w' = w := Any.slices_Compact_int_empty sh_laysNm220 a cap w
theorem sh_slices_Compact_int_cells (b off n c : Nat) (zs : List Int) (w : World) (hz : n ≤ zs.length) (hbig : n ≤ 9223372036854775807) (hcap : n ≤ c) (hc : ∀ j, j < zs.length → w.cell? ⟨b, off + j, none⟩ = some (.int .i64 (zs.getD j 0))) (hf : ∀ j, j < n → w.frozen? ⟨b, off + j, none⟩ = false) :
    Calls Tryz.prog 66 #[.slice (some ⟨b, off, none⟩) n c] w fun e w' => e = .returned (.slice (some ⟨b, off, none⟩) (Lib.compact (zs.take n)).length c) ∧ ∃ q, w' = (w.drewN q).setCells b off ((Lib.compact (zs.take n) ++ List.replicate (n - (Lib.compact (zs.take n)).length) 0).map (Value.int .i64)) := Any.slices_Compact_int_cells sh_laysNm220 b off n c zs w hz hbig hcap hc hf
end Go.Proofs.YtngigmpaabmngaaGreatDoor

namespace Go.Proofs.YtngigmpaabmngaaGreatDoor
open Go.RowKit Go.Lib Go.Shelf Go.Sort

theorem sort_own (v : Value) (l : List Int) (B : Nat) (w : World) (h : Own intE w B v l) (hB : B ≤ w.heap.size) (hs : l.length ≤ 1000000000) :
    Calls Tryz.prog 65 #[v] w fun e w' => e = .returned (.tuple #[]) ∧ Own intE w' B v (srt l) ∧ Below B w w' := by
  have ho := h.ints
  rcases ho.2 with ⟨rfl, hz⟩ | ⟨gb, cap, cur, rfl, hbase, hgb, r1, r2, r3, r4⟩
  · have hzs : l = [] := List.eq_nil_of_length_eq_zero hz
    subst hzs
    refine (sh_slices_Sort_int_none none 0 w).mono ?_
    rintro e w' ⟨rfl, rfl⟩
    exact ⟨rfl, by simpa [srt] using h, Below.refl _ _⟩
  · have hH : Holds (Value.int .i64) w gb 0 l.toArray := holds_of_block_i hgb (by simpa [numCells] using r4)
    have hgl : gb < w.heap.size := (Array.getElem?_eq_some_iff.1 hgb).1
    refine (sh_slices_Sort_int gb 0 cap l w hH hgl (by omega)).mono ?_
    rintro e w' ⟨rfl, nn, os, rfl⟩
    have hlen : (srt l).length = l.length := List.length_mergeSort _
    refine ⟨rfl, Own.of_ints ?_, (Below.refl _ _).grown (grownBy_sorted_i _) hB (fun j hj => by cases hj; exact hbase)⟩
    have := ownsRow_sorted_i (e := 3) (n := nn) (os := os) (ts := srt l) hlen hbase hgb r1 r2 r3
    rw [hlen]; exact this
theorem compact_own (v : Value) (l : List Int) (B : Nat) (w : World) (h : Own intE w B v l) (hB : B ≤ w.heap.size) (hs : l.length ≤ 1000000000) :
    Calls Tryz.prog 66 #[v] w fun e w' => ∃ v', e = .returned v' ∧ Own intE w' B v' (Lib.compact l) ∧ Below B w w' := by
  have ho := h.ints
  rcases ho.2 with ⟨rfl, hz⟩ | ⟨gb, cap, cur, rfl, hbase, hgb, r1, r2, r3, r4⟩
  · have hzs : l = [] := List.eq_nil_of_length_eq_zero hz
    subst hzs
    refine (sh_slices_Compact_int_empty none 0 w).mono ?_
    rintro e w' ⟨rfl, rfl⟩
    exact ⟨_, rfl, h, Below.refl _ _⟩
  · have hH : Holds (Value.int .i64) w gb 0 l.toArray := holds_of_block_i hgb (by simpa [numCells] using r4)
    refine (sh_slices_Compact_int gb 0 cap l w hH (by omega) r1).mono ?_
    rintro e w' ⟨rfl, nn, rfl⟩
    have hle := Lib.compact_length_le l
    have hlen : (Lib.compact l ++ List.replicate (l.length - (Lib.compact l).length) 0).length = l.length := by simp; omega
    have ho' := ownsRow_sorted_i (e := 3) (n := nn) (os := #[]) hlen hbase hgb r1 r2 r3
    have hg : w.grownBy (grow (putRow (Value.int .i64) (Sort.ahead w nn) gb 0 (Lib.compact l ++ List.replicate (l.length - (Lib.compact l).length) 0).toArray) #[]) (some gb) := grownBy_sorted_i _
    rw [grow_empty] at ho' hg
    refine ⟨_, rfl, Own.of_ints ?_, (Below.refl _ _).grown hg hB (fun j hj => by cases hj; exact hbase)⟩
    rcases ho'.2 with ⟨e, _⟩ | ⟨g, cap', cur', e, q1, q2, q3, q4, q5, q6⟩
    · cases e
    · cases e
      refine ⟨by simp [numCells], .inr ⟨_, _, cur', rfl, q1, q2, by omega, q4, q5, ?_⟩⟩
      have h7 := congrArg (List.take (Lib.compact l).length) q6
      rw [List.take_take, Nat.mul_one, Nat.min_eq_left hle, List.map_append, List.take_left' (by simp)] at h7
      rw [Nat.mul_one]; exact h7

set_option maxHeartbeats 4000000 in
set_option maxRecDepth 100000 in
theorem bnds_any (v : Value) (l : List Tup) (w : World) (hv : Tups w v l) (hsz : l.length ≤ 100000000) :
    Calls Tryz.prog 100 #[v] w (RetOwn intE w (bnds l)) := by
  obtain ⟨a, c, rfl⟩ := hv.shape
  have HV := Lib.hid hv
  obtain ⟨n, hn⟩ : ∃ n, n = l.length := ⟨_, rfl⟩
  have HN := Lib.hid hn
  rw [← hn] at hsz HV ⊢
  clear hv hn
  go_enter Tryz.func100, Tryz.ntmps100
  go_wp2_with fail
  go_loopw [8, 3] (fun i o wr => ∃ k : Nat, k ≤ n ∧ i = .int .i64 k ∧ Own intE wr w.heap.size o (allEnds (l.take k)) ∧ Below w.heap.size w wr) (fun i _ _ => n - (intOf i).toNat)
  case atStart => exact ⟨0, Nat.zero_le _, rfl, Own.nil _ _ _, Below.refl _ _⟩
  case round =>
    obtain ⟨k, hk, rfl, hO, hB⟩ := hrel
    have hle : (allEnds (l.take k)).length ≤ n * 2 := by rw [HN.out]; exact allEnds_take_length l k
    by_cases hlt : k < n
    · obtain ⟨x, hx⟩ := lget_some l k (by rw [← HN.out]; exact hlt)
      obtain ⟨b, o, a3, n3, e3, m3, rfl, hv1, hu1, p0, p1, p2, p3⟩ := tups_at HV.out hx
      replace p0 := cell_keep hB p0
      replace p1 := cell_keep hB p1
      replace p2 := cell_keep hB p2
      replace p3 := cell_keep hB p3
      have HT : Hid (allEnds (l.take (k + 1)) = allEnds (l.take k) ++ ends x) := allEnds_snoc l k x hx
      obtain ⟨acc, hacc⟩ : ∃ acc, acc = allEnds (l.take k) := ⟨_, rfl⟩
      rw [← hacc] at HT hO hle
      obtain ⟨oa, oc, rfl⟩ := hO.shape
      clear hx hacc
      go_wp2_with fail
      refine (pvalid_any _ _ _).mono ?_
      rintro e w2 ⟨rfl, hb2⟩
      have hbx := box_kept (World.alloc_heap_new wr (.cells #[.slice a3 x.vals.length n3, .int .i64 x.lo, .int .i64 x.hi, .slice e3 x.lin.length m3] 52)) hb2
      have hB2 : Below wr.heap.size wr w2 := below_alloc2' hb2
      have hO2 := hO.below hB2
      have hB2' : Below w.heap.size w w2 := below_keep hB hB2
      clear hb2 p0 p1 p2 p3 hO hB2
      obtain ⟨⟨p0, p1, p2, p3⟩, f0, f1, f2, f3⟩ := box_four hbx
      clear hbx
      cases hval : pvalid x.lo x.hi
      · have HT' : Hid (allEnds (l.take (k + 1)) = acc) := by show _ = _; rw [HT.out, ends, hval]; simp
        clear hval
        go_wp2_with fail
        go_roundw
        case rel => exact ⟨k + 1, by omega, by go_num, by rw [HT'.out]; exact hO2, hB2'⟩
        case measure => simp [intOf]; omega
      · have HT' : Hid (allEnds (l.take (k + 1)) = acc ++ [x.lo, x.hi]) := by show _ = _; rw [HT.out, ends, hval, if_pos rfl]
        clear hval
        go_wp2_with (at_builtin; refine wpList_push rfl _ _ 23 rfl intE Tryz.underlying23 w.heap.size (.slice oa acc.length oc) acc rfl hO2 [x.lo, x.hi] #[.int .i64 x.lo, .int .i64 x.hi] (Els.cons (cs := [.int .i64 x.lo]) rfl (Els.one (cs := [.int .i64 x.hi]) rfl)) 2 2 rfl rfl (by decide) (by unfold maxLen; omega) (by show _ * 8 ≤ _; omega) hB2'.size ?_; intro g cap w5 hP hPa)
        go_roundw
        case rel => exact ⟨k + 1, by omega, by go_num, by rw [HT'.out]; exact hP.own' (by simp), hB2'.trans hP.below⟩
        case measure => simp [intOf]; omega
    · have HT : Hid (allEnds (l.take k) = allEnds l) := by show _ = _; rw [List.take_of_length_le (by rw [← HN.out]; omega)]
      rw [HT.out] at hO hle
      obtain ⟨oa, oc, rfl⟩ := hO.shape
      go_wp2_with fail
      refine (sort_own _ _ w.heap.size _ hO hB.size (by omega)).mono ?_
      rintro e w2 ⟨rfl, hO2, hb2⟩
      go_wp2_with fail
      have hl2 : (srt (allEnds l)).length = (allEnds l).length := List.length_mergeSort _
      refine (compact_own _ _ w.heap.size _ hO2 (Nat.le_trans hB.size hb2.size) (by omega)).mono ?_
      rintro e w3 ⟨v3, rfl, hO3, hb3⟩
      clear hl2
      obtain ⟨a4, c4, rfl⟩ := hO3.shape
      go_wp2_with fail
      go_ret
      exact ⟨_, rfl, hO3, (hB.trans hb2).trans hb3⟩

set_option maxHeartbeats 4000000 in
set_option maxRecDepth 100000 in
theorem refBnd_any (v : Value) (l : List Tup) (w : World) (hv : Tups w v l) (hsz : l.length ≤ 100000000) :
    Calls Tryz.prog 47 #[v] w (RetOwn intE w (refBnd l)) := by
  obtain ⟨a, c, rfl⟩ := hv.shape
  have HV := Lib.hid hv
  obtain ⟨n, hn⟩ : ∃ n, n = l.length := ⟨_, rfl⟩
  have HN := Lib.hid hn
  rw [← hn] at hsz HV ⊢
  clear hv hn
  go_enter Tryz.func47, Tryz.ntmps47
  go_wp2_with fail
  go_loopw [8, 3] (fun i o wr => ∃ k : Nat, k ≤ n ∧ i = .int .i64 k ∧ Own intE wr w.heap.size o (refBnd (l.take k)) ∧ Below w.heap.size w wr) (fun i _ _ => n - (intOf i).toNat)
  case atStart => exact ⟨0, Nat.zero_le _, rfl, Own.nil _ _ _, Below.refl _ _⟩
  case round =>
    obtain ⟨k, hk, rfl, hO, hB⟩ := hrel
    have hle : (refBnd (l.take k)).length ≤ n * 2 := Nat.le_trans (refBnd_length _) (Nat.mul_le_mul_right _ (by rw [List.length_take, HN.out]; omega))
    by_cases hlt : k < n
    · obtain ⟨x, hx⟩ := lget_some l k (by rw [← HN.out]; exact hlt)
      obtain ⟨b, o, a3, n3, e3, m3, rfl, hv1, hu1, p0, p1, p2, p3⟩ := tups_at HV.out hx
      replace p0 := cell_keep hB p0
      replace p1 := cell_keep hB p1
      replace p2 := cell_keep hB p2
      replace p3 := cell_keep hB p3
      have HT : Hid (refBnd (l.take (k + 1)) = if pvalid x.lo x.hi = true then mergeL (refBnd (l.take k)) [x.lo, x.hi] else refBnd (l.take k)) := refBnd_snoc l k x hx
      obtain ⟨acc, hacc⟩ : ∃ acc, acc = refBnd (l.take k) := ⟨_, rfl⟩
      rw [← hacc] at HT hO hle
      obtain ⟨oa, oc, rfl⟩ := hO.shape
      clear hx hacc
      go_wp2_with fail
      refine (rvalid_any _ _ _).mono ?_
      rintro e w2 ⟨rfl, hb2⟩
      have hbx := box_kept (World.alloc_heap_new wr (.cells #[.slice a3 x.vals.length n3, .int .i64 x.lo, .int .i64 x.hi, .slice e3 x.lin.length m3] 52)) hb2
      have hB2 : Below wr.heap.size wr w2 := below_alloc2' hb2
      have hO2 := hO.below hB2
      have hB2' : Below w.heap.size w w2 := below_keep hB hB2
      clear hb2 p0 p1 p2 p3 hO hB2
      obtain ⟨⟨p0, p1, p2, p3⟩, f0, f1, f2, f3⟩ := box_four hbx
      clear hbx
      cases hval : pvalid x.lo x.hi
      · have HT' : Hid (refBnd (l.take (k + 1)) = acc) := by show _ = _; rw [HT.out, hval]; simp
        clear hval
        go_wp2_with fail
        go_roundw
        case rel => exact ⟨k + 1, by omega, by go_num, by rw [HT'.out]; exact hO2, hB2'⟩
        case measure => simp [intOf]; omega
      · have HT' : Hid (refBnd (l.take (k + 1)) = mergeL acc [x.lo, x.hi]) := by show _ = _; rw [HT.out, hval, if_pos rfl]
        clear hval
        go_wp2_with fail
        have hS2 : Sl intE (w2.alloc (.cells #[.int .i64 x.lo, .int .i64 x.hi] 3)) free (.slice (some ⟨w2.heap.size, 0, none⟩) 2 2) [x.lo, x.hi] := Sl.of_block (World.alloc_heap_new w2 _) (Els.cons (cs := [.int .i64 x.lo]) rfl (Els.one (cs := [.int .i64 x.hi]) rfl)) id rfl (by decide) (by decide)
        refine (merge_any _ _ acc [x.lo, x.hi] _ (hO2.sl.below (below_alloc _ _)) hS2 (by simp; omega)).mono ?_
        rintro e w3 ⟨v3, rfl, hO3, hb3⟩
        obtain ⟨a4, c4, rfl⟩ := hO3.shape
        have hb3' : Below w.heap.size w w3 := below_keep (below_alloc_keep hB2') hb3
        go_wp2_with fail
        go_roundw
        case rel => exact ⟨k + 1, by omega, by go_num, by rw [HT'.out]; exact hO3.mono (by simp; have := hB2'.size; omega), hb3'⟩
        case measure => simp [intOf]; omega
    · have HT : Hid (refBnd (l.take k) = refBnd l) := by show _ = _; rw [List.take_of_length_le (by rw [← HN.out]; omega)]
      rw [HT.out] at hO hle
      obtain ⟨oa, oc, rfl⟩ := hO.shape
      go_wp2_with fail
      go_ret
      exact ⟨_, rfl, hO, hB⟩

end Go.Proofs.YtngigmpaabmngaaGreatDoor

namespace Go.Proofs.YtngigmpaabmngaaGreatDoor
open Go.RowKit Go.Lib

theorem merge_srt (a b : List Int) : Lib.compact (srt (a ++ b)) = mergeL a b :=
  asc_unique (compact_asc (srt_sorted _)) (mergeL_asc a b) fun x => by rw [compact_mem, srt_mem, mergeL_mem, List.mem_append]
set_option maxHeartbeats 4000000 in
set_option maxRecDepth 100000 in
theorem bagMerge_any (v u : Value) (a b : List Int) (w : World) (hv : Sl intE w free v a) (hu : Sl intE w free u b) (hs : a.length + b.length ≤ 1000000) :
    Calls Tryz.prog 27 #[v, u] w (RetOwn intE w (mergeL a b)) := by
  obtain ⟨a1, c1, rfl⟩ := hv.shape
  obtain ⟨a2, c2, rfl⟩ := hu.shape
  have hb0 := below_alloc w (.cells #[.slice a1 a.length c1, .slice a2 b.length c2] 23)
  obtain ⟨q0, q1, _, _⟩ := box_two (World.alloc_heap_new w (.cells #[.slice a1 a.length c1, .slice a2 b.length c2] 23))
  have HC := Lib.hid (concatI_any w.heap.size _ _ a b _ q0 q1 (hv.below hb0) (hu.below hb0) hs)
  have HB0 := Lib.hid hb0
  have hl : (a ++ b).length ≤ 1000000 := by rw [List.length_append]; exact hs
  have HM := Lib.hid (merge_srt a b)
  generalize a ++ b = l at HC HM hl
  generalize a.length = n1 at HC HB0 ⊢
  generalize b.length = n2 at HC HB0 ⊢
  clear hv hu hb0 q0 q1 hs
  go_enter Tryz.func27, Tryz.ntmps27
  go_wp2_with fail
  refine HC.out.mono ?_
  rintro _ w2 ⟨v2, rfl, hO2, hb2⟩
  obtain ⟨a4, c4, rfl⟩ := hO2.shape
  have HS := Lib.hid (sort_own _ l _ w2 hO2 (by simpa using hb2.size) (by omega))
  have HB2 := Lib.hid (below_keep HB0.out hb2)
  have hz2 := hb2.size
  rw [World.size_alloc] at hz2
  clear hO2 hb2 HC HB0
  generalize l.length = n at HS ⊢
  go_wp2_with fail
  refine HS.out.mono ?_
  rintro _ w3 ⟨rfl, hO3, hb3⟩
  have hl3 : (srt l).length = l.length := List.length_mergeSort _
  have HB3 := Lib.hid (HB2.out.trans (hb3.mono (by simp)))
  have HK := Lib.hid (compact_own _ (srt l) w.heap.size w3 (hO3.mono (by simp)) HB3.out.size (by omega))
  rw [HM.out] at HK
  clear hO3 hb3 hl3 HS
  go_wp2_with fail
  refine HK.out.mono ?_
  rintro _ w4 ⟨v4, rfl, hO4, hb4⟩
  obtain ⟨a5, c5, rfl⟩ := hO4.shape
  have HO4 := Lib.hid hO4
  have HB4 := Lib.hid (HB3.out.trans hb4)
  clear hO4 hb4 HK
  generalize (mergeL a b).length = m at HO4 ⊢
  go_wp2_with fail
  go_ret
  exact ⟨_, rfl, HO4.out, HB4.out⟩
end Go.Proofs.YtngigmpaabmngaaGreatDoor

namespace Go.Proofs.YtngigmpaabmngaaGreatDoor
open Go.RowKit Go.Lib

/-- Since the world wS, in which the row was oS: only that row's block was changed, and the row is there or in a new block. -/
structure Since (oS : Value) (wS : World) (o : Value) (w : World) : Prop where
  kept : Kept (fun k => some k = oS.ownBlock) wS w
  place : ∀ k, o.ownBlock = some k → oS.ownBlock = some k ∨ wS.heap.size ≤ k
theorem Since.refl (o : Value) (w : World) : Since o w o w := ⟨⟨Nat.le_refl _, fun _ _ _ => rfl⟩, fun _ h => .inl h⟩
theorem Since.below {oS o : Value} {wS w w' : World} (h : Since oS wS o w) (hb : Below w.heap.size w w') : Since oS wS o w' :=
  ⟨⟨Nat.le_trans h.kept.1 hb.size, fun k h1 h2 => (hb.block k (Nat.lt_of_lt_of_le h1 h.kept.1)).trans (h.kept.2 k h1 h2)⟩, h.place⟩
theorem Since.trans {oS oT o : Value} {wS wT w : World} (h : Since oS wS oT wT) (k : Since oT wT o w) : Since oS wS o w := by
  refine ⟨⟨Nat.le_trans h.kept.1 k.kept.1, fun j h1 h2 => (k.kept.2 j (Nat.lt_of_lt_of_le h1 h.kept.1) fun e => ?_).trans (h.kept.2 j h1 h2)⟩, fun j hj => ?_⟩
  · rcases h.place j e.symm with h3 | h3
    · exact h2 h3.symm
    · omega
  · rcases k.place j hj with h3 | h3
    · exact h.place j h3
    · exact .inr (Nat.le_trans h.kept.1 h3)
theorem Since.push {P : Program} {α : Type} {E : El P α} {B g cap n : Nat} {l : List α} {oS o : Value} {wS w w' : World} (h : Since oS wS o w) (hp : Pushed E B w w' o l g cap) : Since oS wS (.slice (some ⟨g, 0, none⟩) n cap) w' := by
  refine h.trans ⟨hp.kept, fun k hk => ?_⟩
  have e : some g = some k := hk
  cases e
  exact hp.place
theorem Since.sl {P : Program} {α : Type} {E : El P α} {oS o v : Value} {wS w : World} {l : List α} (h : Since oS wS o w) (hv : Sl E wS (fun k => some k = oS.ownBlock) v l) : Sl E w (fun k => some k = oS.ownBlock) v l := hv.kept h.kept
theorem Since.cell {oS o u : Value} {wS w : World} {p : Addr} (h : Since oS wS o w) (hp : some p.block ≠ oS.ownBlock) (hc : wS.cell? p = some u) : w.cell? p = some u := h.kept.cell hp hc
theorem Since.block {oS o : Value} {wS w : World} {k : Nat} {x : Obj} (h : Since oS wS o w) (hp : some k ≠ oS.ownBlock) (hc : wS.heap[k]? = some x) : w.heap[k]? = some x :=
  (h.kept.2 k (Array.getElem?_eq_some_iff.1 hc).1 hp).trans hc
/-- Kept, as one limb of a region's condition. -/
structure Keeps (G : Nat → Prop) (w W : World) : Prop where
  out : Kept G w W
theorem Keeps.refl (G : Nat → Prop) (w : World) : Keeps G w w := ⟨⟨Nat.le_refl _, fun _ _ _ => rfl⟩⟩
theorem keeps_drew {G : Nat → Prop} {w W : World} (h : Keeps G w W) : Keeps G w W.drew := ⟨h.out⟩
theorem keeps_alloc {G : Nat → Prop} {w W : World} {o : Obj} (h : Keeps G w W) : Keeps G w (W.alloc o) :=
  ⟨⟨by rw [World.size_alloc]; exact Nat.le_trans h.out.1 (Nat.le_succ _), fun k h1 h2 => (Below.heap_alloc W o k (Nat.lt_of_lt_of_le h1 h.out.1)).trans (h.out.2 k h1 h2)⟩⟩
theorem keeps_below {G : Nat → Prop} {w W : World} (h : Below w.heap.size w W) : Keeps G w W := ⟨.of_below h⟩
theorem keeps_push {P : Program} {α : Type} {E : El P α} {B g cap : Nat} {w W w' : World} {v : Value} {l : List α} (h : Keeps (fun m => some m = v.ownBlock) w W) (hp : Pushed E B W w' v l g cap) : Keeps (fun m => some m = v.ownBlock) w w' := ⟨h.out.trans hp.kept⟩
/-- A row of the call's own lies in no elder block. -/
theorem Own.slG {w : World} {B : Nat} {v : Value} {l : List Int} {G : Nat → Prop} (h : Own intE w B v l) (hG : ∀ k, G k → k < B) : Sl (P := Tryz.prog) intE w G v l := by
  obtain ⟨h1, a, c, rfl, h2, h3⟩ := h.sl
  refine ⟨h1, a, c, rfl, h2, fun hn => ?_⟩
  obtain ⟨b, o, rfl, _, h4⟩ := h3 hn
  refine ⟨b, o, rfl, fun hg => ?_, fun i x hx => ?_⟩
  · have := (h.lt b rfl).1
    have := hG b hg
    omega
  · obtain ⟨cs, h5, h6⟩ := h4 i x hx
    exact ⟨cs, h5, h6⟩
end Go.Proofs.YtngigmpaabmngaaGreatDoor
