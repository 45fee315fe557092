/- A part of the proofs: TrS, TrN, TrQ, TrR, Aw8, Rsm, Rag, Rms, Stp, Val8, Wod, Lift, OpenG, LaidD, Open, OpenU, OpenB, SplK, SplL, OpenC. No condition beside sizes and tables that read as laid. -/
import Derived.Test.YtfmbbfidjcgeiaaGreatDoorMgAf
import Derived.Test.YtfmbbfidjcgeiaaGreatDoorMgAc
import Derived.Deep.DeepCutAuto
import Derived.OwnWalk
import Derived.Test.YtfmbbfidjcgeiaaGreatDoorMgAe
import Derived.Laws.BitsLemmas
import Derived.Test.YtfmbbfidjcgeiaaGreatDoorMgAd
import Derived.Test.YtfmbbfidjcgeiaaGreatDoorMgAa
import Derived.Test.YtfmbbfidjcgeiaaGreatDoorMgAb
import Derived.Test.YtfmbbfidjcgeiaaGreatDoorRows
import Derived.ProofKit
import Derived.OpenShut
import Derived.Carry
import Derived.Deep.DeepHandedRow
import Derived.Lib.LaidTab
import Derived.Shelf.Vars
import Derived.Deep.Slices
import Derived.Test.YtfmbbfidjcgeiaaGreatDoorChecked
import Derived.Stop.LaidErr
import Derived.LaidLaws
import Derived.Lib.Strings
namespace Go.Proofs.YtfmbbfidjcgeiaaGreatDoor
open Go.RowKit Go.Lib Go.Shelf

set_option maxHeartbeats 1000000 in
theorem len_tree {B p g n : Nat} {nd : List Nd} (w : World) (hT : TreeAt w B p g nd n) : Calls Tryz.prog 26 #[.pointer (some ⟨p, 0, none⟩)] w fun e w' => e = .returned (.int .i64 (n : Int)) ∧ w = w' := by
  have c0 := hT.c0
  clear hT
  go_enter Tryz.func26, Tryz.ntmps26
  go_wp2_with fail
  go_ret
  exact ⟨rfl, rfl⟩
theorem grown_below {w W W' : World} {g : Option Nat} (h : w.grownBy W g) (hb : Below W.heap.size W W') : w.grownBy W' g :=
  ⟨hb.os.trans h.os, hb.tape.trans h.tape, hb.output.trans h.output, Nat.le_trans h.size hb.size, fun k hk hn => (hb.block k (Nat.lt_of_lt_of_le hk h.size)).trans (h.block k hk hn)⟩
theorem grown_set {w W : World} {g : Nat} {o : Nat} {v : Value} (h : w.grownBy W (some g)) : w.grownBy (W.setCell ⟨g, o, none⟩ v) (some g) :=
  ⟨h.os, h.tape, h.output, by simpa [World.setCell] using h.size, fun k hk hn => (heap_setCell_other _ _ _ _ (fun e => hn (by rw [e]))).trans (h.block k hk hn)⟩
theorem grown_trans {a b c : World} {g : Option Nat} (h : a.grownBy b g) (k : b.grownBy c g) : a.grownBy c g :=
  ⟨k.os.trans h.os, k.tape.trans h.tape, k.output.trans h.output, Nat.le_trans h.size k.size, fun i hi hn => (k.block i (Nat.lt_of_lt_of_le hi h.size) hn).trans (h.block i hi hn)⟩
/-- While one node is stored anew: what stays. -/
structure RegS (w : World) (B p g n i : Nat) (nd : List Nd) (W : World) : Prop where
  tree : ∃ z, TreeAt W B p g (nd.set i z) n
  grown : w.grownBy W (some g)
section
variable {w W W' : World} {B p g n i : Nat} {nd : List Nd}
theorem RegS.below (h : RegS w B p g n i nd W) (hb : Below W.heap.size W W') : RegS w B p g n i nd W' := by
  obtain ⟨z, hz⟩ := h.tree
  exact ⟨⟨z, hz.below hb⟩, grown_below h.grown hb⟩
theorem RegS.drew (h : RegS w B p g n i nd W) : RegS w B p g n i nd W.drew := h.below (Below.refl _ _).drew
theorem RegS.set (h : RegS w B p g n i nd W) (hi : i < 2 * n) (y : Nd) :
    RegS w B p g n i nd ((((W.setCell ⟨g, i * 4, none⟩ (.int .i64 (hiW y.s))).setCell ⟨g, i * 4 + 1, none⟩ (.int .u64 (loW y.s))).setCell ⟨g, i * 4 + 2, none⟩ (.int .i64 y.mn)).setCell ⟨g, i * 4 + 3, none⟩ (.int .i64 y.mx)) := by
  obtain ⟨z, hz⟩ := h.tree
  refine ⟨⟨y, ?_⟩, grown_set (grown_set (grown_set (grown_set h.grown)))⟩
  have := hz.set hi y
  rw [List.set_set] at this
  exact this
theorem RegS.facts {x y : Nd} {j j2 : Nat} (h : RegS w B p g n i nd W) (hi0 : 0 < i) (hj : Hid (j = 2 * i ∧ j2 = j + 1)) (hx : nd[j]? = some x) (hy : nd[j2]? = some y) :
    W.cell? ⟨p, 0, none⟩ = some (.int .i64 (n : Int)) ∧ W.cell? ⟨p, 1, none⟩ = some (.slice (some ⟨g, 0, none⟩) (2 * n) (2 * n)) ∧
    (W.cell? ⟨g, j * 4, none⟩ = some (.int .i64 (hiW x.s)) ∧ W.cell? ⟨g, j * 4 + 1, none⟩ = some (.int .u64 (loW x.s)) ∧ W.cell? ⟨g, j * 4 + 2, none⟩ = some (.int .i64 x.mn) ∧ W.cell? ⟨g, j * 4 + 3, none⟩ = some (.int .i64 x.mx)) ∧
    W.cell? ⟨g, j2 * 4, none⟩ = some (.int .i64 (hiW y.s)) ∧ W.cell? ⟨g, j2 * 4 + 1, none⟩ = some (.int .u64 (loW y.s)) ∧ W.cell? ⟨g, j2 * 4 + 2, none⟩ = some (.int .i64 y.mn) ∧ W.cell? ⟨g, j2 * 4 + 3, none⟩ = some (.int .i64 y.mx) := by
  obtain ⟨z, hz⟩ := h.tree
  obtain ⟨e1, e2⟩ := hj.out
  exact ⟨hz.c0, hz.c1, hz.node (by rw [List.getElem?_set_ne (by omega)]; exact hx), hz.node (by rw [List.getElem?_set_ne (by omega)]; exact hy)⟩
theorem RegS.done (h : RegS w B p g n i nd W) (hi : i < 2 * n) (y : Nd) :
    TreeAt ((((W.setCell ⟨g, i * 4, none⟩ (.int .i64 (hiW y.s))).setCell ⟨g, i * 4 + 1, none⟩ (.int .u64 (loW y.s))).setCell ⟨g, i * 4 + 2, none⟩ (.int .i64 y.mn)).setCell ⟨g, i * 4 + 3, none⟩ (.int .i64 y.mx)) B p g (nd.set i y) n ∧
    w.grownBy ((((W.setCell ⟨g, i * 4, none⟩ (.int .i64 (hiW y.s))).setCell ⟨g, i * 4 + 1, none⟩ (.int .u64 (loW y.s))).setCell ⟨g, i * 4 + 2, none⟩ (.int .i64 y.mn)).setCell ⟨g, i * 4 + 3, none⟩ (.int .i64 y.mx)) (some g) := by
  obtain ⟨z, hz⟩ := h.tree
  have := hz.set hi y
  rw [List.set_set] at this
  exact ⟨this, grown_set (grown_set (grown_set (grown_set h.grown)))⟩
theorem RegS.facts0 (h : RegS w B p g n i nd W) : W.cell? ⟨p, 0, none⟩ = some (.int .i64 (n : Int)) ∧ W.cell? ⟨p, 1, none⟩ = some (.slice (some ⟨g, 0, none⟩) (2 * n) (2 * n)) := by
  obtain ⟨z, hz⟩ := h.tree
  exact ⟨hz.c0, hz.c1⟩
theorem RegS.at (h : RegS w B p g n i nd W) (hi : i < 2 * n) : (∃ v0 v1 v2 v3, W.cell? ⟨g, i * 4, none⟩ = some v0 ∧ W.cell? ⟨g, i * 4 + 1, none⟩ = some v1 ∧ W.cell? ⟨g, i * 4 + 2, none⟩ = some v2 ∧ W.cell? ⟨g, i * 4 + 3, none⟩ = some v3) ∧
    W.frozen? ⟨g, i * 4, none⟩ = false ∧ W.frozen? ⟨g, i * 4 + 1, none⟩ = false ∧ W.frozen? ⟨g, i * 4 + 2, none⟩ = false ∧ W.frozen? ⟨g, i * 4 + 3, none⟩ = false := by
  obtain ⟨z, hz⟩ := h.tree
  obtain ⟨a0, a1, a2, a3⟩ := hz.node (k := i) (List.getElem?_eq_getElem (by rw [hz.len]; exact hi))
  exact ⟨⟨_, _, _, _, a0, a1, a2, a3⟩, hz.frozen _, hz.frozen _, hz.frozen _, hz.frozen _⟩
end
/-- The numbers of a tree. -/
def Num64 (a : List Int) : Prop := ∀ x ∈ a, -9223372036854775808 ≤ x ∧ x ≤ 9223372036854775807
theorem NdOk.wok {a : List Int} {nd : List Nd} {i : Nat} {d : Nd} (h : NdOk a nd i) (hd : nd[i]? = some d) (hq : Num64 a) (hl : a.length ≤ 200) (h1 : 1 ≤ i) (h2 : i < 2 * a.length) : Wok d.s := by
  have := h.sum hd (q := 9223372036854775808) (by omega) (fun x hx => by have := hq x hx; omega) h1 h2
  unfold Wok
  have hl' : ((2 * a.length : Nat) : Int) ≤ 400 := by omega
  have hb : 9223372036854775808 * ((2 * a.length : Nat) : Int) ≤ 9223372036854775808 * 400 := Int.mul_le_mul_of_nonneg_left hl' (by omega)
  omega
theorem set_getElem_self' {l : List Nd} {i : Nat} {z : Nd} (h : l[i]? = some z) : l.set i z = l := by
  obtain ⟨h1, rfl⟩ := List.getElem?_eq_some_iff.1 h
  exact List.set_getElem_self h1
end Go.Proofs.YtfmbbfidjcgeiaaGreatDoor

namespace Go.Proofs.YtfmbbfidjcgeiaaGreatDoor
open Go.RowKit Go.Lib Go.Shelf

theorem node_parts : ∃ i, Tryz.prog.info? 117 = some i ∧ i.zero = some (.agg #[.int .i64 0, .int .u64 0, .int .i64 0, .int .i64 0]) ∧ i.size = 4 ∧ i.bytes = 32 := info_parts node_info
theorem i64_info : (Tryz.prog.info? 2).map (fun i => (i.zero, i.size, i.bytes)) = some (some (.int .i64 0), 1, 8) := by kernel_rfl
def i64E : El Tryz.prog Int := El.flat 2 1 8 (by decide) (info_mk i64_info rfl) (fun x => [.int .i64 x]) (fun _ => rfl) (by intro x u hu; simp at hu; subst hu; rfl)
theorem i64_at {w : World} {G : Nat → Prop} {a : Option Addr} {n c k : Nat} {l : List Int} {x : Int} (h : Sl i64E w G (.slice a n c) l) (hk : l[k]? = some x) : ∃ b o, a = some ⟨b, o, none⟩ ∧ w.cell? ⟨b, o + k, none⟩ = some (.int .i64 x) := by
  obtain ⟨b, o, cs, ha, rfl, hc⟩ := h.at hk
  have := hc 0 _ rfl
  rw [show i64E.size = 1 from rfl, Nat.mul_one, Nat.add_zero] at this
  exact ⟨b, o, ha, this⟩
/-- The leaves of the first k elements are laid. -/
def LeafI (a : List Int) (nd : List Nd) (k : Nat) : Prop := ∀ j x, j < k → a[j]? = some x → nd[a.length + j]? = some (leafN x)
theorem LeafI.step {a : List Int} {nd : List Nd} {k : Nat} {x : Int} (h : LeafI a nd k) (hx : a[k]? = some x) (hl : a.length + k < nd.length) : LeafI a (nd.set (a.length + k) (leafN x)) (k + 1) := fun j y hj hy => by
  by_cases e : j = k
  · subst e
    rw [hx] at hy
    cases hy
    exact List.getElem?_set_self hl
  · rw [List.getElem?_set_ne (by omega)]
    exact h j y (by omega) hy
/-- The nodes above i are told. -/
def BuildI (a : List Int) (nd : List Nd) (i : Nat) : Prop := nd.length = 2 * a.length ∧ ∀ j, 1 ≤ j → i < j → j < 2 * a.length → NdOk a nd j
theorem BuildI.start {a : List Int} {nd : List Nd} (h : LeafI a nd a.length) (hl : nd.length = 2 * a.length) : BuildI a nd (a.length - 1) := ⟨hl, fun j h1 h2 h3 => by
  obtain ⟨x, hx⟩ := lget_some a (j - a.length) (by omega)
  have := NdOk.leaf hx (h (j - a.length) x (by omega) hx)
  rw [show a.length + (j - a.length) = j by omega] at this
  exact this⟩
theorem BuildI.step {a : List Int} {nd : List Nd} {i : Nat} {d e : Nd} (h : BuildI a nd i) (h1 : 1 ≤ i) (h2 : i < a.length) (hd : nd[2 * i]? = some d) (he : nd[2 * i + 1]? = some e) : BuildI a (nd.set i (mergeN d e)) (i - 1) :=
  ⟨by rw [List.length_set]; exact h.1, fun j j1 j2 j3 => by
    by_cases ej : j = i
    · subst ej
      exact NdOk.node h1 h2 hd he (h.2 _ (by omega) (by omega) (by omega)) (h.2 _ (by omega) (by omega) (by omega)) (by rw [h.1]; omega)
    · exact (h.2 j j1 (by omega) j3).set (Ne.symm ej)⟩
theorem BuildI.done {a : List Int} {nd : List Nd} {i : Nat} (h : BuildI a nd i) (hi : i = 0) : TreeN a nd := ⟨h.1, fun j h1 h2 => h.2 j h1 (by omega) h2⟩
theorem own_made_nodes {w : World} {B g n : Nat} (h : w.ownsRow B 117 4 (.slice (some ⟨g, 0, none⟩) n n) n (madeCells #[.int .i64 0, .int .u64 0, .int .i64 0, .int .i64 0] (n * 4)).toList) : Own nodeE w B (.slice (some ⟨g, 0, none⟩) n n) (List.replicate n nd0) := by
  rw [made_nodes] at h
  exact Own.of_flat (by simpa using h)
theorem boxed_tree {w : World} {B p g n : Nat} {nd : List Nd} (h : Own nodeE w B (.slice (some ⟨g, 0, none⟩) (2 * n) (2 * n)) nd) (hl : nd.length = 2 * n) (hp : p = w.heap.size) :
    TreeAt (w.alloc (.cells #[.int .i64 (n : Int), .slice (some ⟨g, 0, none⟩) (2 * n) (2 * n)] 112)) B p g nd n := by
  have hlt : B ≤ g ∧ g < w.heap.size := h.lt g rfl
  exact ⟨h.below (below_alloc _ _), hl, by rw [hp]; exact World.alloc_heap_new _ _, by omega, by omega⟩
set_option maxHeartbeats 8000000 in
set_option maxRecDepth 100000 in
theorem new_tree (v : Value) (a : List Int) (w : World) (hv : Sl i64E w free v a) (hq : Num64 a) (hl : a.length ≤ 200) :
    Calls Tryz.prog 22 #[v] w fun e w' => ∃ p nd, e = .returned (.pointer (some ⟨p, 0, none⟩)) ∧ TreeAt w' w.heap.size p w.heap.size nd a.length ∧ TreeN a nd ∧ Below w.heap.size w w' := by
  have hv1 := hv
  obtain ⟨_, sa, sc, rfl, hsc, hs⟩ := hv
  obtain ⟨n, hn⟩ : ∃ n, n = a.length := ⟨_, rfl⟩
  have HV := Lib.hid hv1
  have HN := Lib.hid hn
  have HQ := Lib.hid hq
  rw [← hn] at hl hsc HV ⊢
  clear hv1 hn hq hs
  obtain ⟨i0, hi, hj0, hj1, hj2⟩ := node_parts
  go_enter Tryz.func22, Tryz.ntmps22
  go_upto_region 2 with (at_make; refine wpList_make_full _ rfl _ _ 110 rfl w.heap.size 117 i0 _ 4 Tryz.underlying110 hi hj0 hj1 _ _ _ _ (2 * n) rfl rfl (by go_num) (by go_num) (by rw [hj2]; omega) (by unfold maxLen; omega) (by simp) ?_; intro w0 hown0 hg0)
  have hO0 := own_made_nodes hown0
  have hlt : w.heap.size ≤ w.heap.size ∧ w.heap.size < w0.heap.size := hO0.lt w.heap.size rfl
  obtain ⟨p, hp⟩ : ∃ p, p = w0.heap.size := ⟨_, rfl⟩
  have hT1 := boxed_tree hO0 (by simp) hp
  have hB1 : Below w.heap.size w (w0.alloc (.cells #[.int .i64 (n : Int), .slice (some ⟨w.heap.size, 0, none⟩) (2 * n) (2 * n)] 112)) := ((Below.refl _ _).grown hg0 (by simp) (fun k hk => by cases hk)).alloc (by omega) _
  obtain ⟨w1, hw1⟩ : ∃ w1, w1 = w0.alloc (.cells #[.int .i64 (n : Int), .slice (some ⟨w.heap.size, 0, none⟩) (2 * n) (2 * n)] 112) := ⟨_, rfl⟩
  rw [← hw1] at hT1 hB1 ⊢
  rw [← hp]
  have HT1 := Lib.hid hT1
  have HB1 := Lib.hid hB1
  have hz1 := hB1.size
  clear hown0 hg0 hO0 hlt hB1 hT1 hw1 hp
  have HBW := Lib.hid (fun (wr : World) (h : w1.grownBy wr (some w.heap.size)) => HB1.out.grown h hz1 (fun k hk => by cases hk; exact Nat.le_refl _))
  go_wp2_with fail
  go_loopw [17] (fun i wr => ∃ (k : Nat) (nd : List Nd), i = .int .i64 (k : Int) ∧ k ≤ n ∧ Hid (TreeAt wr w.heap.size p w.heap.size nd n) ∧ Hid (LeafI a nd k) ∧ Hid (w1.grownBy wr (some w.heap.size))) (fun i _ => n - (intOf i).toNat)
  case atStart => exact ⟨0, _, rfl, Nat.zero_le _, HT1, Lib.hid (fun j x hj => by omega), Lib.hid (World.grownBy.refl _ _)⟩
  case round =>
    obtain ⟨k, nd, rfl, hkn, HT, HLI, HG⟩ := hrel
    obtain ⟨wo, rfl⟩ : ∃ wo : World, wo = wr := ⟨_, rfl⟩
    by_cases hk : k < n
    · obtain ⟨x, hx⟩ := lget_some a k (by rw [← HN.out]; exact hk)
      obtain ⟨b, o, rfl, cx⟩ := i64_at (HV.out.below (HBW.out _ HG.out)) hx
      have hlen := HT.out.len
      have hx0 := HQ.out x (List.mem_of_getElem? hx)
      have HLF := fun W => Lib.hid (leaf_any x hx0 W)
      obtain ⟨m, hm⟩ : ∃ m, m = n + k := ⟨_, rfl⟩
      have HS : Hid (LeafI a (nd.set m (leafN x)) (k + 1)) := Lib.hid (by
        have h := HLI.out.step hx (by rw [hlen, ← HN.out]; omega)
        rw [← HN.out, ← hm] at h
        exact h)
      have hm2 : m < 2 * n := by omega
      have hm3 : (m : Int) < 2 * (n : Int) := by omega
      have HR0 : Hid (RegS wo w.heap.size p w.heap.size n m nd wo) := Lib.hid ⟨⟨nd[m]'(by omega), by rw [List.set_getElem_self]; exact HT.out⟩, World.grownBy.refl _ _⟩
      have hw1 : IntKind.i64.wrap ((n : Int) + (k : Int)) = (m : Int) := by rw [IntWalk.i64_in _ (by omega)]; omega
      clear hx hlen hx0 hm HT HLI HT1
      go_upto_region 5 with fail
      refine wp_region_held_drew (S := RegS wo w.heap.size p w.heap.size n m nd) (by kernel_rfl) HR0.out.drew (fun hHeld => ?_)
      refine take_y (i := 0) (d := some 22) (v := ?_) rfl rfl (by kernel_rfl) (by kernel_rfl) (by kernel_rfl) (fun _ _ _ h => h) (by assumption) ?_ ?_
      rotate_left
      · intro oi ho
        simp only [List.getElem?_toArray, List.getElem?_cons_zero, Option.some.injEq] at ho
        subst ho
        intro w hSw
        obtain ⟨e0, e1⟩ := hSw.facts0
        go_simp
        (try with_reducible rfl)
      (try simp only [Act.put, List.setIfInBounds_toArray, List.set_cons_zero, List.set_cons_succ])
      refine take_y (i := 1) (d := some 23) (v := ?_) rfl rfl (by kernel_rfl) (by kernel_rfl) (by kernel_rfl) (fun _ _ _ h => h) (by assumption) ?_ ?_
      rotate_left
      · intro oi ho
        simp only [List.getElem?_toArray, List.getElem?_cons_succ, List.getElem?_cons_zero, Option.some.injEq] at ho
        subst ho
        intro w hSw
        obtain ⟨e0, e1⟩ := hSw.facts0
        go_simp
        (try with_reducible rfl)
      (try simp only [Act.put, List.setIfInBounds_toArray, List.set_cons_zero, List.set_cons_succ])
      refine take_y (i := 2) (d := some 24) (v := ?_) rfl rfl (by kernel_rfl) (by kernel_rfl) (by kernel_rfl) (fun _ _ _ h => h) (by assumption) ?_ ?_
      rotate_left
      · intro oi ho
        simp only [List.getElem?_toArray, List.getElem?_cons_succ, List.getElem?_cons_zero, Option.some.injEq] at ho
        subst ho
        intro w hSw
        obtain ⟨e0, e1⟩ := hSw.facts0
        go_simp
        (try with_reducible rfl)
      (try simp only [Act.put, List.setIfInBounds_toArray, List.set_cons_zero, List.set_cons_succ])
      refine take_y (i := 3) (d := some 25) (v := ?_) rfl rfl (by kernel_rfl) (by kernel_rfl) (by kernel_rfl) (fun _ _ _ h => h) (by assumption) ?_ ?_
      rotate_left
      · intro oi ho
        simp only [List.getElem?_toArray, List.getElem?_cons_succ, List.getElem?_cons_zero, Option.some.injEq] at ho
        subst ho
        intro w hSw
        obtain ⟨e0, e1⟩ := hSw.facts0
        go_simp
        (try with_reducible rfl)
      (try simp only [Act.put, List.setIfInBounds_toArray, List.set_cons_zero, List.set_cons_succ])
      refine take_y (i := 4) (d := some 26) (v := ?_) rfl rfl (by kernel_rfl) (by kernel_rfl) (by kernel_rfl) (fun _ _ _ h => h) (by assumption) ?_ ?_
      rotate_left
      · intro oi ho
        simp only [List.getElem?_toArray, List.getElem?_cons_succ, List.getElem?_cons_zero, Option.some.injEq] at ho
        subst ho
        intro w hSw
        obtain ⟨e0, e1⟩ := hSw.facts0
        go_simp
        (try with_reducible rfl)
      (try simp only [Act.put, List.setIfInBounds_toArray, List.set_cons_zero, List.set_cons_succ])
      refine take_y (i := 5) (d := some 27) (v := ?_) rfl rfl (by kernel_rfl) (by kernel_rfl) (by kernel_rfl) (fun _ _ _ h => h) (by assumption) ?_ ?_
      rotate_left
      · intro oi ho
        simp only [List.getElem?_toArray, List.getElem?_cons_succ, List.getElem?_cons_zero, Option.some.injEq] at ho
        subst ho
        intro w hSw
        obtain ⟨e0, e1⟩ := hSw.facts0
        go_simp
        (try with_reducible rfl)
      (try simp only [Act.put, List.setIfInBounds_toArray, List.set_cons_zero, List.set_cons_succ])
      refine take_y (i := 6) (d := some 28) (v := ?_) rfl rfl (by kernel_rfl) (by kernel_rfl) (by kernel_rfl) (fun _ _ _ h => h) (by assumption) ?_ ?_
      rotate_left
      · intro oi ho
        simp only [List.getElem?_toArray, List.getElem?_cons_succ, List.getElem?_cons_zero, Option.some.injEq] at ho
        subst ho
        intro w hSw
        obtain ⟨e0, e1⟩ := hSw.facts0
        go_simp
        (try with_reducible rfl)
      (try simp only [Act.put, List.setIfInBounds_toArray, List.set_cons_zero, List.set_cons_succ])
      refine take_y (i := 7) (d := some 29) (v := ?_) rfl rfl (by kernel_rfl) (by kernel_rfl) (by kernel_rfl) (fun _ _ _ h => h) (by assumption) ?_ ?_
      rotate_left
      · intro oi ho
        simp only [List.getElem?_toArray, List.getElem?_cons_succ, List.getElem?_cons_zero, Option.some.injEq] at ho
        subst ho
        intro w hSw
        obtain ⟨e0, e1⟩ := hSw.facts0
        go_simp
        (try with_reducible rfl)
      (try simp only [Act.put, List.setIfInBounds_toArray, List.set_cons_zero, List.set_cons_succ])
      refine take_y (i := 8) (d := some 30) (v := ?_) rfl rfl (by kernel_rfl) (by kernel_rfl) (by kernel_rfl) (fun _ _ _ h => h) (by assumption) ?_ ?_
      rotate_left
      · intro oi ho
        simp only [List.getElem?_toArray, List.getElem?_cons_succ, List.getElem?_cons_zero, Option.some.injEq] at ho
        subst ho
        intro w hSw
        obtain ⟨e0, e1⟩ := hSw.facts0
        go_simp
        (try with_reducible rfl)
      (try simp only [Act.put, List.setIfInBounds_toArray, List.set_cons_zero, List.set_cons_succ])
      refine take_y (i := 9) (d := some 31) (v := ?_) rfl rfl (by kernel_rfl) (by kernel_rfl) (by kernel_rfl) (fun _ _ _ h => h) (by assumption) ?_ ?_
      rotate_left
      · intro oi ho
        simp only [List.getElem?_toArray, List.getElem?_cons_succ, List.getElem?_cons_zero, Option.some.injEq] at ho
        subst ho
        intro w hSw
        obtain ⟨e0, e1⟩ := hSw.facts0
        go_simp
        (try with_reducible rfl)
      (try simp only [Act.put, List.setIfInBounds_toArray, List.set_cons_zero, List.set_cons_succ])
      refine take_y (i := 10) (d := some 32) (v := ?_) rfl rfl (by kernel_rfl) (by kernel_rfl) (by kernel_rfl) (fun _ _ _ h => h) (by assumption) ?_ ?_
      rotate_left
      · intro oi ho
        simp only [List.getElem?_toArray, List.getElem?_cons_succ, List.getElem?_cons_zero, Option.some.injEq] at ho
        subst ho
        intro w hSw
        obtain ⟨e0, e1⟩ := hSw.facts0
        go_simp
        (try with_reducible rfl)
      (try simp only [Act.put, List.setIfInBounds_toArray, List.set_cons_zero, List.set_cons_succ])
      refine wpAnyH_ready (rs := [11]) (by kernel_rfl) (by simp) ?_
      refine AllReadyH.cons rfl (fun K hK => ?_) AllReadyH.nil
      go_simp
      refine (HLF _).out.mono ?_
      rintro _ wm ⟨rfl, hbm⟩
      refine hK.out _ _ ?_ (fun hHeld => ?_)
      · exact hHeld.below hbm
      clear hK K
      (try simp only [Act.put, List.setIfInBounds_toArray, List.set_cons_zero, List.set_cons_succ])
      refine take_y (i := 12) (d := some 34) (v := ?_) rfl rfl (by kernel_rfl) (by kernel_rfl) (by kernel_rfl) (fun _ _ _ h => h) (by assumption) ?_ ?_
      rotate_left
      · intro oi ho
        simp only [List.getElem?_toArray, List.getElem?_cons_succ, List.getElem?_cons_zero, Option.some.injEq] at ho
        subst ho
        intro w hSw
        skip
        go_simp
        (try with_reducible rfl)
      (try simp only [Act.put, List.setIfInBounds_toArray, List.set_cons_zero, List.set_cons_succ])
      unfold nodeV
      refine wpAnyH_ready (rs := [13]) (by kernel_rfl) (by simp) ?_
      refine AllReadyH.cons rfl (fun K hK => ?_) AllReadyH.nil
      obtain ⟨⟨v0, v1, v2, v3, k0, k1, k2, k3⟩, k4, k5, k6, k7⟩ := hHeld.at hm2
      go_simp
      refine hK.out _ _ ?_ (fun hHeld => ?_)
      · exact hHeld.set hm2 (leafN x)
      clear hK K
      (try simp only [Act.put, List.setIfInBounds_toArray, List.set_cons_zero, List.set_cons_succ])
      refine wpAnyH_done (by kernel_rfl) ?_ _
      obtain ⟨hT2, hG2⟩ := (by assumption : RegS wo w.heap.size p w.heap.size n m nd wm).done hm2 (leafN x)
      obtain ⟨w2, hw2'⟩ : ∃ w2, w2 = ((((wm.setCell ⟨w.heap.size, m * 4, none⟩ (.int .i64 (hiW (leafN x).s))).setCell ⟨w.heap.size, m * 4 + 1, none⟩ (.int .u64 (loW (leafN x).s))).setCell ⟨w.heap.size, m * 4 + 2, none⟩ (.int .i64 (leafN x).mn)).setCell ⟨w.heap.size, m * 4 + 3, none⟩ (.int .i64 (leafN x).mx)) := ⟨_, rfl⟩
      rw [← hw2'] at hT2 hG2 ⊢
      have HT2 := Lib.hid hT2
      have HG2 := Lib.hid (grown_trans HG.out hG2)
      clear hw2' hHeld k0 k1 k2 k3 k4 k5 k6 k7 hbm HLF HR0 hT2 hG2 hw1 hm2 hm3 cx
      go_wp2_with fail
      go_roundw
      case rel => exact ⟨k + 1, _, by go_num, by omega, HT2, HS, HG2⟩
      case measure => simp [intOf]; omega
    · obtain rfl : k = n := by omega
      have c0 := HT.out.c0
      have HBI : Hid (BuildI a nd ((k : Int) - 1).toNat) := Lib.hid (by
        have h := BuildI.start (by rw [← HN.out]; exact HLI.out) (by rw [HT.out.len, HN.out])
        rw [← HN.out] at h
        rw [show ((k : Int) - 1).toNat = k - 1 by omega]
        exact h)
      clear HLI HT1
      go_wp2_with fail
      go_loopw [6] (fun i wr => ∃ (ii : Int) (nd : List Nd), i = .int .i64 ii ∧ -1 ≤ ii ∧ ii < k ∧ Hid (TreeAt wr w.heap.size p w.heap.size nd k) ∧ Hid (BuildI a nd ii.toNat) ∧ Hid (w1.grownBy wr (some w.heap.size))) (fun i _ => (intOf i).toNat)
      case atStart => exact ⟨_, nd, rfl, by omega, by omega, HT, HBI, HG⟩
      case round =>
        obtain ⟨ii, nd', rfl, hi1, hi2', HT, HBI, HG⟩ := hrel
        clear c0
        obtain ⟨wo, rfl⟩ : ∃ wo : World, wo = wr := ⟨_, rfl⟩
        by_cases hii : 0 < ii
        · obtain ⟨i, rfl⟩ : ∃ i : Nat, ii = (i : Int) := ⟨ii.toNat, by omega⟩
          have hi0 : 0 < i := by omega
          have hin : i < k := by omega
          have hlen := HT.out.len
          have hB := HBI.out
          rw [Int.toNat_natCast] at hB
          obtain ⟨d1, hd1⟩ := lget_some nd' (2 * i) (by omega)
          obtain ⟨d2, hd2⟩ := lget_some nd' (2 * i + 1) (by omega)
          have hS := hB.step hi0 (by rw [← HN.out]; exact hin) hd1 hd2
          have hW1 := (hB.2 (2 * i) (by omega) (by omega) (by rw [← HN.out]; omega)).wok hd1 HQ.out (by rw [← HN.out]; exact hl) (by omega) (by rw [← HN.out]; omega)
          have hW2 := (hB.2 (2 * i + 1) (by omega) (by omega) (by rw [← HN.out]; omega)).wok hd2 HQ.out (by rw [← HN.out]; exact hl) (by omega) (by rw [← HN.out]; omega)
          have HMG := fun W => Lib.hid (merge_node d1 d2 hW1 hW2 W)
          obtain ⟨j, hj⟩ : ∃ j, j = 2 * i := ⟨_, rfl⟩
          obtain ⟨j2, hj2⟩ : ∃ j2, j2 = j + 1 := ⟨_, rfl⟩
          rw [← hj] at hd1 hd2
          rw [← hj2] at hd2
          have HJ := Lib.hid (And.intro hj hj2)
          have HX := Lib.hid hd1
          have HY := Lib.hid hd2
          have HS := Lib.hid hS
          have hi2 : i < 2 * k := by omega
          have hin2 : (i : Int) < 200 := by omega
          have hx1 : (j : Int) < 2 * (k : Int) := by omega
          have hx2 : (j2 : Int) < 2 * (k : Int) := by omega
          have hx3 : (i : Int) < 2 * (k : Int) := by omega
          have hw1 : IntKind.i64.wrap (2 * (i : Int)) = (j : Int) := by rw [IntWalk.i64_in _ (by omega)]; omega
          have hw2 : IntKind.i64.wrap ((j : Int) + 1) = (j2 : Int) := by rw [IntWalk.i64_in _ (by omega)]; omega
          have HR0 : Hid (RegS wo w.heap.size p w.heap.size k i nd' wo) := Lib.hid ⟨⟨nd'[i]'(by omega), by rw [List.set_getElem_self]; exact HT.out⟩, World.grownBy.refl _ _⟩
          clear hlen hd1 hd2 hS hB hW1 hW2 HT HBI hj hj2
          go_upto_region 10 with fail
          refine wp_region_held_drew (S := RegS wo w.heap.size p w.heap.size k i nd') (by kernel_rfl) HR0.out.drew (fun hHeld => ?_)
          refine take_y (i := 0) (d := some 45) (v := ?_) rfl rfl (by kernel_rfl) (by kernel_rfl) (by kernel_rfl) (fun _ _ _ h => h) (by assumption) ?_ ?_
          rotate_left
          · intro oi ho
            simp only [List.getElem?_toArray, List.getElem?_cons_zero, Option.some.injEq] at ho
            subst ho
            intro w hSw
            obtain ⟨e0, e1, ⟨e2, e3, e4, e5⟩, e6, e7, e8, e9⟩ := hSw.facts hi0 HJ HX.out HY.out
            go_simp
            (try with_reducible rfl)
          (try simp only [Act.put, List.setIfInBounds_toArray, List.set_cons_zero, List.set_cons_succ])
          refine take_y (i := 1) (d := some 46) (v := ?_) rfl rfl (by kernel_rfl) (by kernel_rfl) (by kernel_rfl) (fun _ _ _ h => h) (by assumption) ?_ ?_
          rotate_left
          · intro oi ho
            simp only [List.getElem?_toArray, List.getElem?_cons_succ, List.getElem?_cons_zero, Option.some.injEq] at ho
            subst ho
            intro w hSw
            obtain ⟨e0, e1, ⟨e2, e3, e4, e5⟩, e6, e7, e8, e9⟩ := hSw.facts hi0 HJ HX.out HY.out
            go_simp
            (try with_reducible rfl)
          (try simp only [Act.put, List.setIfInBounds_toArray, List.set_cons_zero, List.set_cons_succ])
          refine take_y (i := 2) (d := some 47) (v := ?_) rfl rfl (by kernel_rfl) (by kernel_rfl) (by kernel_rfl) (fun _ _ _ h => h) (by assumption) ?_ ?_
          rotate_left
          · intro oi ho
            simp only [List.getElem?_toArray, List.getElem?_cons_succ, List.getElem?_cons_zero, Option.some.injEq] at ho
            subst ho
            intro w hSw
            obtain ⟨e0, e1, ⟨e2, e3, e4, e5⟩, e6, e7, e8, e9⟩ := hSw.facts hi0 HJ HX.out HY.out
            go_simp
            (try with_reducible rfl)
          (try simp only [Act.put, List.setIfInBounds_toArray, List.set_cons_zero, List.set_cons_succ])
          refine take_y (i := 3) (d := some 48) (v := ?_) rfl rfl (by kernel_rfl) (by kernel_rfl) (by kernel_rfl) (fun _ _ _ h => h) (by assumption) ?_ ?_
          rotate_left
          · intro oi ho
            simp only [List.getElem?_toArray, List.getElem?_cons_succ, List.getElem?_cons_zero, Option.some.injEq] at ho
            subst ho
            intro w hSw
            obtain ⟨e0, e1, ⟨e2, e3, e4, e5⟩, e6, e7, e8, e9⟩ := hSw.facts hi0 HJ HX.out HY.out
            go_simp
            (try with_reducible rfl)
          (try simp only [Act.put, List.setIfInBounds_toArray, List.set_cons_zero, List.set_cons_succ])
          refine take_y (i := 4) (d := some 49) (v := ?_) rfl rfl (by kernel_rfl) (by kernel_rfl) (by kernel_rfl) (fun _ _ _ h => h) (by assumption) ?_ ?_
          rotate_left
          · intro oi ho
            simp only [List.getElem?_toArray, List.getElem?_cons_succ, List.getElem?_cons_zero, Option.some.injEq] at ho
            subst ho
            intro w hSw
            obtain ⟨e0, e1, ⟨e2, e3, e4, e5⟩, e6, e7, e8, e9⟩ := hSw.facts hi0 HJ HX.out HY.out
            go_simp
            (try with_reducible rfl)
          (try simp only [Act.put, List.setIfInBounds_toArray, List.set_cons_zero, List.set_cons_succ])
          refine take_y (i := 5) (d := some 50) (v := ?_) rfl rfl (by kernel_rfl) (by kernel_rfl) (by kernel_rfl) (fun _ _ _ h => h) (by assumption) ?_ ?_
          rotate_left
          · intro oi ho
            simp only [List.getElem?_toArray, List.getElem?_cons_succ, List.getElem?_cons_zero, Option.some.injEq] at ho
            subst ho
            intro w hSw
            obtain ⟨e0, e1, ⟨e2, e3, e4, e5⟩, e6, e7, e8, e9⟩ := hSw.facts hi0 HJ HX.out HY.out
            go_simp
            (try with_reducible rfl)
          (try simp only [Act.put, List.setIfInBounds_toArray, List.set_cons_zero, List.set_cons_succ])
          refine take_y (i := 6) (d := some 51) (v := ?_) rfl rfl (by kernel_rfl) (by kernel_rfl) (by kernel_rfl) (fun _ _ _ h => h) (by assumption) ?_ ?_
          rotate_left
          · intro oi ho
            simp only [List.getElem?_toArray, List.getElem?_cons_succ, List.getElem?_cons_zero, Option.some.injEq] at ho
            subst ho
            intro w hSw
            obtain ⟨e0, e1, ⟨e2, e3, e4, e5⟩, e6, e7, e8, e9⟩ := hSw.facts hi0 HJ HX.out HY.out
            go_simp
            (try with_reducible rfl)
          (try simp only [Act.put, List.setIfInBounds_toArray, List.set_cons_zero, List.set_cons_succ])
          refine take_y (i := 7) (d := some 52) (v := ?_) rfl rfl (by kernel_rfl) (by kernel_rfl) (by kernel_rfl) (fun _ _ _ h => h) (by assumption) ?_ ?_
          rotate_left
          · intro oi ho
            simp only [List.getElem?_toArray, List.getElem?_cons_succ, List.getElem?_cons_zero, Option.some.injEq] at ho
            subst ho
            intro w hSw
            obtain ⟨e0, e1, ⟨e2, e3, e4, e5⟩, e6, e7, e8, e9⟩ := hSw.facts hi0 HJ HX.out HY.out
            go_simp
            (try with_reducible rfl)
          (try simp only [Act.put, List.setIfInBounds_toArray, List.set_cons_zero, List.set_cons_succ])
          refine take_y (i := 8) (d := some 53) (v := ?_) rfl rfl (by kernel_rfl) (by kernel_rfl) (by kernel_rfl) (fun _ _ _ h => h) (by assumption) ?_ ?_
          rotate_left
          · intro oi ho
            simp only [List.getElem?_toArray, List.getElem?_cons_succ, List.getElem?_cons_zero, Option.some.injEq] at ho
            subst ho
            intro w hSw
            obtain ⟨e0, e1, ⟨e2, e3, e4, e5⟩, e6, e7, e8, e9⟩ := hSw.facts hi0 HJ HX.out HY.out
            go_simp
            (try with_reducible rfl)
          (try simp only [Act.put, List.setIfInBounds_toArray, List.set_cons_zero, List.set_cons_succ])
          refine take_y (i := 9) (d := some 54) (v := ?_) rfl rfl (by kernel_rfl) (by kernel_rfl) (by kernel_rfl) (fun _ _ _ h => h) (by assumption) ?_ ?_
          rotate_left
          · intro oi ho
            simp only [List.getElem?_toArray, List.getElem?_cons_succ, List.getElem?_cons_zero, Option.some.injEq] at ho
            subst ho
            intro w hSw
            obtain ⟨e0, e1, ⟨e2, e3, e4, e5⟩, e6, e7, e8, e9⟩ := hSw.facts hi0 HJ HX.out HY.out
            go_simp
            (try with_reducible rfl)
          (try simp only [Act.put, List.setIfInBounds_toArray, List.set_cons_zero, List.set_cons_succ])
          refine take_y (i := 10) (d := some 55) (v := ?_) rfl rfl (by kernel_rfl) (by kernel_rfl) (by kernel_rfl) (fun _ _ _ h => h) (by assumption) ?_ ?_
          rotate_left
          · intro oi ho
            simp only [List.getElem?_toArray, List.getElem?_cons_succ, List.getElem?_cons_zero, Option.some.injEq] at ho
            subst ho
            intro w hSw
            obtain ⟨e0, e1, ⟨e2, e3, e4, e5⟩, e6, e7, e8, e9⟩ := hSw.facts hi0 HJ HX.out HY.out
            go_simp
            (try with_reducible rfl)
          (try simp only [Act.put, List.setIfInBounds_toArray, List.set_cons_zero, List.set_cons_succ])
          refine take_y (i := 11) (d := some 56) (v := ?_) rfl rfl (by kernel_rfl) (by kernel_rfl) (by kernel_rfl) (fun _ _ _ h => h) (by assumption) ?_ ?_
          rotate_left
          · intro oi ho
            simp only [List.getElem?_toArray, List.getElem?_cons_succ, List.getElem?_cons_zero, Option.some.injEq] at ho
            subst ho
            intro w hSw
            obtain ⟨e0, e1, ⟨e2, e3, e4, e5⟩, e6, e7, e8, e9⟩ := hSw.facts hi0 HJ HX.out HY.out
            go_simp
            (try with_reducible rfl)
          (try simp only [Act.put, List.setIfInBounds_toArray, List.set_cons_zero, List.set_cons_succ])
          refine take_y (i := 12) (d := some 57) (v := ?_) rfl rfl (by kernel_rfl) (by kernel_rfl) (by kernel_rfl) (fun _ _ _ h => h) (by assumption) ?_ ?_
          rotate_left
          · intro oi ho
            simp only [List.getElem?_toArray, List.getElem?_cons_succ, List.getElem?_cons_zero, Option.some.injEq] at ho
            subst ho
            intro w hSw
            obtain ⟨e0, e1, ⟨e2, e3, e4, e5⟩, e6, e7, e8, e9⟩ := hSw.facts hi0 HJ HX.out HY.out
            go_simp
            (try with_reducible rfl)
          (try simp only [Act.put, List.setIfInBounds_toArray, List.set_cons_zero, List.set_cons_succ])
          refine take_y (i := 13) (d := some 58) (v := ?_) rfl rfl (by kernel_rfl) (by kernel_rfl) (by kernel_rfl) (fun _ _ _ h => h) (by assumption) ?_ ?_
          rotate_left
          · intro oi ho
            simp only [List.getElem?_toArray, List.getElem?_cons_succ, List.getElem?_cons_zero, Option.some.injEq] at ho
            subst ho
            intro w hSw
            obtain ⟨e0, e1, ⟨e2, e3, e4, e5⟩, e6, e7, e8, e9⟩ := hSw.facts hi0 HJ HX.out HY.out
            go_simp
            (try with_reducible rfl)
          (try simp only [Act.put, List.setIfInBounds_toArray, List.set_cons_zero, List.set_cons_succ])
          refine take_y (i := 14) (d := some 59) (v := ?_) rfl rfl (by kernel_rfl) (by kernel_rfl) (by kernel_rfl) (fun _ _ _ h => h) (by assumption) ?_ ?_
          rotate_left
          · intro oi ho
            simp only [List.getElem?_toArray, List.getElem?_cons_succ, List.getElem?_cons_zero, Option.some.injEq] at ho
            subst ho
            intro w hSw
            obtain ⟨e0, e1, ⟨e2, e3, e4, e5⟩, e6, e7, e8, e9⟩ := hSw.facts hi0 HJ HX.out HY.out
            go_simp
            (try with_reducible rfl)
          (try simp only [Act.put, List.setIfInBounds_toArray, List.set_cons_zero, List.set_cons_succ])
          refine take_y (i := 15) (d := some 60) (v := ?_) rfl rfl (by kernel_rfl) (by kernel_rfl) (by kernel_rfl) (fun _ _ _ h => h) (by assumption) ?_ ?_
          rotate_left
          · intro oi ho
            simp only [List.getElem?_toArray, List.getElem?_cons_succ, List.getElem?_cons_zero, Option.some.injEq] at ho
            subst ho
            intro w hSw
            obtain ⟨e0, e1, ⟨e2, e3, e4, e5⟩, e6, e7, e8, e9⟩ := hSw.facts hi0 HJ HX.out HY.out
            go_simp
            (try with_reducible rfl)
          (try simp only [Act.put, List.setIfInBounds_toArray, List.set_cons_zero, List.set_cons_succ])
          refine take_y (i := 16) (d := some 61) (v := ?_) rfl rfl (by kernel_rfl) (by kernel_rfl) (by kernel_rfl) (fun _ _ _ h => h) (by assumption) ?_ ?_
          rotate_left
          · intro oi ho
            simp only [List.getElem?_toArray, List.getElem?_cons_succ, List.getElem?_cons_zero, Option.some.injEq] at ho
            subst ho
            intro w hSw
            obtain ⟨e0, e1, ⟨e2, e3, e4, e5⟩, e6, e7, e8, e9⟩ := hSw.facts hi0 HJ HX.out HY.out
            go_simp
            (try with_reducible rfl)
          (try simp only [Act.put, List.setIfInBounds_toArray, List.set_cons_zero, List.set_cons_succ])
          refine take_y (i := 17) (d := some 62) (v := ?_) rfl rfl (by kernel_rfl) (by kernel_rfl) (by kernel_rfl) (fun _ _ _ h => h) (by assumption) ?_ ?_
          rotate_left
          · intro oi ho
            simp only [List.getElem?_toArray, List.getElem?_cons_succ, List.getElem?_cons_zero, Option.some.injEq] at ho
            subst ho
            intro w hSw
            obtain ⟨e0, e1, ⟨e2, e3, e4, e5⟩, e6, e7, e8, e9⟩ := hSw.facts hi0 HJ HX.out HY.out
            go_simp
            (try with_reducible rfl)
          (try simp only [Act.put, List.setIfInBounds_toArray, List.set_cons_zero, List.set_cons_succ])
          refine take_y (i := 18) (d := some 63) (v := ?_) rfl rfl (by kernel_rfl) (by kernel_rfl) (by kernel_rfl) (fun _ _ _ h => h) (by assumption) ?_ ?_
          rotate_left
          · intro oi ho
            simp only [List.getElem?_toArray, List.getElem?_cons_succ, List.getElem?_cons_zero, Option.some.injEq] at ho
            subst ho
            intro w hSw
            obtain ⟨e0, e1, ⟨e2, e3, e4, e5⟩, e6, e7, e8, e9⟩ := hSw.facts hi0 HJ HX.out HY.out
            go_simp
            (try with_reducible rfl)
          (try simp only [Act.put, List.setIfInBounds_toArray, List.set_cons_zero, List.set_cons_succ])
          refine take_y (i := 19) (d := some 64) (v := ?_) rfl rfl (by kernel_rfl) (by kernel_rfl) (by kernel_rfl) (fun _ _ _ h => h) (by assumption) ?_ ?_
          rotate_left
          · intro oi ho
            simp only [List.getElem?_toArray, List.getElem?_cons_succ, List.getElem?_cons_zero, Option.some.injEq] at ho
            subst ho
            intro w hSw
            obtain ⟨e0, e1, ⟨e2, e3, e4, e5⟩, e6, e7, e8, e9⟩ := hSw.facts hi0 HJ HX.out HY.out
            go_simp
            (try with_reducible rfl)
          (try simp only [Act.put, List.setIfInBounds_toArray, List.set_cons_zero, List.set_cons_succ])
          refine take_y (i := 20) (d := some 65) (v := ?_) rfl rfl (by kernel_rfl) (by kernel_rfl) (by kernel_rfl) (fun _ _ _ h => h) (by assumption) ?_ ?_
          rotate_left
          · intro oi ho
            simp only [List.getElem?_toArray, List.getElem?_cons_succ, List.getElem?_cons_zero, Option.some.injEq] at ho
            subst ho
            intro w hSw
            obtain ⟨e0, e1, ⟨e2, e3, e4, e5⟩, e6, e7, e8, e9⟩ := hSw.facts hi0 HJ HX.out HY.out
            go_simp
            (try with_reducible rfl)
          (try simp only [Act.put, List.setIfInBounds_toArray, List.set_cons_zero, List.set_cons_succ])
          refine take_y (i := 21) (d := some 66) (v := ?_) rfl rfl (by kernel_rfl) (by kernel_rfl) (by kernel_rfl) (fun _ _ _ h => h) (by assumption) ?_ ?_
          rotate_left
          · intro oi ho
            simp only [List.getElem?_toArray, List.getElem?_cons_succ, List.getElem?_cons_zero, Option.some.injEq] at ho
            subst ho
            intro w hSw
            obtain ⟨e0, e1, ⟨e2, e3, e4, e5⟩, e6, e7, e8, e9⟩ := hSw.facts hi0 HJ HX.out HY.out
            go_simp
            (try with_reducible rfl)
          (try simp only [Act.put, List.setIfInBounds_toArray, List.set_cons_zero, List.set_cons_succ])
          refine wpAnyH_ready (rs := [22]) (by kernel_rfl) (by simp) ?_
          refine AllReadyH.cons rfl (fun K hK => ?_) AllReadyH.nil
          go_simp
          refine (HMG _).out.mono ?_
          rintro _ wm ⟨rfl, hbm⟩
          refine hK.out _ _ ?_ (fun hHeld => ?_)
          · exact hHeld.below hbm
          clear hK K
          (try simp only [Act.put, List.setIfInBounds_toArray, List.set_cons_zero, List.set_cons_succ])
          refine take_y (i := 23) (d := some 68) (v := ?_) rfl rfl (by kernel_rfl) (by kernel_rfl) (by kernel_rfl) (fun _ _ _ h => h) (by assumption) ?_ ?_
          rotate_left
          · intro oi ho
            simp only [List.getElem?_toArray, List.getElem?_cons_succ, List.getElem?_cons_zero, Option.some.injEq] at ho
            subst ho
            intro w hSw
            skip
            go_simp
            (try with_reducible rfl)
          (try simp only [Act.put, List.setIfInBounds_toArray, List.set_cons_zero, List.set_cons_succ])
          unfold nodeV
          refine wpAnyH_ready (rs := [24]) (by kernel_rfl) (by simp) ?_
          refine AllReadyH.cons rfl (fun K hK => ?_) AllReadyH.nil
          obtain ⟨⟨v0, v1, v2, v3, k0, k1, k2, k3⟩, k4, k5, k6, k7⟩ := hHeld.at hi2
          go_simp
          refine hK.out _ _ ?_ (fun hHeld => ?_)
          · exact hHeld.set hi2 (mergeN d1 d2)
          clear hK K
          (try simp only [Act.put, List.setIfInBounds_toArray, List.set_cons_zero, List.set_cons_succ])
          refine wpAnyH_done (by kernel_rfl) ?_ _
          obtain ⟨hT2, hG2⟩ := (by assumption : RegS wo w.heap.size p w.heap.size k i nd' wm).done hi2 (mergeN d1 d2)
          obtain ⟨w2, hw2'⟩ : ∃ w2, w2 = ((((wm.setCell ⟨w.heap.size, i * 4, none⟩ (.int .i64 (hiW (mergeN d1 d2).s))).setCell ⟨w.heap.size, i * 4 + 1, none⟩ (.int .u64 (loW (mergeN d1 d2).s))).setCell ⟨w.heap.size, i * 4 + 2, none⟩ (.int .i64 (mergeN d1 d2).mn)).setCell ⟨w.heap.size, i * 4 + 3, none⟩ (.int .i64 (mergeN d1 d2).mx)) := ⟨_, rfl⟩
          rw [← hw2'] at hT2 hG2 ⊢
          have HT2 := Lib.hid hT2
          have HG2 := Lib.hid (grown_trans HG.out hG2)
          clear hw2' hHeld k0 k1 k2 k3 k4 k5 k6 k7 hbm HMG HR0 hT2 hG2 hw1 hw2 hx1 hx2 hx3 HX HY HJ
          go_wp2_with fail
          go_roundw
          case rel => exact ⟨(i : Int) - 1, _, rfl, by omega, by omega, HT2, by rw [show ((i : Int) - 1).toNat = i - 1 by omega]; exact HS, HG2⟩
          case measure => simp [intOf]; omega
        · have HF := Lib.hid (HBI.out.done (by omega))
          clear HBI
          go_wp2_with fail
          go_ret
          exact ⟨p, rfl, nd', HT.out, HF.out, HBW.out _ HG.out⟩
end Go.Proofs.YtfmbbfidjcgeiaaGreatDoor

namespace Go.Proofs.YtfmbbfidjcgeiaaGreatDoor
open Go.RowKit Go.Lib Go.Shelf

/-- A node in a box of its own. -/
def BoxN (W : World) (b : Nat) (d : Nd) : Prop := W.heap[b]? = some (.cells #[.int .i64 (hiW d.s), .int .u64 (loW d.s), .int .i64 d.mn, .int .i64 d.mx] 117)
theorem BoxN.cells {W : World} {b : Nat} {d : Nd} (h : BoxN W b d) :
    (W.cell? ⟨b, 0, none⟩ = some (.int .i64 (hiW d.s)) ∧ W.cell? ⟨b, 1, none⟩ = some (.int .u64 (loW d.s)) ∧ W.cell? ⟨b, 2, none⟩ = some (.int .i64 d.mn) ∧ W.cell? ⟨b, 3, none⟩ = some (.int .i64 d.mx)) ∧
    W.frozen? ⟨b, 0, none⟩ = false ∧ W.frozen? ⟨b, 1, none⟩ = false ∧ W.frozen? ⟨b, 2, none⟩ = false ∧ W.frozen? ⟨b, 3, none⟩ = false := box4 h
theorem BoxN.below {W W' : World} {b : Nat} {d : Nd} (h : BoxN W b d) (hb : Below W.heap.size W W') : BoxN W' b d := box_kept h hb
theorem BoxN.set {W : World} {b : Nat} {d : Nd} (h : BoxN W b d) (y : Nd) :
    BoxN ((((W.setCell ⟨b, 0, none⟩ (.int .i64 (hiW y.s))).setCell ⟨b, 1, none⟩ (.int .u64 (loW y.s))).setCell ⟨b, 2, none⟩ (.int .i64 y.mn)).setCell ⟨b, 3, none⟩ (.int .i64 y.mx)) b y := by
  have h1 := heap_setCell_same W b 0 _ _ (.int .i64 (hiW y.s)) h
  have h2 := heap_setCell_same _ b 1 _ _ (.int .u64 (loW y.s)) h1
  have h3 := heap_setCell_same _ b 2 _ _ (.int .i64 y.mn) h2
  have h4 := heap_setCell_same _ b 3 _ _ (.int .i64 y.mx) h3
  exact h4
theorem BoxN.other {W : World} {b c : Nat} {d : Nd} (h : BoxN W b d) (hc : b ≠ c) (v0 v1 v2 v3 : Value) :
    BoxN ((((W.setCell ⟨c, 0, none⟩ v0).setCell ⟨c, 1, none⟩ v1).setCell ⟨c, 2, none⟩ v2).setCell ⟨c, 3, none⟩ v3) b d := by
  unfold BoxN
  rw [heap_setCell_other _ _ _ _ hc, heap_setCell_other _ _ _ _ hc, heap_setCell_other _ _ _ _ hc, heap_setCell_other _ _ _ _ hc]
  exact h
theorem heap_set4 {W : World} {k c : Nat} {o : Obj} (h : W.heap[k]? = some o) (hc : k ≠ c) (v0 v1 v2 v3 : Value) : ((((W.setCell ⟨c, 0, none⟩ v0).setCell ⟨c, 1, none⟩ v1).setCell ⟨c, 2, none⟩ v2).setCell ⟨c, 3, none⟩ v3).heap[k]? = some o := by
  rw [heap_setCell_other _ _ _ _ hc, heap_setCell_other _ _ _ _ hc, heap_setCell_other _ _ _ _ hc, heap_setCell_other _ _ _ _ hc]
  exact h
/-- While a box grows by a node: what stays. -/
structure QS (w : World) (B p g n bx : Nat) (nd : List Nd) (W : World) : Prop where
  below : Below w.heap.size w W
  tree : TreeAt W B p g nd n
  box : ∃ d, BoxN W bx d
section
variable {w W W' : World} {B p g n bx : Nat} {nd : List Nd}
theorem QS.keep (h : QS w B p g n bx nd W) (hb : Below W.heap.size W W') : QS w B p g n bx nd W' := by
  obtain ⟨d, hd⟩ := h.box
  exact ⟨below_keep h.below hb, h.tree.below hb, d, hd.below hb⟩
theorem QS.drew (h : QS w B p g n bx nd W) : QS w B p g n bx nd W.drew := h.keep (Below.refl _ _).drew
theorem QS.set (h : QS w B p g n bx nd W) (hb : w.heap.size ≤ bx) (hp : p < w.heap.size) (hg : g < w.heap.size) (y : Nd) :
    QS w B p g n bx nd ((((W.setCell ⟨bx, 0, none⟩ (.int .i64 (hiW y.s))).setCell ⟨bx, 1, none⟩ (.int .u64 (loW y.s))).setCell ⟨bx, 2, none⟩ (.int .i64 y.mn)).setCell ⟨bx, 3, none⟩ (.int .i64 y.mx)) := by
  obtain ⟨d, hd⟩ := h.box
  exact ⟨below_set4 h.below hb hb hb hb, h.tree.kept (kept_set4 (G := fun m => m = bx) rfl rfl rfl rfl) (by omega) (by omega), y, hd.set y⟩
theorem QS.facts (h : QS w B p g n bx nd W) {k : Nat} {x : Nd} (hx : nd[k]? = some x) :
    W.cell? ⟨p, 0, none⟩ = some (.int .i64 (n : Int)) ∧ W.cell? ⟨p, 1, none⟩ = some (.slice (some ⟨g, 0, none⟩) (2 * n) (2 * n)) ∧
    W.cell? ⟨g, k * 4, none⟩ = some (.int .i64 (hiW x.s)) ∧ W.cell? ⟨g, k * 4 + 1, none⟩ = some (.int .u64 (loW x.s)) ∧ W.cell? ⟨g, k * 4 + 2, none⟩ = some (.int .i64 x.mn) ∧ W.cell? ⟨g, k * 4 + 3, none⟩ = some (.int .i64 x.mx) :=
  ⟨h.tree.c0, h.tree.c1, h.tree.node hx⟩
end
def NodeRet (w : World) (ok : Bool) (P : Nd → Prop) (e : Ending) (w' : World) : Prop := ∃ d, e = .returned (.tuple #[nodeV d, .bool ok]) ∧ P d ∧ Below w.heap.size w w'
set_option maxHeartbeats 4000000 in
theorem query_no {B p g n : Nat} {nd : List Nd} (f t : Int) (w : World) (hT : TreeAt w B p g nd n) (h : f < 0 ∨ t ≤ f ∨ (n : Int) < t) :
    Calls Tryz.prog 51 #[.pointer (some ⟨p, 0, none⟩), .int .i64 f, .int .i64 t] w (NodeRet w false fun d => d.mn = 0 ∧ d.mx = 0) := by
  have HL := fun W (hb : Below w.heap.size w W) => Lib.hid (len_tree W (hT.below hb))
  have hn : Hid (nodeV nd0 = .agg #[.int .i64 0, .int .u64 0, .int .i64 0, .int .i64 0]) := Lib.hid (by unfold nodeV nd0 hiW loW; simp)
  have HB0 := Lib.hid (below_alloc w (.cells #[.int .i64 0, .int .u64 0, .int .i64 0, .int .i64 0] 117))
  by_cases h1 : f < 0
  · go_enter Tryz.func51, Tryz.ntmps51
    go_wp2_with fail
    exact bodyPost_ret (v := .tuple #[.agg #[.int .i64 0, .int .u64 0, .int .i64 0, .int .i64 0], .bool false]) (by simp [results, Tryz.results51, go_sem]) rfl ⟨nd0, by rw [hn.out], ⟨rfl, rfl⟩, HB0.out⟩
  · by_cases h2 : t ≤ f
    · go_enter Tryz.func51, Tryz.ntmps51
      go_wp2_with fail
      exact bodyPost_ret (v := .tuple #[.agg #[.int .i64 0, .int .u64 0, .int .i64 0, .int .i64 0], .bool false]) (by simp [results, Tryz.results51, go_sem]) rfl ⟨nd0, by rw [hn.out], ⟨rfl, rfl⟩, HB0.out⟩
    · have h3 : (n : Int) < t := by omega
      have h4 : f < t := by omega
      clear h
      go_enter Tryz.func51, Tryz.ntmps51
      go_wp2_with (refine (HL _ HB0.out).out.mono ?_; rintro _ _ ⟨rfl, rfl⟩)
      exact bodyPost_ret (v := .tuple #[.agg #[.int .i64 0, .int .u64 0, .int .i64 0, .int .i64 0], .bool false]) (by simp [results, Tryz.results51, go_sem]) rfl ⟨nd0, by rw [hn.out], ⟨rfl, rfl⟩, HB0.out⟩
theorem sm_wok {a : List Int} {L : List Nat} {d : Nd} (h : Sm (L.map (elt a)) d) (hq : Num64 a) (hl : L.length ≤ 200) : Wok d.s := by
  have hb := sumI_bound (q := 9223372036854775808) (l := L.map (elt a)) fun x hx => by
    obtain ⟨k, _, rfl⟩ := List.mem_map.1 hx
    exact elt_bound (by omega) (fun x hx => by have := hq x hx; omega) k
  rw [← h.s, List.length_map] at hb
  have hl' : (L.length : Int) ≤ 400 := by omega
  have hb2 : 9223372036854775808 * (L.length : Int) ≤ 9223372036854775808 * 400 := Int.mul_le_mul_of_nonneg_left hl' (by omega)
  unfold Wok
  omega
def QIs (n f t : Nat) (a : List Int) (d : Nd) (lo hi : Nat) : Prop := ∃ L, QI n f t L lo hi ∧ Sm (L.map (elt a)) d
theorem QIs.left {n f t lo hi : Nat} {a : List Int} {nd : List Nd} {d e : Nd} (h : QIs n f t a d lo hi) (hn : a.length = n) (hN : TreeN a nd) (hlt : lo < hi) (he : nd[lo]? = some e) (hl : lo < 2 * n) (hq : Num64 a) (hl2 : n ≤ 200) (ht : t ≤ n) : QIs n f t a (mergeN d e) (lo + 1) hi ∧ Wok d.s ∧ Wok e.s := by
  obtain ⟨L, h1, h2⟩ := h
  obtain ⟨e', he', se⟩ := hN.2 lo h1.2.1 (by omega)
  rw [he] at he'
  cases he'
  have ok : NdOk a nd lo := ⟨e, he, se⟩
  refine ⟨⟨_, h1.left hlt, ?_⟩, sm_wok h2 hq (by have := h1.len; omega), ok.wok he hq (by omega) h1.2.1 (by omega)⟩
  rw [List.map_append]
  rw [hn] at se
  exact h2.merge se
theorem QIs.right {n f t lo hi : Nat} {a : List Int} {nd : List Nd} {d e : Nd} (h : QIs n f t a d lo hi) (hn : a.length = n) (hN : TreeN a nd) (hlt : lo < hi) (he : nd[hi - 1]? = some e) (hq : Num64 a) (hl2 : n ≤ 200) (ht : t ≤ n) : QIs n f t a (mergeN d e) lo (hi - 1) ∧ Wok d.s ∧ Wok e.s := by
  obtain ⟨L, h1, h2⟩ := h
  have h4 := h1.2.2.2
  have h5 := h1.2.1
  obtain ⟨e', he', se⟩ := hN.2 (hi - 1) (by omega) (by omega)
  rw [he] at he'
  cases he'
  have ok : NdOk a nd (hi - 1) := ⟨e, he, se⟩
  refine ⟨⟨_, h1.right hlt, ?_⟩, sm_wok h2 hq (by have := h1.len; omega), ok.wok he hq (by omega) (by omega) (by omega)⟩
  rw [List.map_append]
  rw [hn] at se
  exact h2.merge se
theorem QIs.half {n f t x y : Nat} {a : List Int} {d : Nd} (h : QIs n f t a d (2 * x) (2 * y)) : QIs n f t a d x y := by
  obtain ⟨L, h1, h2⟩ := h
  exact ⟨L, h1.half, h2⟩
theorem QIs.done {n f t lo hi : Nat} {a : List Int} {d : Nd} (h : QIs n f t a d lo hi) (hl : hi ≤ lo) : Sm (elts a f t) d := by
  obtain ⟨L, h1, h2⟩ := h
  exact h2.perm ((h1.done hl).map _)
theorem QIs.start {n f t : Nat} {a : List Int} {nd : List Nd} {d : Nd} (hn : a.length = n) (hN : TreeN a nd) (h : f < t) (ht : t ≤ n) (hd : nd[n + f]? = some d) : QIs n f t a d (n + f + 1) (n + t) := by
  refine ⟨[f], QI.start h ht, ?_⟩
  obtain ⟨e', he', se⟩ := hN.2 (n + f) (by omega) (by omega)
  rw [hd] at he'
  cases he'
  rw [lvs_leaf (by omega), show n + f - a.length = f by omega] at se
  exact se
theorem QIs.bound {n f t lo hi : Nat} {a : List Int} {d : Nd} (h : QIs n f t a d lo hi) : 1 ≤ lo ∧ hi ≤ 2 * n := by
  obtain ⟨L, h1, h2⟩ := h
  exact ⟨h1.2.1, h1.2.2.2⟩
set_option maxHeartbeats 8000000 in
set_option maxRecDepth 100000 in
theorem query_yes {B p g n : Nat} {a : List Int} {nd : List Nd} (f t : Nat) (w : World) (hT : TreeAt w B p g nd n) (hN : TreeN a nd) (hn : a.length = n) (hq : Num64 a) (hl : n ≤ 200) (h : f < t) (ht : t ≤ n) :
    Calls Tryz.prog 51 #[.pointer (some ⟨p, 0, none⟩), .int .i64 (f : Int), .int .i64 (t : Int)] w (NodeRet w true fun d => Sm (elts a f t) d) := by
  have HL := fun W (hb : Below w.heap.size w W) => Lib.hid (len_tree W (hT.below hb))
  obtain ⟨m, hm⟩ : ∃ m, m = n + f := ⟨_, rfl⟩
  obtain ⟨d0, hd0⟩ := lget_some nd m (by rw [hT.len]; omega)
  have HD0 := Lib.hid hd0
  have HQ0 : Hid (QIs n f t a d0 (m + 1) (n + t)) := Lib.hid (by rw [hm] at hd0 ⊢; exact QIs.start hn hN h ht hd0)
  have hpl := hT.lt
  have hgl := hT.baseg.2
  have HT := Lib.hid hT
  have HN := Lib.hid hN
  have HNL := Lib.hid hn
  have HNQ := Lib.hid hq
  have hm3 : (m : Int) < 2 * (n : Int) := by omega
  have hw1 : IntKind.i64.wrap ((n : Int) + (f : Int)) = (m : Int) := by rw [IntWalk.i64_in _ (by omega)]; omega
  clear hT hN hn hq hd0 hm
  go_enter Tryz.func51, Tryz.ntmps51
  have HB0 := Lib.hid (below_alloc w (.cells #[.int .i64 0, .int .u64 0, .int .i64 0, .int .i64 0] 117))
  have hbx0 := World.alloc_heap_new w (.cells #[.int .i64 0, .int .u64 0, .int .i64 0, .int .i64 0] 117)
  obtain ⟨wb, hwb⟩ : ∃ wb, wb = w.alloc (.cells #[.int .i64 0, .int .u64 0, .int .i64 0, .int .i64 0] 117) := ⟨_, rfl⟩
  go_upto_region 3 with (refine (HL _ HB0.out).out.mono ?_; rintro _ _ ⟨rfl, rfl⟩)
  rw [← hwb] at HB0 hbx0 ⊢
  have hzb : wb.heap.size = w.heap.size + 1 := by rw [hwb]; simp
  have HZB := Lib.hid hzb
  have HTB := Lib.hid (HT.out.below HB0.out)
  have HBX0 := Lib.hid hbx0
  clear hwb hzb hbx0 HL
  refine wp_region_held_drew (S := fun W => Below w.heap.size w W ∧ TreeAt W B p g nd n) (by kernel_rfl) ⟨HB0.out.drew, HTB.out.below (Below.refl _ _).drew⟩ (fun hHeld => ?_)
  refine take_y (i := 0) (d := some 25) (v := ?_) rfl rfl (by kernel_rfl) (by kernel_rfl) (by kernel_rfl) (fun _ _ _ h => h) (by assumption) ?_ ?_
  rotate_left
  · intro oi ho
    simp only [List.getElem?_toArray, List.getElem?_cons_zero, Option.some.injEq] at ho
    subst ho
    intro w hSw
    obtain ⟨e2, e3, e4, e5⟩ := hSw.2.node HD0.out
    have e0 := hSw.2.c0
    have e1 := hSw.2.c1
    go_simp
    (try with_reducible rfl)
  (try simp only [Act.put, List.setIfInBounds_toArray, List.set_cons_zero, List.set_cons_succ])
  refine take_y (i := 1) (d := some 26) (v := ?_) rfl rfl (by kernel_rfl) (by kernel_rfl) (by kernel_rfl) (fun _ _ _ h => h) (by assumption) ?_ ?_
  rotate_left
  · intro oi ho
    simp only [List.getElem?_toArray, List.getElem?_cons_succ, List.getElem?_cons_zero, Option.some.injEq] at ho
    subst ho
    intro w hSw
    obtain ⟨e2, e3, e4, e5⟩ := hSw.2.node HD0.out
    have e0 := hSw.2.c0
    have e1 := hSw.2.c1
    go_simp
    (try with_reducible rfl)
  (try simp only [Act.put, List.setIfInBounds_toArray, List.set_cons_zero, List.set_cons_succ])
  refine take_y (i := 2) (d := some 27) (v := ?_) rfl rfl (by kernel_rfl) (by kernel_rfl) (by kernel_rfl) (fun _ _ _ h => h) (by assumption) ?_ ?_
  rotate_left
  · intro oi ho
    simp only [List.getElem?_toArray, List.getElem?_cons_succ, List.getElem?_cons_zero, Option.some.injEq] at ho
    subst ho
    intro w hSw
    obtain ⟨e2, e3, e4, e5⟩ := hSw.2.node HD0.out
    have e0 := hSw.2.c0
    have e1 := hSw.2.c1
    go_simp
    (try with_reducible rfl)
  (try simp only [Act.put, List.setIfInBounds_toArray, List.set_cons_zero, List.set_cons_succ])
  refine take_y (i := 3) (d := some 28) (v := ?_) rfl rfl (by kernel_rfl) (by kernel_rfl) (by kernel_rfl) (fun _ _ _ h => h) (by assumption) ?_ ?_
  rotate_left
  · intro oi ho
    simp only [List.getElem?_toArray, List.getElem?_cons_succ, List.getElem?_cons_zero, Option.some.injEq] at ho
    subst ho
    intro w hSw
    obtain ⟨e2, e3, e4, e5⟩ := hSw.2.node HD0.out
    have e0 := hSw.2.c0
    have e1 := hSw.2.c1
    go_simp
    (try with_reducible rfl)
  (try simp only [Act.put, List.setIfInBounds_toArray, List.set_cons_zero, List.set_cons_succ])
  refine take_y (i := 4) (d := some 29) (v := ?_) rfl rfl (by kernel_rfl) (by kernel_rfl) (by kernel_rfl) (fun _ _ _ h => h) (by assumption) ?_ ?_
  rotate_left
  · intro oi ho
    simp only [List.getElem?_toArray, List.getElem?_cons_succ, List.getElem?_cons_zero, Option.some.injEq] at ho
    subst ho
    intro w hSw
    obtain ⟨e2, e3, e4, e5⟩ := hSw.2.node HD0.out
    have e0 := hSw.2.c0
    have e1 := hSw.2.c1
    go_simp
    (try with_reducible rfl)
  (try simp only [Act.put, List.setIfInBounds_toArray, List.set_cons_zero, List.set_cons_succ])
  refine take_y (i := 5) (d := some 30) (v := ?_) rfl rfl (by kernel_rfl) (by kernel_rfl) (by kernel_rfl) (fun _ _ _ h => h) (by assumption) ?_ ?_
  rotate_left
  · intro oi ho
    simp only [List.getElem?_toArray, List.getElem?_cons_succ, List.getElem?_cons_zero, Option.some.injEq] at ho
    subst ho
    intro w hSw
    obtain ⟨e2, e3, e4, e5⟩ := hSw.2.node HD0.out
    have e0 := hSw.2.c0
    have e1 := hSw.2.c1
    go_simp
    (try with_reducible rfl)
  (try simp only [Act.put, List.setIfInBounds_toArray, List.set_cons_zero, List.set_cons_succ])
  refine take_y (i := 6) (d := some 31) (v := ?_) rfl rfl (by kernel_rfl) (by kernel_rfl) (by kernel_rfl) (fun _ _ _ h => h) (by assumption) ?_ ?_
  rotate_left
  · intro oi ho
    simp only [List.getElem?_toArray, List.getElem?_cons_succ, List.getElem?_cons_zero, Option.some.injEq] at ho
    subst ho
    intro w hSw
    obtain ⟨e2, e3, e4, e5⟩ := hSw.2.node HD0.out
    have e0 := hSw.2.c0
    have e1 := hSw.2.c1
    go_simp
    (try with_reducible rfl)
  (try simp only [Act.put, List.setIfInBounds_toArray, List.set_cons_zero, List.set_cons_succ])
  refine take_y (i := 7) (d := some 32) (v := ?_) rfl rfl (by kernel_rfl) (by kernel_rfl) (by kernel_rfl) (fun _ _ _ h => h) (by assumption) ?_ ?_
  rotate_left
  · intro oi ho
    simp only [List.getElem?_toArray, List.getElem?_cons_succ, List.getElem?_cons_zero, Option.some.injEq] at ho
    subst ho
    intro w hSw
    obtain ⟨e2, e3, e4, e5⟩ := hSw.2.node HD0.out
    have e0 := hSw.2.c0
    have e1 := hSw.2.c1
    go_simp
    (try with_reducible rfl)
  (try simp only [Act.put, List.setIfInBounds_toArray, List.set_cons_zero, List.set_cons_succ])
  refine take_y (i := 8) (d := some 33) (v := ?_) rfl rfl (by kernel_rfl) (by kernel_rfl) (by kernel_rfl) (fun _ _ _ h => h) (by assumption) ?_ ?_
  rotate_left
  · intro oi ho
    simp only [List.getElem?_toArray, List.getElem?_cons_succ, List.getElem?_cons_zero, Option.some.injEq] at ho
    subst ho
    intro w hSw
    obtain ⟨e2, e3, e4, e5⟩ := hSw.2.node HD0.out
    have e0 := hSw.2.c0
    have e1 := hSw.2.c1
    go_simp
    (try with_reducible rfl)
  (try simp only [Act.put, List.setIfInBounds_toArray, List.set_cons_zero, List.set_cons_succ])
  refine take_y (i := 9) (d := some 34) (v := ?_) rfl rfl (by kernel_rfl) (by kernel_rfl) (by kernel_rfl) (fun _ _ _ h => h) (by assumption) ?_ ?_
  rotate_left
  · intro oi ho
    simp only [List.getElem?_toArray, List.getElem?_cons_succ, List.getElem?_cons_zero, Option.some.injEq] at ho
    subst ho
    intro w hSw
    obtain ⟨e2, e3, e4, e5⟩ := hSw.2.node HD0.out
    have e0 := hSw.2.c0
    have e1 := hSw.2.c1
    go_simp
    (try with_reducible rfl)
  (try simp only [Act.put, List.setIfInBounds_toArray, List.set_cons_zero, List.set_cons_succ])
  refine take_y (i := 10) (d := some 35) (v := ?_) rfl rfl (by kernel_rfl) (by kernel_rfl) (by kernel_rfl) (fun _ _ _ h => h) (by assumption) ?_ ?_
  rotate_left
  · intro oi ho
    simp only [List.getElem?_toArray, List.getElem?_cons_succ, List.getElem?_cons_zero, Option.some.injEq] at ho
    subst ho
    intro w hSw
    obtain ⟨e2, e3, e4, e5⟩ := hSw.2.node HD0.out
    have e0 := hSw.2.c0
    have e1 := hSw.2.c1
    go_simp
    (try with_reducible rfl)
  (try simp only [Act.put, List.setIfInBounds_toArray, List.set_cons_zero, List.set_cons_succ])
  refine take_y (i := 11) (d := some 36) (v := ?_) rfl rfl (by kernel_rfl) (by kernel_rfl) (by kernel_rfl) (fun _ _ _ h => h) (by assumption) ?_ ?_
  rotate_left
  · intro oi ho
    simp only [List.getElem?_toArray, List.getElem?_cons_succ, List.getElem?_cons_zero, Option.some.injEq] at ho
    subst ho
    intro w hSw
    obtain ⟨e2, e3, e4, e5⟩ := hSw.2.node HD0.out
    have e0 := hSw.2.c0
    have e1 := hSw.2.c1
    go_simp
    (try with_reducible rfl)
  (try simp only [Act.put, List.setIfInBounds_toArray, List.set_cons_zero, List.set_cons_succ])
  refine wpAnyH_ready (rs := [12]) (by kernel_rfl) (by simp) ?_
  refine AllReadyH.cons rfl (fun K hK => ?_) AllReadyH.nil
  go_simp
  refine hK.out _ _ ?_ (fun hHeld => ?_)
  · exact ⟨below_alloc_keep hHeld.1, hHeld.2.below (below_alloc _ _)⟩
  clear hK K
  (try simp only [Act.put, List.setIfInBounds_toArray, List.set_cons_zero, List.set_cons_succ])
  refine wpAnyH_ready (rs := [13]) (by kernel_rfl) (by simp) ?_
  refine AllReadyH.cons rfl (fun K hK => ?_) AllReadyH.nil
  go_simp
  refine hK.out _ _ ?_ (fun hHeld => ?_)
  · exact ⟨below_alloc_keep (HB0.out.drew), (HTB.out.below (Below.refl _ _).drew).below (below_alloc _ _)⟩
  clear hK K
  (try simp only [Act.put, List.setIfInBounds_toArray, List.set_cons_zero, List.set_cons_succ])
  refine wpAnyH_done (by kernel_rfl) ?_ _
  have hbn := World.alloc_heap_new wb (.cells #[.int .i64 (hiW d0.s), .int .u64 (loW d0.s), .int .i64 d0.mn, .int .i64 d0.mx] 117)
  obtain ⟨w1, hw1'⟩ : ∃ w1, w1 = (wb.alloc (.cells #[.int .i64 (hiW d0.s), .int .u64 (loW d0.s), .int .i64 d0.mn, .int .i64 d0.mx] 117)).drew := ⟨_, rfl⟩
  have hB1 : Below wb.heap.size wb w1 := by rw [hw1']; exact (below_alloc _ _).drew
  have hBX1 : BoxN w1 wb.heap.size d0 := by rw [hw1']; exact hbn
  rw [← hw1']
  have HB1 := Lib.hid (below_keep HB0.out hB1)
  have HX1 := Lib.hid (box_kept HBX0.out hB1)
  have HT1 := Lib.hid (HTB.out.below hB1)
  have HBX1 := Lib.hid hBX1
  have c0 := HT1.out.c0
  obtain ⟨bx, hbx⟩ : ∃ bx, bx = wb.heap.size := ⟨_, rfl⟩
  rw [← hbx] at HBX1 HZB ⊢
  have hbxw : w.heap.size < bx := by have := HZB.out; omega
  have hw2 : IntKind.i64.wrap ((m : Int) + 1) = ((m + 1 : Nat) : Int) := by rw [IntWalk.i64_in _ (by omega)]; omega
  have hw3 : IntKind.i64.wrap ((n : Int) + (t : Int)) = ((n + t : Nat) : Int) := by rw [IntWalk.i64_in _ (by omega)]; omega
  obtain ⟨m1, hm1⟩ : ∃ m1, m1 = m + 1 := ⟨_, rfl⟩
  obtain ⟨m2, hm2⟩ : ∃ m2, m2 = n + t := ⟨_, rfl⟩
  rw [← hm1] at HQ0 hw2
  rw [← hm2] at HQ0 hw3
  clear hHeld hbn hw1' hB1 hBX1 hbx HB0 HBX0 HTB hm1 hm2 hm3
  go_upto_region 4 with fail
  go_region
  go_wp2_with fail
  have HB1d : Hid (Below w.heap.size w w1.drew) := Lib.hid HB1.out.drew
  have HT1d : Hid (TreeAt w1.drew B p g nd n) := Lib.hid (HT1.out.below (Below.refl _ _).drew)
  have HBX1d : Hid (BoxN w1.drew bx d0) := Lib.hid (HBX1.out.below (Below.refl _ _).drew)
  have HX1d : Hid (w1.drew.heap[w.heap.size]? = some (.cells #[.int .i64 0, .int .u64 0, .int .i64 0, .int .i64 0] 117)) := Lib.hid HX1.out
  clear hw1 hw2 hw3 c0 HB1 HT1 HBX1 HX1 HT HD0
  go_loopw [9, 10] (fun x y wr => ∃ (lo hi : Nat) (d : Nd), x = .int .i64 (lo : Int) ∧ y = .int .i64 (hi : Int) ∧ Hid (QIs n f t a d lo hi) ∧ Hid (Below w.heap.size w wr) ∧ Hid (TreeAt wr B p g nd n) ∧ Hid (BoxN wr bx d) ∧ Hid (wr.heap[w.heap.size]? = some (.cells #[.int .i64 0, .int .u64 0, .int .i64 0, .int .i64 0] 117))) (fun _ y _ => (intOf y).toNat)
  case atStart => exact ⟨m1, m2, d0, rfl, rfl, HQ0, HB1d, HT1d, HBX1d, HX1d⟩
  case round =>
    obtain ⟨lo, hi, d, rfl, rfl, HQ, HB, HT, HBX, HX⟩ := hrel
    obtain ⟨wo, rfl⟩ : ∃ wo : World, wo = wr := ⟨_, rfl⟩
    obtain ⟨hlo1, hhi1⟩ := HQ.out.bound
    by_cases hlt : lo < hi
    · have hlI : (lo : Int) < (hi : Int) := by omega
      have hl0 : 0 ≤ (lo : Int) := by omega
      have hl4 : (lo : Int) ≤ 400 := by omega
      have hh0 : 0 ≤ (hi : Int) := by omega
      have hh4 : (hi : Int) ≤ 400 := by omega
      go_upto_if 59 with fail
      go_cut [9] (fun s9 wx => ∃ (lo2 : Nat) (d2 : Nd), s9 = .int .i64 (lo2 : Int) ∧ Hid (lo2 % 2 = 0 ∧ (lo2 = lo ∨ lo2 = lo + 1)) ∧ Hid (QIs n f t a d2 lo2 hi) ∧ Hid (Below w.heap.size w wx) ∧ Hid (TreeAt wx B p g nd n) ∧ Hid (BoxN wx bx d2) ∧ Hid (wx.heap[w.heap.size]? = some (.cells #[.int .i64 0, .int .u64 0, .int .i64 0, .int .i64 0] 117)))
      case first =>
        by_cases hodd : (lo : Int) % 2 = 1
        · have hodn : lo % 2 = 1 := by omega
          obtain ⟨e, he⟩ := lget_some nd lo (by rw [HT.out.len]; omega)
          obtain ⟨hQ2, hW1, hW2⟩ := HQ.out.left HNL.out HN.out hlt he (by omega) HNQ.out hl ht
          have HMG := fun W => Lib.hid (merge_node d e hW1 hW2 W)
          have HE := Lib.hid he
          have HQ2 := Lib.hid hQ2
          have hm3 : (lo : Int) < 2 * (n : Int) := by omega
          have HS0 : Hid (QS w B p g n bx nd wo) := Lib.hid ⟨HB.out, HT.out, d, HBX.out⟩
          have HB1 : Hid (lo + 1 ≤ hi) := Lib.hid hlt
          clear he hQ2 hW1 hW2 HQ HB HT
          go_upto_region 8 with fail
          refine wp_region_held_drew (S := QS w B p g n bx nd) (by kernel_rfl) HS0.out.drew (fun hHeld => ?_)
          refine take_y (i := 1) (d := some 61) (v := ?_) rfl rfl (by kernel_rfl) (by kernel_rfl) (by kernel_rfl) (fun _ _ _ h => h) (by assumption) ?_ ?_
          rotate_left
          · intro oi ho
            simp only [List.getElem?_toArray, List.getElem?_cons_succ, List.getElem?_cons_zero, Option.some.injEq] at ho
            subst ho
            intro w hSw
            obtain ⟨e0, e1, e2, e3, e4, e5⟩ := hSw.facts HE.out
            go_simp
            (try with_reducible rfl)
          (try simp only [Act.put, List.setIfInBounds_toArray, List.set_cons_zero, List.set_cons_succ])
          refine take_y (i := 2) (d := some 62) (v := ?_) rfl rfl (by kernel_rfl) (by kernel_rfl) (by kernel_rfl) (fun _ _ _ h => h) (by assumption) ?_ ?_
          rotate_left
          · intro oi ho
            simp only [List.getElem?_toArray, List.getElem?_cons_succ, List.getElem?_cons_zero, Option.some.injEq] at ho
            subst ho
            intro w hSw
            obtain ⟨e0, e1, e2, e3, e4, e5⟩ := hSw.facts HE.out
            go_simp
            (try with_reducible rfl)
          (try simp only [Act.put, List.setIfInBounds_toArray, List.set_cons_zero, List.set_cons_succ])
          refine take_y (i := 3) (d := some 63) (v := ?_) rfl rfl (by kernel_rfl) (by kernel_rfl) (by kernel_rfl) (fun _ _ _ h => h) (by assumption) ?_ ?_
          rotate_left
          · intro oi ho
            simp only [List.getElem?_toArray, List.getElem?_cons_succ, List.getElem?_cons_zero, Option.some.injEq] at ho
            subst ho
            intro w hSw
            obtain ⟨e0, e1, e2, e3, e4, e5⟩ := hSw.facts HE.out
            go_simp
            (try with_reducible rfl)
          (try simp only [Act.put, List.setIfInBounds_toArray, List.set_cons_zero, List.set_cons_succ])
          refine take_y (i := 4) (d := some 64) (v := ?_) rfl rfl (by kernel_rfl) (by kernel_rfl) (by kernel_rfl) (fun _ _ _ h => h) (by assumption) ?_ ?_
          rotate_left
          · intro oi ho
            simp only [List.getElem?_toArray, List.getElem?_cons_succ, List.getElem?_cons_zero, Option.some.injEq] at ho
            subst ho
            intro w hSw
            obtain ⟨e0, e1, e2, e3, e4, e5⟩ := hSw.facts HE.out
            go_simp
            (try with_reducible rfl)
          (try simp only [Act.put, List.setIfInBounds_toArray, List.set_cons_zero, List.set_cons_succ])
          refine take_y (i := 5) (d := some 65) (v := ?_) rfl rfl (by kernel_rfl) (by kernel_rfl) (by kernel_rfl) (fun _ _ _ h => h) (by assumption) ?_ ?_
          rotate_left
          · intro oi ho
            simp only [List.getElem?_toArray, List.getElem?_cons_succ, List.getElem?_cons_zero, Option.some.injEq] at ho
            subst ho
            intro w hSw
            obtain ⟨e0, e1, e2, e3, e4, e5⟩ := hSw.facts HE.out
            go_simp
            (try with_reducible rfl)
          (try simp only [Act.put, List.setIfInBounds_toArray, List.set_cons_zero, List.set_cons_succ])
          refine take_y (i := 6) (d := some 66) (v := ?_) rfl rfl (by kernel_rfl) (by kernel_rfl) (by kernel_rfl) (fun _ _ _ h => h) (by assumption) ?_ ?_
          rotate_left
          · intro oi ho
            simp only [List.getElem?_toArray, List.getElem?_cons_succ, List.getElem?_cons_zero, Option.some.injEq] at ho
            subst ho
            intro w hSw
            obtain ⟨e0, e1, e2, e3, e4, e5⟩ := hSw.facts HE.out
            go_simp
            (try with_reducible rfl)
          (try simp only [Act.put, List.setIfInBounds_toArray, List.set_cons_zero, List.set_cons_succ])
          refine take_y (i := 7) (d := some 67) (v := ?_) rfl rfl (by kernel_rfl) (by kernel_rfl) (by kernel_rfl) (fun _ _ _ h => h) (by assumption) ?_ ?_
          rotate_left
          · intro oi ho
            simp only [List.getElem?_toArray, List.getElem?_cons_succ, List.getElem?_cons_zero, Option.some.injEq] at ho
            subst ho
            intro w hSw
            obtain ⟨e0, e1, e2, e3, e4, e5⟩ := hSw.facts HE.out
            go_simp
            (try with_reducible rfl)
          (try simp only [Act.put, List.setIfInBounds_toArray, List.set_cons_zero, List.set_cons_succ])
          have hbxd : BoxN wo.drew bx d := HBX.out.below (Below.refl _ _).drew
          obtain ⟨⟨b0, b1, b2, b3⟩, _⟩ := hbxd.cells
          refine wpAnyH_ready (rs := [0]) (by kernel_rfl) (by simp) ?_
          refine AllReadyH.cons rfl (fun K hK => ?_) AllReadyH.nil
          go_simp
          refine hK.out _ _ ?_ (fun hHeld => ?_)
          · exact HS0.out.drew
          clear hK K
          (try simp only [Act.put, List.setIfInBounds_toArray, List.set_cons_zero, List.set_cons_succ])
          clear b0 b1 b2 b3 hbxd
          refine wpAnyH_ready (rs := [8]) (by kernel_rfl) (by simp) ?_
          refine AllReadyH.cons rfl (fun K hK => ?_) AllReadyH.nil
          go_simp
          refine (HMG _).out.mono ?_
          rintro _ wm ⟨rfl, hbm⟩
          refine hK.out _ _ ?_ (fun hHeld => ?_)
          · exact hHeld.keep hbm
          clear hK K
          (try simp only [Act.put, List.setIfInBounds_toArray, List.set_cons_zero, List.set_cons_succ])
          unfold nodeV
          refine wpAnyH_ready (rs := [9]) (by kernel_rfl) (by simp) ?_
          refine AllReadyH.cons rfl (fun K hK => ?_) AllReadyH.nil
          obtain ⟨⟨k0, k1, k2, k3⟩, k4, k5, k6, k7⟩ := ((HBX.out.below (Below.refl _ _).drew).below hbm).cells
          go_simp
          refine hK.out _ _ ?_ (fun hHeld => ?_)
          · exact hHeld.set (by omega) hpl hgl (mergeN d e)
          clear hK K
          (try simp only [Act.put, List.setIfInBounds_toArray, List.set_cons_zero, List.set_cons_succ])
          refine wpAnyH_done (by kernel_rfl) ?_ _
          have hqm := (by assumption : QS w B p g n bx nd wm)
          have hq2 := hqm.set (by omega) hpl hgl (mergeN d e)
          have hbx2 := ((HBX.out.below (Below.refl _ _).drew).below hbm).set (mergeN d e)
          have hx2 := heap_set4 (box_kept (w := wo.drew) HX.out hbm) (show w.heap.size ≠ bx by omega) (.int .i64 (hiW (mergeN d e).s)) (.int .u64 (loW (mergeN d e).s)) (.int .i64 (mergeN d e).mn) (.int .i64 (mergeN d e).mx)
          obtain ⟨w2, hw2'⟩ : ∃ w2, w2 = ((((wm.setCell ⟨bx, 0, none⟩ (.int .i64 (hiW (mergeN d e).s))).setCell ⟨bx, 1, none⟩ (.int .u64 (loW (mergeN d e).s))).setCell ⟨bx, 2, none⟩ (.int .i64 (mergeN d e).mn)).setCell ⟨bx, 3, none⟩ (.int .i64 (mergeN d e).mx)) := ⟨_, rfl⟩
          rw [← hw2'] at hq2 hbx2 hx2 ⊢
          have HA1 := Lib.hid hq2.below
          have HA2 := Lib.hid hq2.tree
          have HA3 := Lib.hid hbx2
          have HA4 := Lib.hid hx2
          clear hw2' hHeld k0 k1 k2 k3 k4 k5 k6 k7 hbm HMG HS0 hqm hq2 hbx2 hx2 HBX HX HE hm3
          go_wp2_with fail
          go_meet
          exact ⟨lo + 1, mergeN d e, by go_num, Lib.hid (by omega), HQ2, HA1, HA2, HA3, HA4⟩
        · have hodn : Hid (lo % 2 = 0) := Lib.hid (by omega)
          go_wp2_with fail
          go_meet
          exact ⟨lo, d, rfl, Lib.hid ⟨hodn.out, .inl rfl⟩, HQ, HB, HT, HBX, HX⟩
      case rest =>
        obtain ⟨lo2, d2, rfl, HP, HQ2, HB2, HT2, HBX2, HX2⟩ := hcut
        clear HQ HB HT HBX HX
        obtain ⟨wp, rfl⟩ : ∃ wp : World, wp = wc := ⟨_, rfl⟩
        have hlo2 : (lo2 : Int) ≤ 401 := by have := HP.out; omega
        have hlo3 : 0 ≤ (lo2 : Int) := by omega
        have HZ2 : Hid ((lo2 : Int) / 2 = ((lo2 / 2 : Nat) : Int)) := Lib.hid (by omega)
        by_cases hodd : (hi : Int) % 2 = 1
        · obtain ⟨d, rfl⟩ : ∃ d, d = d2 := ⟨_, rfl⟩
          obtain ⟨wo, rfl⟩ : ∃ wo : World, wo = wp := ⟨_, rfl⟩
          obtain ⟨h1, hh1⟩ : ∃ h1 : Nat, hi = h1 + 1 := ⟨hi - 1, by omega⟩
          have hllt : lo2 < hi := by have := HP.out; omega
          obtain ⟨e, he⟩ := lget_some nd (hi - 1) (by rw [HT2.out.len]; omega)
          obtain ⟨hQ2, hW1, hW2⟩ := HQ2.out.right HNL.out HN.out hllt he HNQ.out hl ht
          rw [show hi - 1 = h1 by omega] at he hQ2
          have HMG := fun W => Lib.hid (merge_node d e hW1 hW2 W)
          have HE := Lib.hid he
          have hp2 : Hid (∃ x y, lo2 = 2 * x ∧ h1 = 2 * y) := Lib.hid ⟨lo2 / 2, h1 / 2, by have := HP.out; omega, by omega⟩
          have HQ3 : Hid (QIs n f t a (mergeN d e) (lo2 / 2) (h1 / 2)) := Lib.hid (by
            obtain ⟨x, y, hx, hy⟩ := hp2.out
            have : QIs n f t a (mergeN d e) (2 * x) (2 * y) := by rw [← hx, ← hy]; exact hQ2
            rw [show lo2 / 2 = x by omega, show h1 / 2 = y by omega]
            exact this.half)
          have hm3 : (h1 : Int) < 2 * (n : Int) := by omega
          have hi1 : (hi : Int) - 1 = (h1 : Int) := by omega
          have HS0 : Hid (QS w B p g n bx nd wo) := Lib.hid ⟨HB2.out, HT2.out, d, HBX2.out⟩
          have HBX := HBX2
          have HX := HX2
          clear he hQ2 hW1 hW2 HQ2 HB2 HT2 HBX2 HX2 hp2 hh1
          go_upto_region 12 with fail
          refine wp_region_held_drew (S := QS w B p g n bx nd) (by kernel_rfl) HS0.out.drew (fun hHeld => ?_)
          refine take_y (i := 1) (d := some 77) (v := ?_) rfl rfl (by kernel_rfl) (by kernel_rfl) (by kernel_rfl) (fun _ _ _ h => h) (by assumption) ?_ ?_
          rotate_left
          · intro oi ho
            simp only [List.getElem?_toArray, List.getElem?_cons_succ, List.getElem?_cons_zero, Option.some.injEq] at ho
            subst ho
            intro w hSw
            obtain ⟨e0, e1, e2, e3, e4, e5⟩ := hSw.facts HE.out
            go_simp
            (try with_reducible rfl)
          (try simp only [Act.put, List.setIfInBounds_toArray, List.set_cons_zero, List.set_cons_succ])
          refine take_y (i := 2) (d := some 78) (v := ?_) rfl rfl (by kernel_rfl) (by kernel_rfl) (by kernel_rfl) (fun _ _ _ h => h) (by assumption) ?_ ?_
          rotate_left
          · intro oi ho
            simp only [List.getElem?_toArray, List.getElem?_cons_succ, List.getElem?_cons_zero, Option.some.injEq] at ho
            subst ho
            intro w hSw
            obtain ⟨e0, e1, e2, e3, e4, e5⟩ := hSw.facts HE.out
            go_simp
            (try with_reducible rfl)
          (try simp only [Act.put, List.setIfInBounds_toArray, List.set_cons_zero, List.set_cons_succ])
          refine take_y (i := 3) (d := some 79) (v := ?_) rfl rfl (by kernel_rfl) (by kernel_rfl) (by kernel_rfl) (fun _ _ _ h => h) (by assumption) ?_ ?_
          rotate_left
          · intro oi ho
            simp only [List.getElem?_toArray, List.getElem?_cons_succ, List.getElem?_cons_zero, Option.some.injEq] at ho
            subst ho
            intro w hSw
            obtain ⟨e0, e1, e2, e3, e4, e5⟩ := hSw.facts HE.out
            go_simp
            (try with_reducible rfl)
          (try simp only [Act.put, List.setIfInBounds_toArray, List.set_cons_zero, List.set_cons_succ])
          refine take_y (i := 4) (d := some 80) (v := ?_) rfl rfl (by kernel_rfl) (by kernel_rfl) (by kernel_rfl) (fun _ _ _ h => h) (by assumption) ?_ ?_
          rotate_left
          · intro oi ho
            simp only [List.getElem?_toArray, List.getElem?_cons_succ, List.getElem?_cons_zero, Option.some.injEq] at ho
            subst ho
            intro w hSw
            obtain ⟨e0, e1, e2, e3, e4, e5⟩ := hSw.facts HE.out
            go_simp
            (try with_reducible rfl)
          (try simp only [Act.put, List.setIfInBounds_toArray, List.set_cons_zero, List.set_cons_succ])
          refine take_y (i := 5) (d := some 81) (v := ?_) rfl rfl (by kernel_rfl) (by kernel_rfl) (by kernel_rfl) (fun _ _ _ h => h) (by assumption) ?_ ?_
          rotate_left
          · intro oi ho
            simp only [List.getElem?_toArray, List.getElem?_cons_succ, List.getElem?_cons_zero, Option.some.injEq] at ho
            subst ho
            intro w hSw
            obtain ⟨e0, e1, e2, e3, e4, e5⟩ := hSw.facts HE.out
            go_simp
            (try with_reducible rfl)
          (try simp only [Act.put, List.setIfInBounds_toArray, List.set_cons_zero, List.set_cons_succ])
          refine take_y (i := 6) (d := some 82) (v := ?_) rfl rfl (by kernel_rfl) (by kernel_rfl) (by kernel_rfl) (fun _ _ _ h => h) (by assumption) ?_ ?_
          rotate_left
          · intro oi ho
            simp only [List.getElem?_toArray, List.getElem?_cons_succ, List.getElem?_cons_zero, Option.some.injEq] at ho
            subst ho
            intro w hSw
            obtain ⟨e0, e1, e2, e3, e4, e5⟩ := hSw.facts HE.out
            go_simp
            (try with_reducible rfl)
          (try simp only [Act.put, List.setIfInBounds_toArray, List.set_cons_zero, List.set_cons_succ])
          refine take_y (i := 7) (d := some 83) (v := ?_) rfl rfl (by kernel_rfl) (by kernel_rfl) (by kernel_rfl) (fun _ _ _ h => h) (by assumption) ?_ ?_
          rotate_left
          · intro oi ho
            simp only [List.getElem?_toArray, List.getElem?_cons_succ, List.getElem?_cons_zero, Option.some.injEq] at ho
            subst ho
            intro w hSw
            obtain ⟨e0, e1, e2, e3, e4, e5⟩ := hSw.facts HE.out
            go_simp
            (try with_reducible rfl)
          (try simp only [Act.put, List.setIfInBounds_toArray, List.set_cons_zero, List.set_cons_succ])
          have hbxd : BoxN wo.drew bx d := HBX.out.below (Below.refl _ _).drew
          obtain ⟨⟨b0, b1, b2, b3⟩, _⟩ := hbxd.cells
          refine wpAnyH_ready (rs := [0]) (by kernel_rfl) (by simp) ?_
          refine AllReadyH.cons rfl (fun K hK => ?_) AllReadyH.nil
          go_simp
          refine hK.out _ _ ?_ (fun hHeld => ?_)
          · exact HS0.out.drew
          clear hK K
          (try simp only [Act.put, List.setIfInBounds_toArray, List.set_cons_zero, List.set_cons_succ])
          clear b0 b1 b2 b3 hbxd
          refine wpAnyH_ready (rs := [8]) (by kernel_rfl) (by simp) ?_
          refine AllReadyH.cons rfl (fun K hK => ?_) AllReadyH.nil
          go_simp
          refine (HMG _).out.mono ?_
          rintro _ wm ⟨rfl, hbm⟩
          refine hK.out _ _ ?_ (fun hHeld => ?_)
          · exact hHeld.keep hbm
          clear hK K
          (try simp only [Act.put, List.setIfInBounds_toArray, List.set_cons_zero, List.set_cons_succ])
          unfold nodeV
          refine wpAnyH_ready (rs := [9]) (by kernel_rfl) (by simp) ?_
          refine AllReadyH.cons rfl (fun K hK => ?_) AllReadyH.nil
          obtain ⟨⟨k0, k1, k2, k3⟩, k4, k5, k6, k7⟩ := ((HBX.out.below (Below.refl _ _).drew).below hbm).cells
          go_simp
          refine hK.out _ _ ?_ (fun hHeld => ?_)
          · exact hHeld.set (by omega) hpl hgl (mergeN d e)
          clear hK K
          (try simp only [Act.put, List.setIfInBounds_toArray, List.set_cons_zero, List.set_cons_succ])
          refine wpAnyH_done (by kernel_rfl) ?_ _
          have hqm := (by assumption : QS w B p g n bx nd wm)
          have hq2 := hqm.set (by omega) hpl hgl (mergeN d e)
          have hbx2 := ((HBX.out.below (Below.refl _ _).drew).below hbm).set (mergeN d e)
          have hx2 := heap_set4 (box_kept (w := wo.drew) HX.out hbm) (show w.heap.size ≠ bx by omega) (.int .i64 (hiW (mergeN d e).s)) (.int .u64 (loW (mergeN d e).s)) (.int .i64 (mergeN d e).mn) (.int .i64 (mergeN d e).mx)
          obtain ⟨w2, hw2'⟩ : ∃ w2, w2 = ((((wm.setCell ⟨bx, 0, none⟩ (.int .i64 (hiW (mergeN d e).s))).setCell ⟨bx, 1, none⟩ (.int .u64 (loW (mergeN d e).s))).setCell ⟨bx, 2, none⟩ (.int .i64 (mergeN d e).mn)).setCell ⟨bx, 3, none⟩ (.int .i64 (mergeN d e).mx)) := ⟨_, rfl⟩
          rw [← hw2'] at hq2 hbx2 hx2 ⊢
          have HA1 := Lib.hid hq2.below
          have HA2 := Lib.hid hq2.tree
          have HA3 := Lib.hid hbx2
          have HA4 := Lib.hid hx2
          clear hw2' hHeld k0 k1 k2 k3 k4 k5 k6 k7 hbm HMG HS0 hqm hq2 hbx2 hx2 HBX HX HE hm3
          have HZ3 : Hid ((h1 : Int) / 2 = ((h1 / 2 : Nat) : Int)) := Lib.hid (by omega)
          have hh9 : 0 ≤ (h1 : Int) := by omega
          have hh8 : (h1 : Int) ≤ 400 := by omega
          have hhm : h1 / 2 < hi := by omega
          clear hi1
          go_wp2_with fail
          go_roundw
          case rel => exact ⟨lo2 / 2, h1 / 2, mergeN d e, by rw [HZ2.out], by rw [HZ3.out], HQ3, HA1, HA2, HA3, HA4⟩
          case measure => simp [intOf]; omega
        · have HZ3 : Hid ((hi : Int) / 2 = ((hi / 2 : Nat) : Int)) := Lib.hid (by omega)
          have hp2 : Hid (∃ x y, lo2 = 2 * x ∧ hi = 2 * y) := Lib.hid ⟨lo2 / 2, hi / 2, by have := HP.out; omega, by omega⟩
          have HQ3 : Hid (QIs n f t a d2 (lo2 / 2) (hi / 2)) := Lib.hid (by
            obtain ⟨x, y, hx, hy⟩ := hp2.out
            have h2 := HQ2.out
            rw [hx, hy] at h2
            rw [show lo2 / 2 = x by omega, show hi / 2 = y by omega]
            exact h2.half)
          clear hp2
          go_wp2_with fail
          go_roundw
          case rel => exact ⟨lo2 / 2, hi / 2, d2, by rw [HZ2.out], by rw [HZ3.out], HQ3, HB2, HT2, HBX2, HX2⟩
          case measure => simp [intOf]; omega
    · have HF := Lib.hid (HQ.out.done (by omega))
      obtain ⟨⟨b0, b1, b2, b3⟩, _⟩ := HBX.out.cells
      obtain ⟨⟨x0, x1, x2, x3⟩, x4, x5, x6, x7⟩ := box4 HX.out
      have hlI : ¬ ((lo : Int) < (hi : Int)) := by omega
      clear HQ HT HBX HX hlo1 hhi1
      have hzw : w.heap.size < wo.heap.size := World.block_lt_of_cell? _ _ x0
      go_wp2_with fail
      refine bodyPost_ret (v := .tuple #[nodeV d, .bool true]) (by simp [nodeV, results, Tryz.results51, go_sem, x0, x1, x2, x3]) rfl ⟨d, rfl, HF.out, ?_⟩
      exact below_set4 HB.out (Nat.le_refl _) (Nat.le_refl _) (Nat.le_refl _) (Nat.le_refl _)
end Go.Proofs.YtfmbbfidjcgeiaaGreatDoor

namespace Go.Proofs.YtfmbbfidjcgeiaaGreatDoor
open Go.RowKit Go.Lib Go.Shelf

def sumR (a : List Int) (f t : Int) : Int × Bool := if 0 ≤ f ∧ f ≤ t ∧ t ≤ (a.length : Int) ∧ In64B (sumI (elts a f.toNat t.toNat)) = true then (sumI (elts a f.toNat t.toNat), true) else (0, false)
def PairRet (w : World) (r : Int × Bool) (e : Ending) (w' : World) : Prop := e = .returned (.tuple #[.int .i64 r.1, .bool r.2]) ∧ Below w.heap.size w w'
def SmRet (w : World) (l : List Int) (f : Nd → Int) (e : Ending) (w' : World) : Prop := ∃ d, Sm l d ∧ PairRet w (f d, true) e w'
theorem pair_ret {w w' : World} {x : Int} {b : Bool} {r : Int × Bool} (h : r = (x, b)) (hb : Below w.heap.size w w') : PairRet w r (.returned (.tuple #[.int .i64 x, .bool b])) w' := by subst h; exact ⟨rfl, hb⟩
section
variable {B p g n : Nat} {a : List Int} {nd : List Nd}
set_option maxHeartbeats 4000000 in
set_option maxRecDepth 100000 in
theorem sum_no (f t : Int) (w : World) (hT : TreeAt w B p g nd n) (h : f < 0 ∨ t < f ∨ (n : Int) < t) :
    Calls Tryz.prog 23 #[.pointer (some ⟨p, 0, none⟩), .int .i64 f, .int .i64 t] w (PairRet w (0, false)) := by
  have HQ := Lib.hid (query_no f t w hT (by omega))
  have c0 := hT.c0
  clear hT
  by_cases he : f = t
  · subst he
    by_cases h1 : f < 0
    · have h2 : ¬ 0 ≤ f := by omega
      clear h
      go_enter Tryz.func23, Tryz.ntmps23
      go_wp2_with fail
      refine HQ.out.mono ?_
      rintro _ w1 ⟨d, rfl, _, hb⟩
      unfold nodeV
      go_wp2_with fail
      go_ret2
      exact pair_ret rfl (below_alloc_keep hb)
    · have h2 : 0 ≤ f := by omega
      have h3 : ¬ f ≤ (n : Int) := by omega
      clear h
      go_enter Tryz.func23, Tryz.ntmps23
      go_wp2_with fail
      refine HQ.out.mono ?_
      rintro _ w1 ⟨d, rfl, _, hb⟩
      unfold nodeV
      go_wp2_with fail
      go_ret2
      exact pair_ret rfl (below_alloc_keep hb)
  · clear h
    go_enter Tryz.func23, Tryz.ntmps23
    go_wp2_with fail
    refine HQ.out.mono ?_
    rintro _ w1 ⟨d, rfl, _, hb⟩
    unfold nodeV
    go_wp2_with fail
    go_ret2
    exact pair_ret rfl (below_alloc_keep hb)
set_option maxHeartbeats 4000000 in
set_option maxRecDepth 100000 in
theorem sum_zero (f : Nat) (w : World) (hT : TreeAt w B p g nd n) (h : f ≤ n) :
    Calls Tryz.prog 23 #[.pointer (some ⟨p, 0, none⟩), .int .i64 (f : Int), .int .i64 (f : Int)] w (PairRet w (0, true)) := by
  have c0 := hT.c0
  clear hT
  go_enter Tryz.func23, Tryz.ntmps23
  go_wp2_with fail
  go_ret2
  exact pair_ret rfl (Below.refl _ _)
set_option maxHeartbeats 4000000 in
set_option maxRecDepth 100000 in
theorem sum_yes (f t : Nat) (w : World) (hT : TreeAt w B p g nd n) (hN : TreeN a nd) (hn : a.length = n) (hq : Num64 a) (hl : n ≤ 200) (h : f < t) (ht : t ≤ n) :
    Calls Tryz.prog 23 #[.pointer (some ⟨p, 0, none⟩), .int .i64 (f : Int), .int .i64 (t : Int)] w (PairRet w (if In64B (sumI (elts a f t)) = true then (sumI (elts a f t), true) else (0, false))) := by
  have HQ := Lib.hid (query_yes f t w hT hN hn hq hl h ht)
  have hft : ¬ f = t := by omega
  generalize hr : (if In64B (sumI (elts a f t)) = true then (sumI (elts a f t), true) else (0, false)) = r
  have HR := Lib.hid hr
  clear hT hN hq hr
  go_enter Tryz.func23, Tryz.ntmps23
  go_wp2_with fail
  refine HQ.out.mono ?_
  rintro _ w1 ⟨d, rfl, hs, hb⟩
  have hI := fun W => int64_any d.s W
  have HB := Lib.hid (below_alloc_keep (o := .cells #[.int .i64 (hiW d.s), .int .u64 (loW d.s), .int .i64 d.mn, .int .i64 d.mx] 117) hb)
  have hds := hs.s
  unfold nodeV
  unfold wideV at hI
  obtain ⟨ds, mn, mx⟩ := d
  dsimp only at *
  rw [← hds] at HR
  generalize hiW ds = A at *
  generalize loW ds = C at *
  have HI := fun W => Lib.hid (hI W)
  clear hs hb hds HQ hI
  cases hq : In64B ds
  all_goals rw [hq] at HI HR
  all_goals clear hq
  · go_wp2_with fail
    refine (HI _).out.mono ?_
    rintro _ w2 ⟨x, rfl, _, hb2⟩
    go_wp2_with fail
    go_ret2
    exact pair_ret (by rw [← HR.out]; rfl) (below_keep HB.out hb2)
  · go_wp2_with fail
    refine (HI _).out.mono ?_
    rintro _ w2 ⟨x, rfl, hx, hb2⟩
    have HX := Lib.hid hx
    clear hx
    go_wp2_with fail
    go_ret2
    exact pair_ret (by rw [← HR.out, HX.out trivial]; rfl) (below_keep HB.out hb2)
set_option maxHeartbeats 4000000 in
set_option maxRecDepth 100000 in
theorem min_no (f t : Int) (w : World) (hT : TreeAt w B p g nd n) (h : f < 0 ∨ t ≤ f ∨ (n : Int) < t) :
    Calls Tryz.prog 25 #[.pointer (some ⟨p, 0, none⟩), .int .i64 f, .int .i64 t] w (PairRet w (0, false)) := by
  have HQ := Lib.hid (query_no f t w hT h)
  clear hT h
  go_enter Tryz.func25, Tryz.ntmps25
  go_wp2_with fail
  refine HQ.out.mono ?_
  rintro _ w1 ⟨d, rfl, hd, hb⟩
  have HD := Lib.hid hd.1
  have HB := Lib.hid (below_alloc_keep (o := .cells #[.int .i64 (hiW d.s), .int .u64 (loW d.s), .int .i64 d.mn, .int .i64 d.mx] 117) hb)
  clear hd hb HQ
  unfold nodeV
  go_wp2_with fail
  go_ret2
  exact pair_ret (by rw [HD.out]) HB.out
set_option maxHeartbeats 4000000 in
set_option maxRecDepth 100000 in
theorem min_yes (f t : Nat) (w : World) (hT : TreeAt w B p g nd n) (hN : TreeN a nd) (hn : a.length = n) (hq : Num64 a) (hl : n ≤ 200) (h : f < t) (ht : t ≤ n) :
    Calls Tryz.prog 25 #[.pointer (some ⟨p, 0, none⟩), .int .i64 (f : Int), .int .i64 (t : Int)] w (SmRet w (elts a f t) Nd.mn) := by
  have HQ := Lib.hid (query_yes f t w hT hN hn hq hl h ht)
  clear hT hN hq
  go_enter Tryz.func25, Tryz.ntmps25
  go_wp2_with fail
  refine HQ.out.mono ?_
  rintro _ w1 ⟨d, rfl, hd, hb⟩
  have HD := Lib.hid hd
  have HB := Lib.hid (below_alloc_keep (o := .cells #[.int .i64 (hiW d.s), .int .u64 (loW d.s), .int .i64 d.mn, .int .i64 d.mx] 117) hb)
  clear hd hb HQ
  unfold nodeV
  go_wp2_with fail
  go_ret2
  exact ⟨d, HD.out, pair_ret rfl HB.out⟩
set_option maxHeartbeats 4000000 in
set_option maxRecDepth 100000 in
theorem max_no (f t : Int) (w : World) (hT : TreeAt w B p g nd n) (h : f < 0 ∨ t ≤ f ∨ (n : Int) < t) :
    Calls Tryz.prog 24 #[.pointer (some ⟨p, 0, none⟩), .int .i64 f, .int .i64 t] w (PairRet w (0, false)) := by
  have HQ := Lib.hid (query_no f t w hT h)
  clear hT h
  go_enter Tryz.func24, Tryz.ntmps24
  go_wp2_with fail
  refine HQ.out.mono ?_
  rintro _ w1 ⟨d, rfl, hd, hb⟩
  have HD := Lib.hid hd.2
  have HB := Lib.hid (below_alloc_keep (o := .cells #[.int .i64 (hiW d.s), .int .u64 (loW d.s), .int .i64 d.mn, .int .i64 d.mx] 117) hb)
  clear hd hb HQ
  unfold nodeV
  go_wp2_with fail
  go_ret2
  exact pair_ret (by rw [HD.out]) HB.out
set_option maxHeartbeats 4000000 in
set_option maxRecDepth 100000 in
theorem max_yes (f t : Nat) (w : World) (hT : TreeAt w B p g nd n) (hN : TreeN a nd) (hn : a.length = n) (hq : Num64 a) (hl : n ≤ 200) (h : f < t) (ht : t ≤ n) :
    Calls Tryz.prog 24 #[.pointer (some ⟨p, 0, none⟩), .int .i64 (f : Int), .int .i64 (t : Int)] w (SmRet w (elts a f t) Nd.mx) := by
  have HQ := Lib.hid (query_yes f t w hT hN hn hq hl h ht)
  clear hT hN hq
  go_enter Tryz.func24, Tryz.ntmps24
  go_wp2_with fail
  refine HQ.out.mono ?_
  rintro _ w1 ⟨d, rfl, hd, hb⟩
  have HD := Lib.hid hd
  have HB := Lib.hid (below_alloc_keep (o := .cells #[.int .i64 (hiW d.s), .int .u64 (loW d.s), .int .i64 d.mn, .int .i64 d.mx] 117) hb)
  clear hd hb HQ
  unfold nodeV
  go_wp2_with fail
  go_ret2
  exact ⟨d, HD.out, pair_ret rfl HB.out⟩
end
end Go.Proofs.YtfmbbfidjcgeiaaGreatDoor

namespace Go.Proofs.YtfmbbfidjcgeiaaGreatDoor
open Go.RowKit Go.Lib

def awk8 : Tup := ⟨[], 5, 6, []⟩
theorem awk8_ext : extL (clampD 3) [awk8] = [⟨[], 5, 8, []⟩] := by
  have h : pvalid awk8.lo awk8.hi = true ∧ awk8.lo < 1000000 := by decide
  unfold extL
  rw [List.flatMap_cons, List.flatMap_nil, List.append_nil]
  unfold extT
  rw [if_pos h]
  rfl
theorem gint_ne {a b : Int} (h : a ≠ b) : cmpG (gint a) (gint b) ≠ 0 := fun e => h (by
  have := congrArg GVal.n (cmpG_zero.1 e)
  exact this)
theorem awk8_pts : mvPts [⟨[], 5, 8, []⟩] = [0, 5, 8, 1000000] := by
  refine asc_unique (mvPts_asc _) (by decide) fun x => ?_
  rw [mvPts_mem, show allEnds [⟨[], 5, 8, []⟩] = [5, 8] by decide +kernel]
  simp
  omega
theorem awk8_mov : movL [awk8] [] 0 3 1 = [⟨0, 5, gint 0⟩, ⟨5, 8, gint 1⟩, ⟨8, 1000000, gint 0⟩] := by
  unfold movL
  rw [awk8_ext, awk8_pts]
  have h : ∀ p, aggT [] 0 1 (holdL [⟨[], 5, 8, []⟩] p) = gint (holdL [⟨[], 5, 8, []⟩] p).length := fun p => by unfold aggT aggP; rw [if_pos rfl, List.length_map]
  simp only [h]
  have h0 : (holdL [⟨[], 5, 8, []⟩] 0).length = 0 := by decide +kernel
  have h1 : (holdL [⟨[], 5, 8, []⟩] 5).length = 1 := by decide +kernel
  have h2 : (holdL [⟨[], 5, 8, []⟩] 8).length = 0 := by decide +kernel
  simp only [stepsL, stepsTo, List.length_cons, List.length_nil, Nat.add_one_sub_one, List.getElem?_cons_zero, List.getElem?_cons_succ, Option.getD_some, h0, h1, h2, putStep_nil]
  show putStep (putStep [⟨0, 5, gint 0⟩] ⟨5, 8, gint 1⟩) ⟨8, 1000000, gint 0⟩ = _
  rw [putStep_new (out := [⟨0, 5, gint 0⟩]) (z := ⟨0, 5, gint 0⟩) rfl (gint_ne (by decide)), putStep_new (z := ⟨5, 8, gint 1⟩) rfl (gint_ne (by decide))]
  rfl
theorem awk8_num : Num64 [3, -1, 4] := by
  intro x hx
  simp at hx
  omega
theorem awk8_sum : sumI (elts [3, -1, 4] 0 2) = 2 := by decide +kernel
theorem awk8_max {d : Nd} (h : Sm (elts [3, -1, 4] 0 3) d) : d.mx = 4 := by
  have e : elts [3, -1, 4] 0 3 = [3, -1, 4] := by decide +kernel
  rw [e] at h
  have h1 := h.mx
  have h2 := h.high 4 (by simp)
  simp at h1
  omega
def QuietW (w : World) (e : Ending) (w' : World) : Prop := e = .returned (.bool true) ∧ Below w.heap.size w w'
set_option maxHeartbeats 8000000 in
set_option maxRecDepth 100000 in
theorem awake18_any (w : World) : Calls Tryz.prog 8 #[] w (QuietW w) := by
  have hl : Sl i64E (w.alloc (.cells #[.int .i64 3, .int .i64 (-1), .int .i64 4] 2)) free (.slice (some ⟨w.heap.size, 0, none⟩) 3 3) [3, -1, 4] :=
    Sl.of_block (World.alloc_heap_new _ _) ⟨rfl, fun i x hx => by
      rcases i with _ | _ | _ | i
      · cases hx; rfl
      · cases hx; rfl
      · cases hx; rfl
      · simp at hx⟩ id rfl (by decide) (by decide)
  have HN := Lib.hid (new_tree _ [3, -1, 4] _ hl awk8_num (by decide))
  clear hl
  go_enter Tryz.func8, Tryz.ntmps8
  go_wp2_with fail
  refine HN.out.mono ?_
  rintro _ w1 ⟨p, nd, rfl, hT, hTN, hb1⟩
  have hb1' : Below w.heap.size w w1 := below_alloc2' hb1
  have HB1 := Lib.hid hb1'
  have HT1 := Lib.hid hT
  have HTN := Lib.hid hTN
  have HS := Lib.hid (sum_yes 0 2 w1 hT hTN rfl awk8_num (by decide) (by decide) (by decide))
  rw [awk8_sum, if_pos (by decide)] at HS
  clear hb1 hb1' hT hTN HN
  go_wp2_with fail
  refine HS.out.mono ?_
  rintro _ w2 ⟨rfl, hb2⟩
  have HB2 := Lib.hid (below_keep HB1.out hb2)
  have HT2 := Lib.hid (HT1.out.below hb2)
  have HS := Lib.hid (max_yes 0 3 w2 HT2.out HTN.out rfl awk8_num (by decide) (by decide) (by decide))
  clear hb2 HT1 HB1
  go_wp2_with fail
  refine HS.out.mono ?_
  rintro _ w3 ⟨d, hd, rfl, hb3⟩
  rw [awk8_max hd]
  have HB3 := Lib.hid (below_keep HB2.out hb3)
  have HT3 := Lib.hid (HT2.out.below hb3)
  have HS := Lib.hid (min_no 1 1 w3 HT3.out (by omega))
  clear hb3 HT2 HB2 hd
  go_wp2_with fail
  refine HS.out.mono ?_
  rintro _ w4 ⟨rfl, hb4⟩
  have HB4 := Lib.hid (below_keep HB3.out hb4)
  have HT4 := Lib.hid (HT3.out.below hb4)
  have HL : Hid (Sl tupE (w4.alloc (.cells #[.slice none 0 0, .int .i64 5, .int .i64 6, .slice none 0 0] 48)) free (.slice (some ⟨w4.heap.size, 0, none⟩) 1 1) [awk8]) := Lib.hid ((own_lit (E := tupE) (Els.one ⟨_, _, rfl, Sl.nil _ _ _ _ _, Sl.nil _ _ _ _ _⟩) rfl (by decide)).sl)
  have HM := Lib.hid (moving_any _ (.slice none 0 0) [awk8] [] 0 3 1 _ HL.out (Sl.nil _ _ _ _ _) (by decide) (by decide) (by simp) (by simp [awk8]))
  rw [awk8_mov] at HM
  clear hb4 HT3 HB3 HL
  go_wp2_with fail
  refine HM.out.mono ?_
  rintro _ w5 ⟨vs, rfl, hO, hb5⟩
  obtain ⟨g, c, rfl⟩ := hO.shape_pos (by decide)
  have HB5 := Lib.hid (below_keep HB4.out (below_alloc2' hb5))
  have HT5 := Lib.hid (HT4.out.below (below_alloc2' hb5))
  obtain ⟨s0, s1, _, _, _⟩ := stp_at (k := 1) hO rfl
  have HS := Lib.hid (len_tree w5 HT5.out)
  clear hb5 HT4 HB4 hO HM
  go_wp2_with fail
  refine HS.out.mono ?_
  rintro _ _ ⟨rfl, rfl⟩
  go_wp2_with fail
  go_ret
  exact ⟨rfl, HB5.out⟩
end Go.Proofs.YtfmbbfidjcgeiaaGreatDoor

namespace Go.Proofs.YtfmbbfidjcgeiaaGreatDoor
open Go.RowKit Go.Lib

def hi32 (x : Int) : Int := x / 4294967296
def lo32 (x : Int) : Int := x % 4294967296
def hiS : List Int → Int
  | [] => 0
  | x :: l => hi32 x + hiS l
def loS : List Int → Int
  | [] => 0
  | x :: l => lo32 x + loS l
theorem hiS_append : ∀ l m : List Int, hiS (l ++ m) = hiS l + hiS m
  | [], m => by simp [hiS]
  | x :: l, m => by rw [List.cons_append, hiS, hiS, hiS_append l m]; omega
theorem loS_append : ∀ l m : List Int, loS (l ++ m) = loS l + loS m
  | [], m => by simp [loS]
  | x :: l, m => by rw [List.cons_append, loS, loS, loS_append l m]; omega
theorem hilo_sum : ∀ l : List Int, hiS l * 4294967296 + loS l = sumI l
  | [] => rfl
  | x :: l => by
    have := hilo_sum l
    rw [hiS, loS, sumI]
    unfold hi32 lo32
    omega
theorem hiS_bound : ∀ {l : List Int}, (∀ x ∈ l, In64 x) → -(2147483648 * (l.length : Int)) ≤ hiS l ∧ hiS l ≤ 2147483648 * (l.length : Int) ∧ 0 ≤ loS l ∧ loS l ≤ 4294967296 * (l.length : Int)
  | [], _ => by simp [hiS, loS]
  | x :: l, h => by
    have h1 := hiS_bound (l := l) fun y hy => h y (List.mem_cons_of_mem _ hy)
    have h2 := h x (List.mem_cons_self ..)
    rw [hiS, loS, List.length_cons]
    unfold In64 at h2
    unfold hi32 lo32
    omega
/-- The halves at the end, and whether the sum fits. -/
theorem halves_fit (l : List Int) : In64 (sumI l) ↔ (-2147483648 ≤ hiS l + hi32 (loS l) ∧ hiS l + hi32 (loS l) < 2147483648) := by
  rw [← hilo_sum]
  unfold In64 hi32
  omega
theorem halves_back (l : List Int) : (hiS l + hi32 (loS l)) * 4294967296 + lo32 (loS l) = sumI l := by
  rw [← hilo_sum]
  unfold hi32 lo32
  omega
theorem and_mask (n : Int) : bits .and .i64 n 4294967295 = lo32 n := by
  have hc : (BitVec.ofInt 64 4294967295).toNat = 2 ^ 32 - 1 := by decide
  have key : (BitVec.ofInt 64 n &&& BitVec.ofInt 64 4294967295).toNat = (n % ((2 ^ 64 : Nat) : Int)).toNat % 2 ^ 32 := by
    rw [BitVec.toNat_and, BitVec.toNat_ofInt, hc, Nat.and_two_pow_sub_one_eq_mod]
  show IntKind.i64.wrap ((BitVec.ofInt 64 n &&& BitVec.ofInt 64 4294967295).toNat : Nat) = lo32 n
  rw [key, IntKind.wrap_i64]
  unfold lo32
  omega
theorem or_join (h lo : Int) (h1 : -2147483648 ≤ h) (h2 : h < 2147483648) (l1 : 0 ≤ lo) (l2 : lo < 4294967296) : bits .or .i64 (h * 4294967296) lo = h * 4294967296 + lo := by
  have e1 : ((h * 4294967296) % ((2 ^ 64 : Nat) : Int)).toNat = 2 ^ 32 * (h % 4294967296).toNat := by omega
  have e2 : (lo % ((2 ^ 64 : Nat) : Int)).toNat = lo.toNat := by omega
  have key : (BitVec.ofInt 64 (h * 4294967296) ||| BitVec.ofInt 64 lo).toNat = 2 ^ 32 * (h % 4294967296).toNat + lo.toNat := by
    rw [BitVec.toNat_or, BitVec.toNat_ofInt, BitVec.toNat_ofInt, e1, e2, ← Nat.two_pow_add_eq_or_of_lt (by omega)]
  show IntKind.i64.wrap ((BitVec.ofInt 64 (h * 4294967296) ||| BitVec.ofInt 64 lo).toNat : Nat) = _
  rw [key, IntKind.wrap_i64]
  omega
end Go.Proofs.YtfmbbfidjcgeiaaGreatDoor

namespace Go.Proofs.YtfmbbfidjcgeiaaGreatDoor
open Go.RowKit Go.Lib

/-- The best value so far, found one by one, Null first. -/
def best1 (sg : Int) (b v : GVal) : GVal := if v.kind ≠ 0 ∧ (b.kind = 0 ∨ cmpG v b = sg) then v else b
def bestL (sg : Int) : GVal → List GVal → GVal
  | b, [] => b
  | b, v :: l => bestL sg (best1 sg b v) l
theorem bestL_set {sg : Int} : ∀ (l : List GVal) (b : GVal), b.kind ≠ 0 → bestL sg b l = bestG sg b (nonNull l)
  | [], _, _ => rfl
  | v :: l, b, hb => by
    rw [bestL]
    by_cases hv : v.kind = 0
    · rw [show best1 sg b v = b by unfold best1; rw [if_neg (fun h => h.1 hv)], bestL_set l b hb, show nonNull (v :: l) = nonNull l by unfold nonNull; rw [List.filter_cons_of_neg (by simp [hv])]]
    · rw [show nonNull (v :: l) = v :: nonNull l by unfold nonNull; rw [List.filter_cons_of_pos (by simp [hv])], bestG]
      by_cases hc : cmpG v b = sg
      · rw [show best1 sg b v = v by unfold best1; rw [if_pos ⟨hv, .inr hc⟩], if_pos hc]
        exact bestL_set l v hv
      · rw [show best1 sg b v = b by unfold best1; rw [if_neg (fun h => h.2.elim hb hc)], if_neg hc]
        exact bestL_set l b hb
theorem bestL_start {sg : Int} : ∀ (l : List GVal), bestL sg gnull l = extG sg (nonNull l)
  | [] => rfl
  | v :: l => by
    rw [bestL]
    by_cases hv : v.kind = 0
    · rw [show best1 sg gnull v = gnull by unfold best1; rw [if_neg (fun h => h.1 hv)], bestL_start l, show nonNull (v :: l) = nonNull l by unfold nonNull; rw [List.filter_cons_of_neg (by simp [hv])]]
    · rw [show nonNull (v :: l) = v :: nonNull l by unfold nonNull; rw [List.filter_cons_of_pos (by simp [hv])], show best1 sg gnull v = v by unfold best1; rw [if_pos ⟨hv, .inl rfl⟩], bestL_set l v hv]
      rfl
theorem bestL_snoc {sg : Int} : ∀ (l : List GVal) (b v : GVal), bestL sg b (l ++ [v]) = best1 sg (bestL sg b l) v
  | [], _, _ => rfl
  | x :: l, b, v => by rw [List.cons_append, bestL, bestL_snoc l]; rfl
end Go.Proofs.YtfmbbfidjcgeiaaGreatDoor

namespace Go.Proofs.YtfmbbfidjcgeiaaGreatDoor
open Go.RowKit Go.Lib
theorem below_keepB {B : Nat} {w W W' : World} (hB : B ≤ w.heap.size) (h : Below B w W) (hb : Below W.heap.size W W') : Below B w W' := h.trans (hb.mono (Nat.le_trans hB h.size))
/-- What the definition's AppendStep hands back. -/
def AppRet (B : Nat) (w : World) (l : List Stp) (e : Ending) (w' : World) : Prop := ∃ v, e = .returned v ∧ Own stpE w' B v l ∧ Below B w w'
theorem box5 {w : World} {g : Nat} {x y z u t : Value} {e : TypeId} (h : w.heap[g]? = some (.cells #[x, y, z, u, t] e (0, 0))) :
    w.cell? ⟨g, 0, none⟩ = some x ∧ w.cell? ⟨g, 1, none⟩ = some y ∧ w.cell? ⟨g, 2, none⟩ = some z ∧ w.cell? ⟨g, 3, none⟩ = some u ∧ w.cell? ⟨g, 4, none⟩ = some t := by
  refine ⟨?_, ?_, ?_, ?_, ?_⟩ <;> simp [World.cell?, h]
theorem stp_at2 {w : World} {G : Nat → Prop} {a : Option Addr} {n c k : Nat} {l : List Stp} {s : Stp} (h : Sl stpE w G (.slice a n c) l) (hk : l[k]? = some s) :
    ∃ b o, a = some ⟨b, o, none⟩ ∧ w.cell? ⟨b, o + k * 5, none⟩ = some (.int .i64 s.lo) ∧ w.cell? ⟨b, o + k * 5 + 1, none⟩ = some (.int .i64 s.hi) ∧ w.cell? ⟨b, o + k * 5 + 2, none⟩ = some (.int .i64 s.v.kind) ∧ w.cell? ⟨b, o + k * 5 + 3, none⟩ = some (.int .i64 s.v.n) ∧ w.cell? ⟨b, o + k * 5 + 4, none⟩ = some (.string s.v.s) := by
  obtain ⟨b, o, cs, ha, rfl, hc⟩ := h.at hk
  exact ⟨b, o, ha, hc 0 _ rfl, hc 1 _ rfl, hc 2 _ rfl, hc 3 _ rfl, hc 4 _ rfl⟩
end Go.Proofs.YtfmbbfidjcgeiaaGreatDoor

namespace Go.Proofs.YtfmbbfidjcgeiaaGreatDoor
open Go.RowKit Go.Lib

/-- An operation. -/
structure Opn where
  kind : Int
  f : Int
  t : Int
  x : Int
def opnOf (s : Opn) : List Value := [.int .i64 s.kind, .int .i64 s.f, .int .i64 s.t, .int .i64 s.x]
theorem elts_nil (a : List Int) (f : Nat) : elts a f f = [] := by unfold elts; rw [Nat.sub_self]; rfl
section
variable {B p g n : Nat} {a : List Int} {nd : List Nd}
theorem sum_all (f t : Int) (w : World) (hT : TreeAt w B p g nd n) (hN : TreeN a nd) (hn : a.length = n) (hq : Num64 a) (hl : n ≤ 200) :
    Calls Tryz.prog 23 #[.pointer (some ⟨p, 0, none⟩), .int .i64 f, .int .i64 t] w (PairRet w (sumR a f t)) := by
  by_cases h : f < 0 ∨ t < f ∨ (n : Int) < t
  · have e : sumR a f t = (0, false) := if_neg (by rw [hn]; omega)
    rw [e]
    exact sum_no f t w hT h
  · obtain ⟨f, rfl⟩ := Int.eq_ofNat_of_zero_le (show 0 ≤ f by omega)
    obtain ⟨t, rfl⟩ := Int.eq_ofNat_of_zero_le (show 0 ≤ t by omega)
    rcases Nat.lt_or_ge f t with hlt | hge
    · have := sum_yes f t w hT hN hn hq hl hlt (by omega)
      by_cases hs : In64B (sumI (elts a f t)) = true
      · rw [if_pos hs] at this
        have e : sumR a (f : Int) (t : Int) = (sumI (elts a f t), true) := if_pos ⟨by omega, by omega, by omega, hs⟩
        rw [e]; exact this
      · rw [if_neg hs] at this
        have e : sumR a (f : Int) (t : Int) = (0, false) := if_neg (fun k => hs k.2.2.2)
        rw [e]; exact this
    · obtain rfl : f = t := by omega
      have e : sumR a (f : Int) (f : Int) = (0, true) := by
        unfold sumR
        rw [Int.toNat_natCast, elts_nil]
        exact if_pos ⟨by omega, by omega, by omega, rfl⟩
      rw [e]
      exact sum_zero f w hT (by omega)
/-- A least and a greatest number of a range, if it is one. -/
def MinIs (l : List Int) (x : Int) : Prop := x ∈ l ∧ ∀ y ∈ l, x ≤ y
def MaxIs (l : List Int) (x : Int) : Prop := x ∈ l ∧ ∀ y ∈ l, y ≤ x
theorem MinIs.unique {l : List Int} {x y : Int} (h : MinIs l x) (k : MinIs l y) : x = y := Int.le_antisymm (h.2 _ k.1) (k.2 _ h.1)
theorem MaxIs.unique {l : List Int} {x y : Int} (h : MaxIs l x) (k : MaxIs l y) : x = y := Int.le_antisymm (k.2 _ h.1) (h.2 _ k.1)
/-- What Min and Max answer at a range. -/
def ExtRet (P : List Int → Int → Prop) (w : World) (a : List Int) (f t : Int) (e : Ending) (w' : World) : Prop :=
  ∃ (x : Int) (q : Bool), PairRet w (x, q) e w' ∧ (q = true ↔ 0 ≤ f ∧ f < t ∧ t ≤ (a.length : Int)) ∧ (q = true → P (elts a f.toNat t.toNat) x) ∧ (q = false → x = 0)
theorem min_all (f t : Int) (w : World) (hT : TreeAt w B p g nd n) (hN : TreeN a nd) (hn : a.length = n) (hq : Num64 a) (hl : n ≤ 200) :
    Calls Tryz.prog 25 #[.pointer (some ⟨p, 0, none⟩), .int .i64 f, .int .i64 t] w (ExtRet MinIs w a f t) := by
  by_cases h : f < 0 ∨ t ≤ f ∨ (n : Int) < t
  · exact (min_no f t w hT h).mono fun e w' hp => ⟨0, false, hp, ⟨(fun h => by cases h), fun k => by rw [hn] at k; omega⟩, (fun h => by cases h), fun _ => rfl⟩
  · obtain ⟨f, rfl⟩ := Int.eq_ofNat_of_zero_le (show 0 ≤ f by omega)
    obtain ⟨t, rfl⟩ := Int.eq_ofNat_of_zero_le (show 0 ≤ t by omega)
    refine (min_yes f t w hT hN hn hq hl (by omega) (by omega)).mono fun e w' ⟨d, hd, hp⟩ => ⟨d.mn, true, hp, ⟨fun _ => by rw [hn]; omega, fun _ => rfl⟩, fun _ => ?_, fun h => by cases h⟩
    rw [Int.toNat_natCast, Int.toNat_natCast]
    exact ⟨hd.mn, hd.low⟩
theorem max_all (f t : Int) (w : World) (hT : TreeAt w B p g nd n) (hN : TreeN a nd) (hn : a.length = n) (hq : Num64 a) (hl : n ≤ 200) :
    Calls Tryz.prog 24 #[.pointer (some ⟨p, 0, none⟩), .int .i64 f, .int .i64 t] w (ExtRet MaxIs w a f t) := by
  by_cases h : f < 0 ∨ t ≤ f ∨ (n : Int) < t
  · exact (max_no f t w hT h).mono fun e w' hp => ⟨0, false, hp, ⟨(fun h => by cases h), fun k => by rw [hn] at k; omega⟩, (fun h => by cases h), fun _ => rfl⟩
  · obtain ⟨f, rfl⟩ := Int.eq_ofNat_of_zero_le (show 0 ≤ f by omega)
    obtain ⟨t, rfl⟩ := Int.eq_ofNat_of_zero_le (show 0 ≤ t by omega)
    refine (max_yes f t w hT hN hn hq hl (by omega) (by omega)).mono fun e w' ⟨d, hd, hp⟩ => ⟨d.mx, true, hp, ⟨fun _ => by rw [hn]; omega, fun _ => rfl⟩, fun _ => ?_, fun h => by cases h⟩
    rw [Int.toNat_natCast, Int.toNat_natCast]
    exact ⟨hd.mx, hd.high⟩
end
/-- What 'total' answers. -/
def totR (l : List Int) : Int × Bool := if l = [] then (0, true) else if In64B (sumI l) = true then (sumI l, true) else (0, false)
theorem sumR_legal {a : List Int} {f t : Nat} (h : f ≤ t) (ht : t ≤ a.length) : sumR a (f : Int) (t : Int) = totR (elts a f t) := by
  unfold sumR totR
  rw [Int.toNat_natCast, Int.toNat_natCast]
  by_cases e : elts a f t = []
  · rw [e, if_pos rfl]
    exact if_pos ⟨by omega, by omega, by omega, rfl⟩
  · rw [if_neg e]
    by_cases hs : In64B (sumI (elts a f t)) = true
    · rw [if_pos hs]; exact if_pos ⟨by omega, by omega, by omega, hs⟩
    · rw [if_neg hs]; exact if_neg fun k => hs k.2.2.2
theorem sumR_illegal {a : List Int} {f t : Int} (h : ¬ (0 ≤ f ∧ f ≤ t ∧ t ≤ (a.length : Int))) : sumR a f t = (0, false) := if_neg fun k => h ⟨k.1, k.2.1, k.2.2.1⟩
theorem intsL_gint : ∀ l : List Int, intsL (l.map gint) = l
  | [] => rfl
  | x :: l => by
    have := intsL_gint l
    unfold intsL at *
    rw [List.map_cons, List.filter_cons, if_pos (show ((gint x).kind == 1) = true from rfl), List.map_cons, this]
    rfl
theorem totR_sum (l : List Int) : totR l = ((aggP 2 (l.map gint)).n, (aggP 2 (l.map gint)).kind == 1 || decide (l.length = 0)) := by
  have e : aggP 2 (l.map gint) = sumG (l.map gint) := rfl
  rw [e]
  unfold totR sumG
  rw [intsL_gint]
  by_cases h : l = []
  · subst h; rfl
  · rw [if_neg h]
    have h0 : decide (l.length = 0) = false := by rw [decide_eq_false_iff_not, List.length_eq_zero_iff]; exact h
    rw [h0]
    by_cases hs : In64B (sumI l) = true
    · rw [if_pos hs, if_neg (by rintro (k | k); exact h k; exact k (In64B_iff.1 hs))]
      rfl
    · rw [if_neg hs, if_pos (.inr fun k => hs (In64B_iff.2 k))]
      rfl
/-- The least and the greatest so far. -/
def ExtI (a : List Int) (f i : Nat) (low high : Int) : Prop := (i = f ∧ low = 0 ∧ high = 0) ∨ (f < i ∧ MinIs (elts a f i) low ∧ MaxIs (elts a f i) high)
theorem elts_snoc {a : List Int} {f i : Nat} {x : Int} (h : f ≤ i) (hx : a[i]? = some x) : elts a f (i + 1) = elts a f i ++ [x] := by
  rw [elts_split h (Nat.le_succ i), elts_one]
  unfold elt
  rw [hx]
  rfl
theorem ExtI.step {a : List Int} {f i : Nat} {low high x : Int} (h : ExtI a f i low high) (hf : f ≤ i) (hx : a[i]? = some x) :
    ExtI a f (i + 1) (if i = f ∨ x < low then x else low) (if i = f ∨ high < x then x else high) := by
  refine .inr ⟨by omega, ?_⟩
  rw [elts_snoc hf hx]
  rcases h with ⟨rfl, _, _⟩ | ⟨hlt, ⟨h1, h2⟩, h3, h4⟩
  · rw [if_pos (.inl rfl), if_pos (.inl rfl), elts_nil]
    exact ⟨⟨by simp, by simp⟩, ⟨by simp, by simp⟩⟩
  · have hne : ¬ i = f := by omega
    have hm : ∀ y ∈ elts a f i ++ [x], y ∈ elts a f i ∨ y = x := fun y hy => by
      rcases List.mem_append.1 hy with hy | hy
      · exact .inl hy
      · exact .inr (List.mem_singleton.1 hy)
    refine ⟨?_, ?_⟩
    · by_cases e : x < low
      · rw [if_pos (.inr e)]
        refine ⟨List.mem_append.2 (.inr (List.mem_singleton.2 rfl)), fun y hy => ?_⟩
        rcases hm y hy with hy | rfl
        · have := h2 y hy; omega
        · omega
      · rw [if_neg (by rintro (k | k); exact hne k; exact e k)]
        refine ⟨List.mem_append.2 (.inl h1), fun y hy => ?_⟩
        rcases hm y hy with hy | rfl
        · exact h2 y hy
        · omega
    · by_cases e : high < x
      · rw [if_pos (.inr e)]
        refine ⟨List.mem_append.2 (.inr (List.mem_singleton.2 rfl)), fun y hy => ?_⟩
        rcases hm y hy with hy | rfl
        · have := h4 y hy; omega
        · omega
      · rw [if_neg (by rintro (k | k); exact hne k; exact e k)]
        refine ⟨List.mem_append.2 (.inl h3), fun y hy => ?_⟩
        rcases hm y hy with hy | rfl
        · exact h4 y hy
        · omega
end Go.Proofs.YtfmbbfidjcgeiaaGreatDoor

namespace Go.Proofs.YtfmbbfidjcgeiaaGreatDoor
open Go.RowKit Go.Lib

theorem valueL_drop {l : List Stp} {k : Nat} {s : Stp} {d : Int} (h : l[k]? = some s) : valueL (l.drop k) d = if s.lo ≤ d ∧ d < s.hi then s.v else valueL (l.drop (k + 1)) d := by
  obtain ⟨h1, rfl⟩ := List.getElem?_eq_some_iff.1 h
  rw [List.drop_eq_getElem_cons h1]
  rfl
set_option maxHeartbeats 4000000 in
set_option maxRecDepth 100000 in
theorem value18_any (v : Value) (l : List Stp) (d : Int) (w : World) (hv : Sl stpE w free v l) :
    Calls Tryz.prog 9 #[v, .int .i64 d] w fun e w' => e = .returned (aggG (valueL l d)) ∧ Below w.heap.size w w' := by
  obtain ⟨a, c, rfl⟩ := hv.shape
  have h63 := hv.1
  obtain ⟨n, hn⟩ : ∃ n, n = l.length := ⟨_, rfl⟩
  have HV := Lib.hid hv
  have HN := Lib.hid hn
  obtain ⟨res, hres⟩ : ∃ r, r = valueL l d := ⟨_, rfl⟩
  have HRES := Lib.hid hres
  rw [← hres]
  rw [← hn] at HV h63 ⊢
  have hB0 := below_alloc w (.cells #[.int .i64 0, .int .i64 0, .string ⟨#[]⟩] 40)
  have hr0 : BoxV (w.alloc (.cells #[.int .i64 0, .int .i64 0, .string ⟨#[]⟩] 40)) w.heap.size gnull := World.alloc_heap_new _ _
  obtain ⟨w1, hw1⟩ : ∃ w1, w1 = w.alloc (.cells #[.int .i64 0, .int .i64 0, .string ⟨#[]⟩] 40) := ⟨_, rfl⟩
  rw [← hw1] at hB0 hr0
  have HW1 := Lib.hid hw1
  have HB1 := Lib.hid hB0
  have HX1 := Lib.hid hr0
  clear hv hn hw1 hB0 hr0 hres
  go_enter Tryz.func9, Tryz.ntmps9
  go_wp2_with fail
  rw [← HW1.out]
  go_loopw [9] (fun i wr => ∃ k : Nat, k ≤ n ∧ i = .int .i64 (k : Int) ∧ Hid (res = valueL (l.drop k) d) ∧ Hid (Below w.heap.size w wr) ∧ Hid (BoxV wr w.heap.size gnull)) (fun i _ => n - (intOf i).toNat)
  case atStart => exact ⟨0, Nat.zero_le _, rfl, HRES, HB1, HX1⟩
  case round =>
    obtain ⟨k, hk, rfl, HR, HB, HX⟩ := hrel
    obtain ⟨wo, rfl⟩ : ∃ wo : World, wo = wr := ⟨_, rfl⟩
    by_cases hlt : k < n
    · obtain ⟨s, hs⟩ := lget_some l k (by rw [← HN.out]; exact hlt)
      obtain ⟨b1, o1, rfl, p0, p1, p2, p3, p4⟩ := stp_at2 (HV.out.below HB.out) hs
      have HD := Lib.hid (valueL_drop (d := d) hs)
      obtain ⟨slo, shi, sk, sn, ss⟩ := s
      dsimp only at p0 p1 p2 p3 p4 HD
      have hg := World.alloc_heap_new wo (.cells #[.int .i64 slo, .int .i64 shi, .int .i64 sk, .int .i64 sn, .string ss] 75)
      obtain ⟨d0, d1, d2, d3, d4⟩ := box5 hg
      have hb := below_alloc wo (.cells #[.int .i64 slo, .int .i64 shi, .int .i64 sk, .int .i64 sn, .string ss] 75)
      have HB2 := Lib.hid (below_keep HB.out hb)
      have HX2 := Lib.hid (HX.out.below hb)
      clear hs hg hb HB1 HX1 HW1
      by_cases hq : slo ≤ d ∧ d < shi
      · have HR2 : Hid (res = ⟨sk, sn, ss⟩) := Lib.hid (by rw [HR.out, HD.out, if_pos hq])
        obtain ⟨hq1, hq2⟩ := hq
        obtain ⟨⟨r0, r1, r2⟩, f0, f1, f2⟩ := HX2.out.cells
        have hzw := HX2.out.lt
        clear HR HD HX HB
        go_wp2_with fail
        refine bodyPost_ret (v := aggG ⟨sk, sn, ss⟩) (by simp [aggG, results, Tryz.results9, go_sem, r0, r1, r2]) rfl ⟨by rw [HR2.out], ?_⟩
        exact below_box3 HB2.out (Nat.le_refl _)
      · have HR2 : Hid (res = valueL (l.drop (k + 1)) d) := Lib.hid (by rw [HR.out, HD.out, if_neg hq])
        clear HR HD HX HB
        by_cases hq1 : slo ≤ d
        · have hq2 : ¬ d < shi := fun h => hq ⟨hq1, h⟩
          clear hq
          go_wp2_with fail
          go_roundw
          case rel => exact ⟨k + 1, by omega, by go_num, HR2, HB2, HX2⟩
          case measure => simp [intOf]; omega
        · clear hq
          go_wp2_with fail
          go_roundw
          case rel => exact ⟨k + 1, by omega, by go_num, HR2, HB2, HX2⟩
          case measure => simp [intOf]; omega
    · have HR2 : Hid (res = ⟨-1, 0, ⟨#[]⟩⟩) := Lib.hid (by rw [HR.out, List.drop_eq_nil_of_le (by rw [← HN.out]; omega)]; rfl)
      obtain ⟨⟨r0, r1, r2⟩, f0, f1, f2⟩ := HX.out.cells
      have hzw := HX.out.lt
      clear HR HX HB1 HX1 HW1
      go_wp2_with fail
      refine bodyPost_ret (v := aggG ⟨-1, 0, ⟨#[]⟩⟩) (by simp [aggG, results, Tryz.results9, go_sem, r0, r1, r2]) rfl ⟨by rw [HR2.out], ?_⟩
      exact below_box3 HB.out (Nat.le_refl _)
set_option maxHeartbeats 1000000 in
theorem column_any (w : World) : Calls Tryz.prog 7 #[] w (RetOwn expE w [colX]) := by
  go_enter Tryz.func7, Tryz.ntmps7
  go_wp2_with fail
  go_ret
  exact ⟨_, rfl, own_lit (E := expE) (Els.one rfl) rfl (by decide), below_alloc _ _⟩
end Go.Proofs.YtfmbbfidjcgeiaaGreatDoor

namespace Go.Proofs.YtfmbbfidjcgeiaaGreatDoor
open Go.RowKit Go.Lib

theorem tups_in64 (l : List U5) (m : Nat) : ∀ t ∈ tupsOf l m, ∀ x ∈ t.vals, In64 x.n := fun t ht x hx => ((tups_keyable l m t ht).vals x hx).2.1
theorem tups_lin1' (l : List U5) (m : Nat) : ∀ t ∈ tupsOf l m, t.lin.length ≤ 1 := fun t ht => by
  obtain ⟨z, _, rfl⟩ := List.mem_map.1 ht
  exact Nat.le_refl _
theorem gAll_len (e : List GExp) (kind : Int) (l : List Tup) : (gAll e kind l).length ≤ 2 * l.length + 2 := by
  unfold gAll
  rw [gTo_len]
  have := mvPts_len l
  omega
set_option maxHeartbeats 8000000 in
set_option maxRecDepth 100000 in
theorem oneday_walk (v : Value) (l0 : List U5) (x1 x2 : Nat) (w : World) (hv : Sl u5E w free v l0) (hok : ∀ x ∈ l0, x.ok) (h1 : x1 < 256) (h2 : x2 < 65536) (hD : Days w) (hT : Pow w) :
    Calls Tryz.prog 3 #[v, .int .u8 (x1 : Int), .int .u16 (x2 : Int)] w (QuietW w) := by
  have HTU := Lib.hid (tuples_any v l0 12 (by omega) w hv hok)
  obtain ⟨d, hd⟩ : ∃ d : Nat, d = x2 % 60 := ⟨_, rfl⟩
  have hd80 : d < 60 := by omega
  have e1 : (x2 : Int) % 60 = (d : Int) := by omega
  obtain ⟨kd, hkd⟩ : ∃ kd : Int, kd = 1 + (x1 : Int) % 4 := ⟨_, rfl⟩
  have hkd1 : 1 ≤ kd ∧ kd ≤ 4 := by omega
  have hday := tupsOf_days l0 12
  have h64 := tups_in64 l0 12
  have hlin := tups_lin1' l0 12
  have hkey := gAll_keyable l0 12 (by omega) kd
  have hll := tupsOf_length l0 12
  generalize tupsOf l0 12 = l at HTU hday h64 hll hlin hkey
  obtain ⟨lin, hat⟩ := gAll_day (e := [colX]) (kind := kd) hday (show 0 ≤ (d : Int) by omega) (show (d : Int) < 1000000 by omega)
  have hmo := moving_one (e := [colX]) (kind := kd) hday (show 0 ≤ (d : Int) by omega) (show (d : Int) < 1000000 by omega)
  obtain ⟨ag, hag⟩ : ∃ ag, ag = aggT [colX] 0 kd (holdL l (d : Int)) := ⟨_, rfl⟩
  rw [← hag] at hat hmo
  have hgl := gAll_len [colX] kd l
  obtain ⟨m, hm⟩ : ∃ m, m = l.length := ⟨_, rfl⟩
  have HM := Lib.hid hm
  have H64 := Lib.hid h64
  have HDY := Lib.hid hday
  have HLI := Lib.hid hlin
  have HKY := Lib.hid hkey
  have HAT := Lib.hid hat
  have HMO := Lib.hid hmo
  have HGL := Lib.hid hgl
  have HDD := Lib.hid hD
  have HTT := Lib.hid hT
  have HKD := Lib.hid hkd
  rw [← hm] at hll
  clear hv hok hday h64 hlin hkey hat hmo hgl hm hag hd hD hT hkd
  go_enter Tryz.func3, Tryz.ntmps3
  go_wp2_with fail
  refine HTU.out.mono ?_
  rintro _ w1 ⟨v1, rfl, hO1, hb1⟩
  obtain ⟨a1, c1, rfl⟩ := hO1.shape
  have HL1 := Lib.hid hO1.sl
  have HB1 := Lib.hid hb1
  rw [← HM.out] at HL1 ⊢
  clear hO1 hb1 HTU
  go_upto_region 4 with fail
  rw [← HKD.out]
  clear e1
  have HAW := fun W => Lib.hid (awake18_any W)
  have HCL := fun W => Lib.hid (column_any W)
  go_wp2_with fail
  refine (HCL _).out.mono ?_
  rintro _ w2 ⟨v2, rfl, hO2, hb2⟩
  obtain ⟨w3, hw3⟩ : ∃ w3, w3 = w2.alloc (.cells #[.int .i64 kd, .int .i64 0] 32) := ⟨_, rfl⟩
  have hb3 : Below w2.heap.size w2 w3 := by rw [hw3]; exact below_alloc _ _
  have hbx : w3.heap[w2.heap.size]? = some (.cells #[.int .i64 kd, .int .i64 0] 32 (0, 0)) := by rw [hw3]; exact World.alloc_heap_new _ _
  obtain ⟨y0, y1, _, _⟩ := box_two hbx
  have hB13 := below_keep hb2 hb3
  have HB3 := Lib.hid (below_keep HB1.out hB13)
  have HL3 := Lib.hid (HL1.out.below hB13)
  have hpre : GagPre w3 w2.heap.size (.slice a1 m c1) v2 l [colX] kd := ⟨HL3.out, hO2.sl.below hb3, y0, y1, by rw [← HM.out]; exact hll, by decide, (by simp [colX]; exact in64_gnull), HDY.out, H64.out, HLI.out, HKY.out, HDD.out.below HB3.out, HTT.out.below HB3.out⟩
  have HGG := Lib.hid (gagg_any _ 1 _ _ l [colX] kd w3 hpre)
  have HW3 := Lib.hid hw3
  obtain ⟨a2, c2, rfl⟩ := hO2.shape
  clear hO2 hb2 hw3 hb3 hbx y0 y1 hB13 hpre HB1 HL1
  go_wp2_with fail
  rw [← HW3.out]
  refine HGG.out.mono ?_
  rintro _ w4 ⟨T, hT, hTl, v4, rfl, hO4, hb4⟩
  have hTk := hT.keyable HKY.out
  have hsr : sortR (atDay T (d : Int)) = [⟨[ag], lin⟩] := by
    have h1 := (sortR_perm (atDay T (d : Int))).trans ((hT.day (d : Int)).trans (by rw [HAT.out]))
    exact List.perm_singleton.1 h1
  have hTL : T.length ≤ 100000 := by have := HGL.out; rw [← HM.out] at this; omega
  have HTS := Lib.hid (timeslice_any _ T (d : Int) w4 hO4.sl hTL (fun x hx => ⟨(hTk x hx).nv, (hTk x hx).nl⟩))
  rw [hsr] at HTS
  have HB4 := Lib.hid (below_keep HB3.out hb4)
  have HL4 := Lib.hid (HL3.out.below hb4)
  obtain ⟨a4, c4, rfl⟩ := hO4.shape
  clear hT hTl hTk hsr hTL hO4 hb4 HGG HW3 HB3 HL3
  generalize T.length = nT at HTS ⊢
  go_wp2_with fail
  refine HTS.out.mono ?_
  rintro _ w5 ⟨v5, rfl, hO5, hb5⟩
  obtain ⟨a5, c5, rfl⟩ := hO5.shape
  obtain ⟨br, orr, a6, n6, e6, m6, rfl, hv6, hl6, q0, q1⟩ := rows_at hO5.sl (k := 0) (x := ⟨[ag], lin⟩) rfl
  dsimp only at hv6 hl6 q0 q1
  obtain ⟨bv, ov, hbe, r0, r1, r2⟩ := val_at hv6 (k := 0) (x := ag) rfl
  subst hbe
  obtain ⟨gk, gn, gs⟩ := ag
  have q0' : w5.cell? ⟨br, orr, none⟩ = some (.slice (some ⟨bv, ov, none⟩) 1 n6) := q0
  have r0' : w5.cell? ⟨bv, ov, none⟩ = some (.int .i64 gk) := r0
  have r1' : w5.cell? ⟨bv, ov + 1, none⟩ = some (.int .i64 gn) := by simpa using r1
  have r2' : w5.cell? ⟨bv, ov + 2, none⟩ = some (.string gs) := by simpa using r2
  clear q0 q1 r0 r1 r2
  have HB5 := Lib.hid (below_keep HB4.out hb5)
  have HL5 := Lib.hid (HL4.out.below hb5)
  obtain ⟨L, hL⟩ : ∃ L, L = movL l [colX] 0 1 kd := ⟨_, rfl⟩
  have hMV : ∀ (W : World) (ve : Value), Below w5.heap.size w5 W → Sl expE W free ve [colX] → Hid (Calls Tryz.prog 10 #[.slice a1 m c1, ve, .int .i64 0, .int .i64 1, .int .i64 kd] W (RetOwn stpE W L)) := fun W ve h hve => by
    have := moving_any _ ve l [colX] 0 1 kd W (HL5.out.below h) hve (by rw [← HM.out]; omega) (by decide) (by simp [colX]; exact in64_gnull) H64.out
    rw [← hL] at this
    exact Lib.hid this
  have hVV : ∀ (W : World) (vs : Value), Sl stpE W free vs L → Hid (Calls Tryz.prog 9 #[vs, .int .i64 (d : Int)] W fun e w' => e = .returned (.agg #[.int .i64 gk, .int .i64 gn, .string gs]) ∧ Below W.heap.size W w') := fun W vs h => by
    have := value18_any vs L (d : Int) W h
    rw [hL, HMO.out] at this
    exact Lib.hid this
  have HMV := Lib.hid hMV
  have HVV := Lib.hid hVV
  have heq : ∀ W, (binOp .eql 40 (.agg #[.int .i64 gk, .int .i64 gn, .string gs]) (.agg #[.int .i64 gk, .int .i64 gn, .string gs])).run Tryz.prog W = .ok (.bool true) W := fun W => (val_eql ⟨gk, gn, gs⟩ ⟨gk, gn, gs⟩ W).trans (by rw [show sameG (⟨gk, gn, gs⟩ : GVal) ⟨gk, gn, gs⟩ = true by simp [sameG]])
  have hgd := val_guard
  have hb0 : Below w5.heap.size w5 w5 := .refl _ _
  clear hO5 hb5 hv6 hl6 hL hMV hVV HTS HB4 HL4
  go_upto_region 5 with fail
  have hbd : Below w5.heap.size w5 w5.drew := Below.drew (Below.refl w5.heap.size w5)
  go_region_held3 (fun W => Below w5.heap.size w5 W ∧ W.cell? ⟨br, orr, none⟩ = some (.slice (some ⟨bv, ov, none⟩) 1 n6) ∧ W.cell? ⟨bv, ov, none⟩ = some (.int .i64 gk) ∧ W.cell? ⟨bv, ov + 1, none⟩ = some (.int .i64 gn) ∧ W.cell? ⟨bv, ov + 2, none⟩ = some (.string gs))
    ((go_split_ands; refine ⟨?_, ?_, ?_, ?_, ?_⟩ <;> (first | with_reducible assumption | exact (Below.refl _ _).drew | with_reducible exact Below.drew (by assumption) | with_reducible exact cell_drew (by assumption) | with_reducible exact below_keep (by assumption) (by assumption) | with_reducible exact cell_keep (by assumption) (by assumption))))
    (first
      | (go_at_call 8; (with_reducible refine (HAW _).out.mono ?_); rintro _ wA ⟨rfl, hbA⟩)
      | (go_at_call 7; (with_reducible refine (HCL _).out.mono ?_); rintro _ wC ⟨vC, rfl, hOC, hbC⟩; have hSC := hOC.sl; go_split_ands; have hbwC : Below w5.heap.size w5 wC := below_keep (by assumption) hbC; obtain ⟨aC, cC, rfl⟩ := hOC.shape)
      | (go_at_call 10; refine (HMV.out wC _ hbwC hSC).out.mono ?_; rintro _ wM ⟨vM, rfl, hOM, hbM⟩; have hSM := hOM.sl; obtain ⟨aM, cM, rfl⟩ := hOM.shape)
      | (go_at_call 9; refine (HVV.out wM _ hSM).out.mono ?_; rintro _ wV ⟨rfl, hbV⟩))
  all_goals (
    go_split_ands
    have hbV' : Below w5.heap.size w5 wV := by with_reducible assumption
    have HBV := Lib.hid (below_keep HB5.out hbV')
    clear hbV' hbA hbC hbM hbV hbwC hOC hOM hSC hSM hbd
    go_wp2_with fail
    go_ret
    exact ⟨rfl, HBV.out⟩)
end Go.Proofs.YtfmbbfidjcgeiaaGreatDoor

namespace Go.Proofs.YtfmbbfidjcgeiaaGreatDoor
open Go.ChangeShapes Go.WideShapes Go.ChangeAt Go.RowKit

theorem own : ownKnob Tryz.prog.godebug = none := by kernel_rfl
theorem laidOut : laidOutB Tryz.prog = true := by kernel_rfl

theorem trodAll_below {H : Type} {enc : TypeId × Value → H} {W W' : World} (hb : Below W.heap.size W W') : ∀ (ts : List TypeId) (vs : List Value) (ds : List (DataW H)) (ps : List MemPlace),
    (∀ t ∈ ts, Tryz.prog.readableRec t = true ∧ t < Tryz.prog.types.size) → DataW.TrodAll enc Tryz.prog W 0 (fun _ => true) true ts vs ds ps → (∀ x ∈ ps, x.block < W.heap.size) →
    DataW.TrodAll enc Tryz.prog W' 0 (fun b => decide (b < W.heap.size)) true ts vs ds ps := by
  intro ts
  induction ts with
  | nil =>
    intro vs ds ps _ h _
    cases vs <;> cases ds <;> simp [DataW.TrodAll] at h ⊢
    exact h
  | cons t ts ih =>
    intro vs ds ps hr h hlt
    cases vs with
    | nil => simp [DataW.TrodAll] at h
    | cons v vs =>
      cases ds with
      | nil => simp [DataW.TrodAll] at h
      | cons d ds =>
        obtain ⟨p, q, h1, h2, rfl⟩ := h
        have ht := hr t (List.mem_cons_self ..)
        exact ⟨p, q, Below.trod laidOut ht.1 ht.2 h1 hb (fun x hx => hlt x (List.mem_append_left _ hx)), ih vs ds q (fun t' h' => hr t' (List.mem_cons_of_mem _ h')) h2 (fun x hx => hlt x (List.mem_append_right _ hx)), rfl⟩

/-- The post of a law's row. -/
theorem law_post {H : Type} {enc : TypeId × Value → H} {f : Func} {s : ChangeSpec} {W W' : World} {args : Array Value} {ds gs : List (DataW H)} {before : List MemPlace}
    (hvars : s.vars = []) (hres : f.resultTypes = #[4]) (hr : ∀ t ∈ f.params.toList, Tryz.prog.readableRec t = true ∧ t < Tryz.prog.types.size)
    (hs : s.fn H (ds ++ gs) = { results := [.lit (.bool true)], args := ds })
    (hW : DataW.Whole enc Tryz.prog f.params.toList s.vars false W args.toList ds gs before) (hb : Below W.heap.size W W') :
    s.post enc Tryz.prog f false true false false W args (.bool true) W' := by
  have hlt : ∀ p ∈ before, p.block < W.heap.size := fun p hp => hW.lt p hp
  obtain ⟨p, q, hA, hV, hpq, hz, hn⟩ := id hW
  have hq : q = [] := by
    rw [hvars] at hV
    cases gs with
    | nil => exact hV
    | cons _ _ => simp [DataW.TrodVars] at hV
  subst hq
  rw [List.append_nil] at hpq
  refine ⟨ds, gs, before, [], p, [], hW, ?_, ?_, ?_, World.keptBut_mono (fun x hx => ⟨hx, ?_⟩) (hb.frame (· ∈ before)), fun h => by cases h⟩
  · rw [hs, hres]
    exact trodAll_cons_mk (shut_bool Tryz.underlying4 _) trodAll_mk0
  · rw [hs]
    exact trodAll_below hb _ _ _ _ hr hA (fun x hx => hlt x (by rw [hpq]; exact hx))
  · rw [hs, hvars]; rfl
  · rw [hpq] at hx; exact .inr (.inl hx)

/-- A slice whose elements (each of 'size' cells) read as the elements of a list. -/
def SliceOf {α : Type} (w : World) (size : Nat) (R : World → α → List Value → Prop) (v : Value) (l : List α) : Prop :=
  l.length ≤ 9223372036854775807 ∧ ∃ (a : Option Addr) (c : Nat), v = .slice a l.length c ∧ l.length ≤ c ∧
    (0 < l.length → ∃ b o, a = some ⟨b, o, none⟩ ∧ ∀ i x, l[i]? = some x → ∃ cs, cs.length = size ∧ R w x cs ∧ ∀ j u, cs[j]? = some u → w.cell? ⟨b, o + i * size + j, none⟩ = some u)

theorem open_sliceOf {H : Type} {enc : TypeId × Value → H} {P : Program} {w : World} {spare : Nat → Bool} {t e : TypeId} {v : Value} {d : DataW H} {ps : List MemPlace} {α : Type} {R : World → α → List Value → Prop} {size : Nat} {base : Nat}
    (ht : P.underlying t = some (.slice e)) (hce : P.cellsOf e = size) (hsz : 0 < size) (hv : Value.okWide P w .any base t v)
    (hel : ∀ n cs y, DataW.trod enc P w 0 spare true n e cs = some y → cs.length = size → ∃ x, R w x cs)
    (h : DataW.Trod enc P w 0 spare true t v d ps) : ∃ l : List α, SliceOf w size R v l := by
  obtain ⟨a0, len, cap, rfl⟩ := okWide_slice ht hv
  obtain ⟨fuel, hf⟩ := h
  rcases Go.Deep.open_slice ht hf with ⟨hcs, _⟩ | ⟨a, len', cap', m, n, D, Pl, hcs, _, hl, hm, hmm, _, hx⟩
  · simp [Value.cells] at hcs
    obtain ⟨rfl, rfl, rfl⟩ := hcs
    exact ⟨[], by simp, none, 0, rfl, by simp, by simp⟩
  · simp [Value.cells] at hcs
    obtain ⟨rfl, rfl, rfl⟩ := hcs
    have hlm : len ≤ m := by rw [hmm]; split <;> omega
    have each : ∀ i : Fin len, ∃ x cs, cs.length = size ∧ R w x cs ∧ ∀ j u, cs[j]? = some u → w.cell? ((a.add (i * size)).add j) = some u := by
      intro i
      obtain ⟨cs, h1, h2⟩ := hx i (by omega)
      rw [hce] at h1
      obtain ⟨_, hlen, hcell⟩ := World.cells?_some h1
      obtain ⟨x, hxr⟩ := hel _ _ _ h2 hlen
      refine ⟨x, cs, hlen, hxr, fun j u hu => ?_⟩
      have hj : j < size := by rw [← hlen]; exact (List.getElem?_eq_some_iff.1 hu).1
      rw [hcell j hj]; exact hu
    let f : Fin len → α := fun i => Classical.choose (each i)
    have hf' : ∀ i : Fin len, ∃ cs, cs.length = size ∧ R w (f i) cs ∧ ∀ j u, cs[j]? = some u → w.cell? ((a.add (i * size)).add j) = some u := fun i => Classical.choose_spec (each i)
    have hlen : (List.ofFn f).length = len := List.length_ofFn
    refine ⟨List.ofFn f, by rw [hlen]; unfold maxLen at hm; omega, some a, cap, by rw [hlen], by rw [hlen]; exact hl, fun hpos => ?_⟩
    rw [hlen] at hpos
    obtain ⟨b, o, spot⟩ := a
    have hspot : spot = none := by
      obtain ⟨cs, h1, _⟩ := hx 0 (by omega)
      rw [hce] at h1
      obtain ⟨_, hl0, hcell⟩ := World.cells?_some h1
      have h2 := hcell 0 hsz
      rw [List.getElem?_eq_getElem (by omega)] at h2
      have h3 : w.cell? ⟨b, o, spot⟩ = some (cs[0]'(by omega)) := by simpa [Addr.add] using h2
      cases spot with
      | none => rfl
      | some s => simp [World.cell?] at h3; split at h3 <;> simp at h3
    subst hspot
    refine ⟨b, o, rfl, fun i x hi => ?_⟩
    have hil : i < len := by rw [← hlen]; exact (List.getElem?_eq_some_iff.1 hi).1
    obtain ⟨cs, h1, h2, h3⟩ := hf' ⟨i, hil⟩
    have hxe : x = f ⟨i, hil⟩ := by
      rw [List.getElem?_ofFn] at hi
      simp [hil] at hi
      exact hi.symm
    refine ⟨cs, h1, by rw [hxe]; exact h2, fun j u hu => ?_⟩
    have := h3 j u hu
    rw [Go.Deep.add_add] at this
    rw [Addr.add_lit] at this
    rw [Nat.add_assoc]; exact this

mutual
/-- The cells of a datum of numbers. -/
def litCells : DataW Unit → List Value
  | .lit (.int k n) => [.int k n]
  | .agg parts => litCellsAll parts
  | _ => []
def litCellsAll : List (DataW Unit) → List Value
  | [] => []
  | d :: r => litCells d ++ litCellsAll r
end
end Go.Proofs.YtfmbbfidjcgeiaaGreatDoor

namespace Go.Proofs.YtfmbbfidjcgeiaaGreatDoor
open Go.ChangeShapes Go.WideShapes Go.ChangeAt Go.RowKit
open Go.ChangeMaps (open_string)

theorem open_sl_trod {H : Type} {enc : TypeId × Value → H} {P : Program} {w : World} {spare : Nat → Bool} {t e : TypeId} {cs0 : List Value} {y0 : DataW H × List MemPlace} {n0 : Nat} {α : Type} (E : El P α) (Pr : α → Prop)
    (ht : P.underlying t = some (.slice e)) (hce : P.cellsOf e = E.size)
    (hel : ∀ n cs y, DataW.trod enc P w 0 spare true n e cs = some y → cs.length = E.size → ∃ x, E.is w free x cs ∧ Pr x)
    (h : DataW.trod enc P w 0 spare true n0 t cs0 = some y0) : ∃ (v : Value) (l : List α), cs0 = [v] ∧ Sl E w free v l ∧ ∀ x ∈ l, Pr x := by
  rcases Go.Deep.open_slice ht h with ⟨hcs, _⟩ | ⟨a, len, cap, m, n, D, Pl, hcs, _, hl, hm, hmm, _, hx⟩
  · exact ⟨_, [], hcs, Sl.nil _ _ _ _ _, by simp⟩
  · have hlm : len ≤ m := by rw [hmm]; split <;> omega
    have hsz := E.pos
    have each : ∀ i : Fin len, ∃ x cs, cs.length = E.size ∧ (E.is w free x cs ∧ Pr x) ∧ ∀ j u, cs[j]? = some u → w.cell? ((a.add (i * E.size)).add j) = some u := by
      intro i
      obtain ⟨cs, h1, h2⟩ := hx i (by omega)
      rw [hce] at h1
      obtain ⟨_, hlen, hcell⟩ := World.cells?_some h1
      obtain ⟨x, hxr⟩ := hel _ _ _ h2 hlen
      refine ⟨x, cs, hlen, hxr, fun j u hu => ?_⟩
      have hj : j < E.size := by rw [← hlen]; exact (List.getElem?_eq_some_iff.1 hu).1
      rw [hcell j hj]; exact hu
    let f : Fin len → α := fun i => Classical.choose (each i)
    have hf' : ∀ i : Fin len, ∃ cs, cs.length = E.size ∧ (E.is w free (f i) cs ∧ Pr (f i)) ∧ ∀ j u, cs[j]? = some u → w.cell? ((a.add (i * E.size)).add j) = some u := fun i => Classical.choose_spec (each i)
    have hlen : (List.ofFn f).length = len := List.length_ofFn
    refine ⟨_, List.ofFn f, hcs, ⟨by rw [hlen]; unfold maxLen at hm; omega, some a, cap, by rw [hlen], by rw [hlen]; exact hl, fun hpos => ?_⟩, fun x hx => ?_⟩
    · rw [hlen] at hpos
      obtain ⟨b, o, spot⟩ := a
      have hspot : spot = none := by
        obtain ⟨cs, h1, _⟩ := hx 0 (by omega)
        rw [hce] at h1
        obtain ⟨_, hl0, hcell⟩ := World.cells?_some h1
        have h2 := hcell 0 hsz
        rw [List.getElem?_eq_getElem (by omega)] at h2
        have h3 : w.cell? ⟨b, o, spot⟩ = some (cs[0]'(by omega)) := by simpa [Addr.add] using h2
        cases spot with
        | none => rfl
        | some s => simp [World.cell?] at h3; split at h3 <;> simp at h3
      subst hspot
      refine ⟨b, o, rfl, id, fun i x hi => ?_⟩
      have hil : i < len := by rw [← hlen]; exact (List.getElem?_eq_some_iff.1 hi).1
      obtain ⟨cs, h1, h2, h3⟩ := hf' ⟨i, hil⟩
      have hxe : x = f ⟨i, hil⟩ := by
        rw [List.getElem?_ofFn] at hi
        simp [hil] at hi
        exact hi.symm
      refine ⟨cs, by rw [hxe]; exact h2.1, fun j u hu => ?_⟩
      have := h3 j u hu
      rw [Go.Deep.add_add] at this
      rw [Addr.add_lit] at this
      rw [Nat.add_assoc]; exact this
    · obtain ⟨i, rfl⟩ := List.mem_ofFn.1 hx
      exact (hf' i).choose_spec.2.1.2
theorem open_sl {H : Type} {enc : TypeId × Value → H} {P : Program} {w : World} {spare : Nat → Bool} {t e : TypeId} {v : Value} {d : DataW H} {ps : List MemPlace} {α : Type} {base : Nat} (E : El P α) (Pr : α → Prop)
    (ht : P.underlying t = some (.slice e)) (hce : P.cellsOf e = E.size) (hv : Value.okWide P w .any base t v)
    (hel : ∀ n cs y, DataW.trod enc P w 0 spare true n e cs = some y → cs.length = E.size → ∃ x, E.is w free x cs ∧ Pr x)
    (h : DataW.Trod enc P w 0 spare true t v d ps) : ∃ l : List α, Sl E w free v l ∧ ∀ x ∈ l, Pr x := by
  obtain ⟨a0, len, cap, rfl⟩ := okWide_slice ht hv
  obtain ⟨fuel, hf⟩ := h
  obtain ⟨v, l, hcs, hl⟩ := open_sl_trod E Pr ht hce hel hf
  simp [Value.cells] at hcs
  subst hcs
  exact ⟨l, hl⟩
theorem cells_int : Tryz.prog.cellsOf 3 = 1 := by kernel_rfl
theorem cells_i64 : Tryz.prog.cellsOf 2 = 1 := by kernel_rfl
theorem cells_string : Tryz.prog.cellsOf 9 = 1 := by kernel_rfl
theorem cells_val : Tryz.prog.cellsOf 40 = 3 := by kernel_rfl
/-- An int. -/
def Is64 (x : Int) : Prop := -9223372036854775808 ≤ x ∧ x ≤ 9223372036854775807
section
variable {H : Type} {enc : TypeId × Value → H} {w : World} {spare : Nat → Bool}
theorem is64_of {n : Int} (h : (Lit.int .i64 n).wf = true) : Is64 n := by
  simp [Lit.wf, IntKind.min, IntKind.max, IntKind.signed, IntKind.bits] at h
  unfold Is64
  omega
theorem open_int_el (n : Nat) (cs : List Value) (y : DataW H × List MemPlace) (h : DataW.trod enc Tryz.prog w 0 spare true n 3 cs = some y) (hl : cs.length = 1) : ∃ x, intE.is w free x cs ∧ Is64 x := by
  match cs, hl with
  | [c0], _ =>
    obtain ⟨k0, e0, _, hw⟩ := DataW.trod_int Tryz.underlying3 h
    simp at e0
    subst e0
    exact ⟨k0, rfl, is64_of hw⟩
/-- A value whose numbers and text are a machine's. -/
def IsVal (x : GVal) : Prop := Is64 x.kind ∧ Is64 x.n ∧ x.s.size ≤ maxLen
set_option maxRecDepth 10000 in
theorem open_val_el (n : Nat) (cs : List Value) (y : DataW H × List MemPlace) (h : DataW.trod enc Tryz.prog w 0 spare true n 40 cs = some y) (hl : cs.length = 3) : ∃ x, valE.is w free x cs ∧ IsVal x := by
  obtain ⟨xs, k, hk, hxy, _, hxl, hf⟩ := DataW.trod_struct Tryz.underlying40 h
  match cs, hl with
  | [c0, c1, c2], _ =>
    match xs, hxl with
    | [y0, y1, y2], _ =>
      have g0 := hf 0 _ rfl
      have g1 := hf 1 _ rfl
      have g2 := hf 2 _ rfl
      simp [cells_int, cells_i64, cells_string] at g0 g1 g2
      obtain ⟨k0, e0, _, w0⟩ := DataW.trod_int Tryz.underlying3 g0
      obtain ⟨k1, e1, _, w1⟩ := DataW.trod_int Tryz.underlying2 g1
      obtain ⟨s, e2, _, hs⟩ := DataW.trod_string Tryz.underlying9 g2
      simp at e0 e1 e2
      subst e0 e1 e2
      exact ⟨⟨k0, k1, s⟩, rfl, is64_of w0, is64_of w1, hs⟩
set_option maxRecDepth 10000 in
/-- An argument that is a value. -/
theorem open_valarg {base : Nat} {v : Value} {d : DataW H} {ps : List MemPlace} (hv : Value.okWide Tryz.prog w .any base 40 v) (h : DataW.Trod enc Tryz.prog w 0 spare true 40 v d ps) : ∃ x : GVal, v = aggG x ∧ IsVal x := by
  obtain ⟨cs, rfl, hs⟩ := okWide_struct Tryz.underlying40 hv
  obtain ⟨fuel, hf⟩ := h
  obtain ⟨x, hx, hp⟩ := open_val_el _ _ _ hf (by rw [cells_val] at hs; simpa [Value.cells] using hs)
  refine ⟨x, ?_, hp⟩
  have e : cs.toList = valOf x := hx
  obtain ⟨l⟩ := cs
  simp at e
  subst e
  rfl
end
end Go.Proofs.YtfmbbfidjcgeiaaGreatDoor

namespace Go.Proofs.YtfmbbfidjcgeiaaGreatDoor
open Go.ChangeShapes Go.WideShapes Go.ChangeAt Go.RowKit

theorem pow_type : (Tryz.prog.globals[2]?).map (·.type) = some 199 := by kernel_rfl
theorem cells_u64 : Tryz.prog.cellsOf 113 = 1 := by kernel_rfl
theorem cells_pow : Tryz.prog.cellsOf 199 = 20 := by kernel_rfl
/-- What the rows list. -/
abbrev laidList : List (String × DataW Unit) := [("math/bits.deBruijn32tab", Rows.laid_math_bits_deBruijn32tab), ("math/bits.deBruijn64tab", Rows.laid_math_bits_deBruijn64tab), ("internal/strconv.uint64pow10", Rows.laid_internal_strconv_uint64pow10), ("annalist/group.allDays", Rows.laid_annalist_group_allDays)]
theorem pow_data : (Rows.laid_internal_strconv_uint64pow10 : DataW Unit) = Lib.tabData .u64 Lib.pow10Tab := by kernel_rfl
theorem pow_of_laid {W : World} (h : laidMet Tryz.prog laidList W) : Pow W := by
  have h1 := laidMet.tail (laidMet.tail h)
  rw [pow_data] at h1
  exact Lib.tabIs_of_head pow_named pow_type Tryz.underlying199 Tryz.underlying113 cells_u64 cells_pow h1
theorem days_named : Tryz.prog.globalNamed "annalist/group.allDays" = some 0 := by kernel_rfl
theorem days_type : (Tryz.prog.globals[0]?).map (·.type) = some 46 := by kernel_rfl
theorem days_of_laid {W : World} (h : laidMet Tryz.prog laidList W) : Days W := by
  have h1 := laidMet.tail (laidMet.tail (laidMet.tail h))
  obtain ⟨ps, ⟨g', t', cs, fuel, p, q, hg', ht', hvar, hd, _, _⟩, _⟩ := h1
  obtain rfl := Option.some.inj (days_named.symm.trans hg')
  obtain rfl := Option.some.inj (days_type.symm.trans ht')
  have hc0 := World.var?_cell days_named hvar 0
  have hc1 := World.var?_cell days_named hvar 1
  obtain ⟨xs, k, hk, hxy, hcl, hxl, hf⟩ := DataW.trod_struct Tryz.underlying46 hd
  have hl : cs.toList.length = 2 := hcl.trans (by kernel_rfl)
  match hcs : cs.toList, hl with
  | [v0, v1], _ =>
    rw [hcs] at hf
    match xs, hxl with
    | [y0, y1], _ =>
      have f0 := hf 0 _ rfl
      have f1 := hf 1 _ rfl
      simp [cells_int] at f0 f1
      obtain ⟨k0, e0, e0', _⟩ := DataW.trod_int Tryz.underlying3 f0
      obtain ⟨k1, e1, e1', _⟩ := DataW.trod_int Tryz.underlying3 f1
      simp at e0 e1
      subst e0 e1
      rw [e0', e1'] at hxy
      have hxy2 : (Rows.laid_annalist_group_allDays : DataW Unit) = .agg [.lit (.int .i64 k0), .lit (.int .i64 k1)] := (Prod.mk.inj hxy).1
      have hxy3 : DataW.agg [.lit (.int .i64 0), .lit (.int .i64 1000000)] = (.agg [.lit (.int .i64 k0), .lit (.int .i64 k1)] : DataW Unit) := hxy2
      simp at hxy3
      obtain ⟨rfl, rfl⟩ := hxy3
      have g0 : cs[0]? = some (.int .i64 0) := by rw [← Array.getElem?_toList, hcs]; rfl
      have g1 : cs[1]? = some (.int .i64 1000000) := by rw [← Array.getElem?_toList, hcs]; rfl
      exact ⟨hc0.trans g0, hc1.trans g1⟩
/-- Block n's cells replaced. -/
def layAt (w : World) (n : Nat) (cs : Array Value) : World :=
  { w with heap := w.heap.modify n fun
      | .cells _ t frozen => .cells cs t frozen
      | o => o }
noncomputable def laidWorld (os : Os) : World :=
  let w0 := World.holding Tryz.prog os ⟨#[], #[], []⟩
  let w3 := layAt w0 3 (litCells Rows.laid_math_bits_deBruijn32tab).toArray
  let w4 := layAt w3 4 (litCells Rows.laid_math_bits_deBruijn64tab).toArray
  let w5 := layAt w4 2 (litCells Rows.laid_internal_strconv_uint64pow10).toArray
  layAt w5 0 (litCells Rows.laid_annalist_group_allDays).toArray
theorem laid_met (os : Os) (args : Array Value) : laidMet Tryz.prog laidList ((laidWorld os).forCall (fun _ _ => 0) ⟨#[], args, []⟩).memory :=
  laidMet_of_run' 8 (by kernel_rfl) (by kernel_rfl)
end Go.Proofs.YtfmbbfidjcgeiaaGreatDoor

namespace Go.Proofs.YtfmbbfidjcgeiaaGreatDoor
open Go.ChangeShapes Go.WideShapes Go.ChangeAt Go.RowKit
open Go.ChangeMaps (open_string)

theorem cells_per : Tryz.prog.cellsOf 46 = 2 := by kernel_rfl
theorem cells_tup : Tryz.prog.cellsOf 48 = 4 := by kernel_rfl
theorem cells_ints : Tryz.prog.cellsOf 36 = 1 := by kernel_rfl
theorem cells_vals : Tryz.prog.cellsOf 35 = 1 := by kernel_rfl
section
variable {H : Type} {enc : TypeId × Value → H} {w : World} {spare : Nat → Bool}
/-- A tuple whose numbers are a machine's. -/
def IsTup (x : Tup) : Prop := Is64 x.lo ∧ Is64 x.hi ∧ (∀ v ∈ x.vals, IsVal v) ∧ ∀ i ∈ x.lin, Is64 i
set_option maxRecDepth 10000 in
theorem open_tup_el (n : Nat) (cs : List Value) (y : DataW H × List MemPlace) (h : DataW.trod enc Tryz.prog w 0 spare true n 48 cs = some y) (hl : cs.length = 4) : ∃ x, tupE.is w free x cs ∧ IsTup x := by
  obtain ⟨xs, k, hk, hxy, _, hxl, hf⟩ := DataW.trod_struct Tryz.underlying48 h
  match cs, hl with
  | [c0, c1, c2, c3], _ =>
    match xs, hxl with
    | [y0, y1, y2], _ =>
      have g0 := hf 0 _ rfl
      have g1 := hf 1 _ rfl
      have g2 := hf 2 _ rfl
      simp [cells_ints, cells_vals, cells_per] at g0 g1 g2
      obtain ⟨v, lv, e0, hv, pv⟩ := open_sl_trod valE IsVal Tryz.underlying35 cells_val open_val_el g0
      obtain ⟨u, lu, e2, hu, pu⟩ := open_sl_trod intE Is64 Tryz.underlying36 cells_int open_int_el g2
      obtain ⟨xs1, k1, _, _, _, hxl1, hf1⟩ := DataW.trod_struct Tryz.underlying46 g1
      match xs1, hxl1 with
      | [z0, z1], _ =>
        have f0 := hf1 0 _ rfl
        have f1 := hf1 1 _ rfl
        simp [cells_int] at f0 f1
        obtain ⟨k0, e3, _, w0⟩ := DataW.trod_int Tryz.underlying3 f0
        obtain ⟨k1, e4, _, w1⟩ := DataW.trod_int Tryz.underlying3 f1
        simp at e0 e2 e3 e4
        subst e0 e2 e3 e4
        exact ⟨⟨lv, k0, k1, lu⟩, ⟨_, _, rfl, hv, hu⟩, is64_of w0, is64_of w1, pv, pu⟩
end
end Go.Proofs.YtfmbbfidjcgeiaaGreatDoor

namespace Go.Proofs.YtfmbbfidjcgeiaaGreatDoor
open Go.ChangeShapes Go.WideShapes Go.ChangeAt Go.RowKit

theorem cells_u16 : Tryz.prog.cellsOf 23 = 1 := by kernel_rfl
theorem cells_u5 : Tryz.prog.cellsOf 50 = 5 := by kernel_rfl
theorem u16_of {n : Int} (h : (Lit.int .u16 n).wf = true) : ∃ k : Nat, n = (k : Int) ∧ k < 65536 := by
  simp [Lit.wf, IntKind.min, IntKind.max, IntKind.signed, IntKind.bits] at h
  obtain ⟨k, rfl⟩ := Int.eq_ofNat_of_zero_le h.1
  exact ⟨k, rfl, by omega⟩
set_option maxRecDepth 10000 in
theorem open_u5_el {H : Type} {enc : TypeId × Value → H} {w : World} {spare : Nat → Bool} (n : Nat) (cs : List Value) (y : DataW H × List MemPlace) (h : DataW.trod enc Tryz.prog w 0 spare true n 50 cs = some y) (hl : cs.length = 5) : ∃ x, u5E.is w free x cs ∧ x.ok := by
  obtain ⟨xs, k, hk, hxy, _, hxl, hf⟩ := DataW.trod_array Tryz.underlying50 h
  match cs, hl with
  | [c0, c1, c2, c3, c4], _ =>
    match xs, hxl with
    | [y0, y1, y2, y3, y4], _ =>
      have g0 := hf 0 (by omega)
      have g1 := hf 1 (by omega)
      have g2 := hf 2 (by omega)
      have g3 := hf 3 (by omega)
      have g4 := hf 4 (by omega)
      simp [cells_u16] at g0 g1 g2 g3 g4
      obtain ⟨k0, e0, _, w0⟩ := DataW.trod_int Tryz.underlying23 g0
      obtain ⟨k1, e1, _, w1⟩ := DataW.trod_int Tryz.underlying23 g1
      obtain ⟨k2, e2, _, w2⟩ := DataW.trod_int Tryz.underlying23 g2
      obtain ⟨k3, e3, _, w3⟩ := DataW.trod_int Tryz.underlying23 g3
      obtain ⟨k4, e4, _, w4⟩ := DataW.trod_int Tryz.underlying23 g4
      simp at e0 e1 e2 e3 e4
      subst e0 e1 e2 e3 e4
      obtain ⟨n0, rfl, b0⟩ := u16_of w0
      obtain ⟨n1, rfl, b1⟩ := u16_of w1
      obtain ⟨n2, rfl, b2⟩ := u16_of w2
      obtain ⟨n3, rfl, b3⟩ := u16_of w3
      obtain ⟨n4, rfl, b4⟩ := u16_of w4
      exact ⟨⟨n0, n1, n2, n3, n4⟩, rfl, b0, b1, b2, b3, b4⟩
end Go.Proofs.YtfmbbfidjcgeiaaGreatDoor

namespace Go.Proofs.YtfmbbfidjcgeiaaGreatDoor
open Go.ChangeShapes Go.WideShapes Go.ChangeAt Go.RowKit
open Go.ChangeMaps (open_string)

theorem open_sl_b {H : Type} {enc : TypeId × Value → H} {P : Program} {w : World} {spare : Nat → Bool} {t e : TypeId} {v : Value} {d : DataW H} {ps : List MemPlace} {α : Type} {base : Nat} (E : El P α) (Pr : α → DataW H → Prop)
    (ht : P.underlying t = some (.slice e)) (hce : P.cellsOf e = E.size) (hv : Value.okWide P w .any base t v)
    (hel : ∀ n cs y, DataW.trod enc P w 0 spare true n e cs = some y → cs.length = E.size → ∃ x, E.is w free x cs ∧ Pr x y.1)
    (h : DataW.Trod enc P w 0 spare true t v d ps) : ∃ l : List α, Sl E w free v l ∧ ∀ x ∈ l, ∃ elems sp dx, d = .slice elems sp ∧ dx ∈ elems ∧ Pr x dx := by
  obtain ⟨a0, len0, cap0, rfl⟩ := okWide_slice ht hv
  obtain ⟨fuel, hf⟩ := h
  rcases Go.Deep.open_slice ht hf with ⟨hcs, _⟩ | ⟨a, len, cap, m, n, D, Pl, hcs, _, hl, hm, hmm, hxe, hx⟩
  · simp [Value.cells] at hcs
    obtain ⟨rfl, rfl, rfl⟩ := hcs
    exact ⟨[], Sl.nil _ _ _ _ _, by simp⟩
  · simp [Value.cells] at hcs
    obtain ⟨rfl, rfl, rfl⟩ := hcs
    have hd : d = .slice ((List.range len0).map D) ((List.range (m - len0)).map fun j => D (len0 + j)) := congrArg Prod.fst hxe
    have hlm : len0 ≤ m := by rw [hmm]; split <;> omega
    have hsz := E.pos
    have each : ∀ i : Fin len0, ∃ x cs, cs.length = E.size ∧ (E.is w free x cs ∧ Pr x (D i)) ∧ ∀ j u, cs[j]? = some u → w.cell? ((a.add (i * E.size)).add j) = some u := by
      intro i
      obtain ⟨cs, h1, h2⟩ := hx i (by omega)
      rw [hce] at h1
      obtain ⟨_, hlen, hcell⟩ := World.cells?_some h1
      obtain ⟨x, hxr⟩ := hel _ _ _ h2 hlen
      refine ⟨x, cs, hlen, hxr, fun j u hu => ?_⟩
      have hj : j < E.size := by rw [← hlen]; exact (List.getElem?_eq_some_iff.1 hu).1
      rw [hcell j hj]; exact hu
    let f : Fin len0 → α := fun i => Classical.choose (each i)
    have hf' : ∀ i : Fin len0, ∃ cs, cs.length = E.size ∧ (E.is w free (f i) cs ∧ Pr (f i) (D i)) ∧ ∀ j u, cs[j]? = some u → w.cell? ((a.add (i * E.size)).add j) = some u := fun i => Classical.choose_spec (each i)
    have hlen : (List.ofFn f).length = len0 := List.length_ofFn
    refine ⟨List.ofFn f, ⟨by rw [hlen]; unfold maxLen at hm; omega, some a, cap0, by rw [hlen], by rw [hlen]; exact hl, fun hpos => ?_⟩, fun x hx' => ?_⟩
    · rw [hlen] at hpos
      obtain ⟨b, o, spot⟩ := a
      have hspot : spot = none := by
        obtain ⟨cs, h1, _⟩ := hx 0 (by omega)
        rw [hce] at h1
        obtain ⟨_, hl0, hcell⟩ := World.cells?_some h1
        have h2 := hcell 0 hsz
        rw [List.getElem?_eq_getElem (by omega)] at h2
        have h3 : w.cell? ⟨b, o, spot⟩ = some (cs[0]'(by omega)) := by simpa [Addr.add] using h2
        cases spot with
        | none => rfl
        | some s => simp [World.cell?] at h3; split at h3 <;> simp at h3
      subst hspot
      refine ⟨b, o, rfl, id, fun i x hi => ?_⟩
      have hil : i < len0 := by rw [← hlen]; exact (List.getElem?_eq_some_iff.1 hi).1
      obtain ⟨cs, h1, h2, h3⟩ := hf' ⟨i, hil⟩
      have hxe : x = f ⟨i, hil⟩ := by
        rw [List.getElem?_ofFn] at hi
        simp [hil] at hi
        exact hi.symm
      refine ⟨cs, by rw [hxe]; exact h2.1, fun j u hu => ?_⟩
      have := h3 j u hu
      rw [Go.Deep.add_add] at this
      rw [Addr.add_lit] at this
      rw [Nat.add_assoc]; exact this
    · obtain ⟨i, rfl⟩ := List.mem_ofFn.1 hx'
      exact ⟨_, _, D i, hd, List.mem_map.2 ⟨i, List.mem_range.2 i.2, rfl⟩, (hf' i).choose_spec.2.1.2⟩
theorem bulk_mem {H : Type} (l : List (DataW H)) : ∀ d ∈ l, Rows.uptoBulk d ≤ Rows.uptoBulkAll l := by
  induction l with
  | nil => intro d h; simp at h
  | cons e l ih =>
    intro d h
    rw [Rows.uptoBulkAll]
    rcases List.mem_cons.1 h with rfl | h
    · omega
    · have := ih d h; omega
/-- Its numbers are a machine's; its text is no longer than the datum's bulk. -/
def BVal {H : Type} (x : GVal) (d : DataW H) : Prop := IsVal x ∧ x.s.size ≤ Rows.uptoBulk d
section
variable {H : Type} {enc : TypeId × Value → H} {w : World} {spare : Nat → Bool}
set_option maxRecDepth 10000 in
theorem open_val_b (n : Nat) (cs : List Value) (y : DataW H × List MemPlace) (h : DataW.trod enc Tryz.prog w 0 spare true n 40 cs = some y) (hl : cs.length = 3) : ∃ x, valE.is w free x cs ∧ BVal x y.1 := by
  obtain ⟨xs, k, hk, hxy, hy2, hxl, hf⟩ := DataW.trod_struct Tryz.underlying40 h
  match cs, hl with
  | [c0, c1, c2], _ =>
    match xs, hxl with
    | [y0, y1, y2], _ =>
      have g0 := hf 0 _ rfl
      have g1 := hf 1 _ rfl
      have g2 := hf 2 _ rfl
      simp [cells_int, cells_i64, cells_string] at g0 g1 g2
      obtain ⟨k0, e0, _, w0⟩ := DataW.trod_int Tryz.underlying3 g0
      obtain ⟨k1, e1, _, w1⟩ := DataW.trod_int Tryz.underlying2 g1
      obtain ⟨s, e2, e3, hs⟩ := DataW.trod_string Tryz.underlying9 g2
      simp at e0 e1 e2
      subst e0 e1 e2
      refine ⟨⟨k0, k1, s⟩, rfl, ⟨is64_of w0, is64_of w1, hs⟩, ?_⟩
      rw [hxy, e3]
      have hz := Lib.size_eq s
      simp only [List.map_cons, List.map_nil, Rows.uptoBulk, Rows.uptoBulkAll]
      omega
set_option maxRecDepth 10000 in
/-- A slice of values whose reading's bulk is bounded. -/
theorem open_vals_b {v : Value} {d : DataW H} {ps : List MemPlace} {base n : Nat} (hv : Value.okWide Tryz.prog w .any base 35 v) (h : DataW.Trod enc Tryz.prog w 0 spare true 35 v d ps) (hb : Rows.uptoBulk d ≤ n) :
    ∃ l : List GVal, Sl valE w free v l ∧ ∀ x ∈ l, IsVal x ∧ x.s.size ≤ n := by
  obtain ⟨l, h1, h2⟩ := open_sl_b valE BVal Tryz.underlying35 cells_val hv open_val_b h
  refine ⟨l, h1, fun x hx => ?_⟩
  obtain ⟨elems, sp, dx, rfl, hm, hp, hq⟩ := h2 x hx
  refine ⟨hp, ?_⟩
  have := bulk_mem elems dx hm
  rw [Rows.uptoBulk] at hb
  omega
/-- A small argument's bulk. -/
theorem bulk_le {ds : List (DataW H)} (hk : Rows.uptoSmall H ds = true) {d : DataW H} (hd : d ∈ ds) : Rows.uptoBulk d ≤ 1048576 := by
  have h1 := bulk_mem ds d hd
  have h2 : Rows.uptoBulkAll ds ≤ 1048576 := of_decide_eq_true hk
  omega
set_option maxRecDepth 10000 in
theorem open_u8v {base : Nat} {v : Value} {d : DataW H} {ps : List MemPlace}
    (hv : Value.okWide Tryz.prog w .any base 5 v) (h : DataW.Trod enc Tryz.prog w 0 spare true 5 v d ps) : ∃ x : Nat, v = .int .u8 (x : Int) ∧ x < 256 := by
  obtain ⟨n, rfl, _, _, hw⟩ := open_int Tryz.underlying5 hv h
  simp [Lit.wf, IntKind.min, IntKind.max, IntKind.signed, IntKind.bits] at hw
  obtain ⟨k, rfl⟩ := Int.eq_ofNat_of_zero_le hw.1
  exact ⟨k, rfl, by omega⟩
end
end Go.Proofs.YtfmbbfidjcgeiaaGreatDoor

namespace Go.Proofs.YtfmbbfidjcgeiaaGreatDoor
open Go.RowKit Go.Lib Go.Shelf

theorem awake_split : splitAt [⟨[], 0, 9, []⟩] [5, 3, 9, 0] = [⟨[], 0, 3, []⟩, ⟨[], 3, 5, []⟩, ⟨[], 5, 9, []⟩] := by
  have h : srt [5, 3, 9, 0] = [0, 3, 5, 9] := by simp [srt, List.mergeSort]
  rw [splitAt, h]
  simp [splitOne, pvalid, cutAt]
end Go.Proofs.YtfmbbfidjcgeiaaGreatDoor

namespace Go.Proofs.YtfmbbfidjcgeiaaGreatDoor
open Go.RowKit Go.Lib Go.Shelf

theorem few_of {l : List Tup} {m : Nat} (h : few l m = true) : l.length ≤ m ∧ ∀ t ∈ l, t.vals.length ≤ 1000 ∧ t.lin.length ≤ 1000 := by
  simp [few, small] at h
  exact ⟨h.1, fun t ht => by have := h.2 t ht; omega⟩

end Go.Proofs.YtfmbbfidjcgeiaaGreatDoor

namespace Go.Proofs.YtfmbbfidjcgeiaaGreatDoor
open Go.ChangeShapes Go.WideShapes Go.ChangeAt Go.RowKit

theorem open_sl_trod_b {H : Type} {enc : TypeId × Value → H} {P : Program} {w : World} {spare : Nat → Bool} {t e : TypeId} {cs0 : List Value} {y0 : DataW H × List MemPlace} {n0 : Nat} {α : Type} (E : El P α) (Pr : α → DataW H → Prop)
    (ht : P.underlying t = some (.slice e)) (hce : P.cellsOf e = E.size)
    (hel : ∀ n cs y, DataW.trod enc P w 0 spare true n e cs = some y → cs.length = E.size → ∃ x, E.is w free x cs ∧ Pr x y.1)
    (h : DataW.trod enc P w 0 spare true n0 t cs0 = some y0) : ∃ (v : Value) (l : List α), cs0 = [v] ∧ Sl E w free v l ∧ ∀ x ∈ l, ∃ elems sp dx, y0.1 = .slice elems sp ∧ dx ∈ elems ∧ Pr x dx := by
  rcases Go.Deep.open_slice ht h with ⟨hcs, _⟩ | ⟨a, len, cap, m, n, D, Pl, hcs, _, hl, hm, hmm, hxe0, hx⟩
  · exact ⟨_, [], hcs, Sl.nil _ _ _ _ _, by simp⟩
  · have hd : y0.1 = .slice ((List.range len).map D) ((List.range (m - len)).map fun j => D (len + j)) := congrArg Prod.fst hxe0
    have hlm : len ≤ m := by rw [hmm]; split <;> omega
    have hsz := E.pos
    have each : ∀ i : Fin len, ∃ x cs, cs.length = E.size ∧ (E.is w free x cs ∧ Pr x (D i)) ∧ ∀ j u, cs[j]? = some u → w.cell? ((a.add (i * E.size)).add j) = some u := by
      intro i
      obtain ⟨cs, h1, h2⟩ := hx i (by omega)
      rw [hce] at h1
      obtain ⟨_, hlen, hcell⟩ := World.cells?_some h1
      obtain ⟨x, hxr⟩ := hel _ _ _ h2 hlen
      refine ⟨x, cs, hlen, hxr, fun j u hu => ?_⟩
      have hj : j < E.size := by rw [← hlen]; exact (List.getElem?_eq_some_iff.1 hu).1
      rw [hcell j hj]; exact hu
    let f : Fin len → α := fun i => Classical.choose (each i)
    have hf' : ∀ i : Fin len, ∃ cs, cs.length = E.size ∧ (E.is w free (f i) cs ∧ Pr (f i) (D i)) ∧ ∀ j u, cs[j]? = some u → w.cell? ((a.add (i * E.size)).add j) = some u := fun i => Classical.choose_spec (each i)
    have hlen : (List.ofFn f).length = len := List.length_ofFn
    refine ⟨_, List.ofFn f, hcs, ⟨by rw [hlen]; unfold maxLen at hm; omega, some a, cap, by rw [hlen], by rw [hlen]; exact hl, fun hpos => ?_⟩, fun x hx => ?_⟩
    · rw [hlen] at hpos
      obtain ⟨b, o, spot⟩ := a
      have hspot : spot = none := by
        obtain ⟨cs, h1, _⟩ := hx 0 (by omega)
        rw [hce] at h1
        obtain ⟨_, hl0, hcell⟩ := World.cells?_some h1
        have h2 := hcell 0 hsz
        rw [List.getElem?_eq_getElem (by omega)] at h2
        have h3 : w.cell? ⟨b, o, spot⟩ = some (cs[0]'(by omega)) := by simpa [Addr.add] using h2
        cases spot with
        | none => rfl
        | some s => simp [World.cell?] at h3; split at h3 <;> simp at h3
      subst hspot
      refine ⟨b, o, rfl, id, fun i x hi => ?_⟩
      have hil : i < len := by rw [← hlen]; exact (List.getElem?_eq_some_iff.1 hi).1
      obtain ⟨cs, h1, h2, h3⟩ := hf' ⟨i, hil⟩
      have hxe : x = f ⟨i, hil⟩ := by
        rw [List.getElem?_ofFn] at hi
        simp [hil] at hi
        exact hi.symm
      refine ⟨cs, by rw [hxe]; exact h2.1, fun j u hu => ?_⟩
      have := h3 j u hu
      rw [Go.Deep.add_add] at this
      rw [Addr.add_lit] at this
      rw [Nat.add_assoc]; exact this
    · obtain ⟨i, rfl⟩ := List.mem_ofFn.1 hx
      exact ⟨_, _, D i, hd, List.mem_map.2 ⟨i, List.mem_range.2 i.2, rfl⟩, (hf' i).choose_spec.2.1.2⟩
/-- A tuple whose numbers are a machine's and whose texts are no longer than the datum's bulk. -/
def BTup {H : Type} (x : Tup) (d : DataW H) : Prop := IsTup x ∧ ∀ g ∈ x.vals, g.s.size ≤ Rows.uptoBulk d
section
variable {H : Type} {enc : TypeId × Value → H} {w : World} {spare : Nat → Bool}
set_option maxRecDepth 10000 in
theorem open_tup_b (n : Nat) (cs : List Value) (y : DataW H × List MemPlace) (h : DataW.trod enc Tryz.prog w 0 spare true n 48 cs = some y) (hl : cs.length = 4) : ∃ x, tupE.is w free x cs ∧ BTup x y.1 := by
  obtain ⟨xs, k, hk, hxy, _, hxl, hf⟩ := DataW.trod_struct Tryz.underlying48 h
  match cs, hl with
  | [c0, c1, c2, c3], _ =>
    match xs, hxl with
    | [y0, y1, y2], _ =>
      have g0 := hf 0 _ rfl
      have g1 := hf 1 _ rfl
      have g2 := hf 2 _ rfl
      simp [cells_ints, cells_vals, cells_per] at g0 g1 g2
      obtain ⟨v, lv, e0, hv, pv⟩ := open_sl_trod_b valE BVal Tryz.underlying35 cells_val open_val_b g0
      obtain ⟨u, lu, e2, hu, pu⟩ := open_sl_trod intE Is64 Tryz.underlying36 cells_int open_int_el g2
      obtain ⟨xs1, k1, _, _, _, hxl1, hf1⟩ := DataW.trod_struct Tryz.underlying46 g1
      match xs1, hxl1 with
      | [z0, z1], _ =>
        have f0 := hf1 0 _ rfl
        have f1 := hf1 1 _ rfl
        simp [cells_int] at f0 f1
        obtain ⟨k0, e3, _, w0⟩ := DataW.trod_int Tryz.underlying3 f0
        obtain ⟨k1, e4, _, w1⟩ := DataW.trod_int Tryz.underlying3 f1
        simp at e0 e2 e3 e4
        subst e0 e2 e3 e4
        refine ⟨⟨lv, k0, k1, lu⟩, ⟨_, _, rfl, hv, hu⟩, ⟨is64_of w0, is64_of w1, fun x hx => ?_, pu⟩, fun x hx => ?_⟩
        · obtain ⟨_, _, dx, _, _, hp⟩ := pv x hx
          exact hp.1
        · obtain ⟨elems, sp, dx, he, hm, hp⟩ := pv x hx
          rw [hxy]
          have h1 := bulk_mem elems dx hm
          have h2 := hp.2
          simp only [List.map_cons, List.map_nil, Rows.uptoBulk, Rows.uptoBulkAll, he]
          omega
set_option maxRecDepth 10000 in
/-- A slice of tuples whose reading's bulk is bounded. -/
theorem open_tups_b {v : Value} {d : DataW H} {ps : List MemPlace} {base n : Nat} (hv : Value.okWide Tryz.prog w .any base 24 v) (h : DataW.Trod enc Tryz.prog w 0 spare true 24 v d ps) (hb : Rows.uptoBulk d ≤ n) :
    ∃ l : List Tup, Tups w v l ∧ ∀ x ∈ l, IsTup x ∧ ∀ g ∈ x.vals, g.s.size ≤ n := by
  obtain ⟨l, h1, h2⟩ := open_sl_b tupE BTup Tryz.underlying24 cells_tup hv open_tup_b h
  refine ⟨l, h1, fun x hx => ?_⟩
  obtain ⟨elems, sp, dx, rfl, hm, hp, hq⟩ := h2 x hx
  refine ⟨hp, fun g hg => ?_⟩
  have h3 := hq g hg
  have h4 := bulk_mem elems dx hm
  rw [Rows.uptoBulk] at hb
  omega
theorem u8_of {n : Int} (h : (Lit.int .u8 n).wf = true) : ∃ k : Nat, n = (k : Int) ∧ k < 256 := by
  simp [Lit.wf, IntKind.min, IntKind.max, IntKind.signed, IntKind.bits] at h
  obtain ⟨k, rfl⟩ := Int.eq_ofNat_of_zero_le h.1
  exact ⟨k, rfl, by omega⟩
end
/-- Small tuples have keys. -/
theorem keyable_few {l : List Tup} {m : Nat} (hp : ∀ x ∈ l, IsTup x ∧ ∀ g ∈ x.vals, g.s.size ≤ 1048576) (hf : few l m = true) : ∀ x ∈ l, Keyable x.row := by
  obtain ⟨_, hs⟩ := few_of hf
  have hs6 : ∀ x ∈ l, x.vals.length ≤ 6 := by
    intro x hx
    simp [few, small] at hf
    exact (hf.2 x hx).1
  intro x hx
  obtain ⟨⟨_, _, h3, h4⟩, h5⟩ := hp x hx
  refine ⟨fun g hg => ⟨(h3 g hg).1, (h3 g hg).2.1, (h3 g hg).2.2⟩, h4, (hs x hx).1, (hs x hx).2, ?_⟩
  have key : ∀ (vs : List GVal), (∀ g ∈ vs, g ∈ x.vals) → (keyL vs).length ≤ 1100000 * vs.length := by
    intro vs
    induction vs with
    | nil => intro _; simp [keyL]
    | cons g vs ih =>
      intro hm
      have h6 := ih fun y hy => hm y (.tail _ hy)
      have h7 := hm g (.head _)
      have h8 := h5 g h7
      have h9 := keyOf_length g (h3 g h7).1 (h3 g h7).2.1 (by omega)
      have e : keyL (g :: vs) = keyOf g ++ keyL vs := by simp [keyL]
      rw [e, List.length_append, List.length_cons]
      omega
  have h6 := key x.vals fun g hg => hg
  have h7 := hs6 x hx
  show (keyL x.vals).length ≤ _
  omega
end Go.Proofs.YtfmbbfidjcgeiaaGreatDoor
