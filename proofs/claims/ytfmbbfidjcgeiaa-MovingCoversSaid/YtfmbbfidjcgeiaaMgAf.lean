/- A part of the proofs: TrQ, TrR, Aw8, Wtp, Open8, SplK, SplL, Rsm, Rag, Rms, Rso, Avr, Rst, Rts. No condition beside sizes and tables that read as laid. -/
import Derived.Test.YtfmbbfidjcgeiaaMgAe
import Derived.Test.YtfmbbfidjcgeiaaMgAa
import Derived.Test.YtfmbbfidjcgeiaaMgAb
import Derived.Test.YtfmbbfidjcgeiaaMgAc
import Derived.Laws.BitsLemmas
import Derived.Test.YtfmbbfidjcgeiaaMgAd
import Derived.Deep.CutRange
namespace Go.Proofs.Ytfmbbfidjcgeiaa
open Go.RowKit Go.Lib Go.Shelf

/-- A node in a box of its own. -/
def BoxN (W : World) (b : Nat) (d : Nd) : Prop := W.heap[b]? = some (.cells #[.int .i64 (hiW d.s), .int .u64 (loW d.s), .int .i64 d.mn, .int .i64 d.mx] 74)
theorem BoxN.cells {W : World} {b : Nat} {d : Nd} (h : BoxN W b d) :
    (W.cell? ⟨b, 0, none⟩ = some (.int .i64 (hiW d.s)) ∧ W.cell? ⟨b, 1, none⟩ = some (.int .u64 (loW d.s)) ∧ W.cell? ⟨b, 2, none⟩ = some (.int .i64 d.mn) ∧ W.cell? ⟨b, 3, none⟩ = some (.int .i64 d.mx)) ∧
    W.frozen? ⟨b, 0, none⟩ = false ∧ W.frozen? ⟨b, 1, none⟩ = false ∧ W.frozen? ⟨b, 2, none⟩ = false ∧ W.frozen? ⟨b, 3, none⟩ = false := box4 h
theorem BoxN.below {W W' : World} {b : Nat} {d : Nd} (h : BoxN W b d) (hb : Below W.heap.size W W') : BoxN W' b d := box_kept h hb
theorem BoxN.set {W : World} {b : Nat} {d : Nd} (h : BoxN W b d) (y : Nd) :
    BoxN ((((W.setCell ⟨b, 0, none⟩ (.int .i64 (hiW y.s))).setCell ⟨b, 1, none⟩ (.int .u64 (loW y.s))).setCell ⟨b, 2, none⟩ (.int .i64 y.mn)).setCell ⟨b, 3, none⟩ (.int .i64 y.mx)) b y := by
  have h1 := heap_setCell_same W b 0 _ _ (.int .i64 (hiW y.s)) h
  have h2 := heap_setCell_same _ b 1 _ _ (.int .u64 (loW y.s)) h1
  have h3 := heap_setCell_same _ b 2 _ _ (.int .i64 y.mn) h2
  have h4 := heap_setCell_same _ b 3 _ _ (.int .i64 y.mx) h3
  exact h4
theorem BoxN.other {W : World} {b c : Nat} {d : Nd} (h : BoxN W b d) (hc : b ≠ c) (v0 v1 v2 v3 : Value) :
    BoxN ((((W.setCell ⟨c, 0, none⟩ v0).setCell ⟨c, 1, none⟩ v1).setCell ⟨c, 2, none⟩ v2).setCell ⟨c, 3, none⟩ v3) b d := by
  unfold BoxN
  rw [heap_setCell_other _ _ _ _ hc, heap_setCell_other _ _ _ _ hc, heap_setCell_other _ _ _ _ hc, heap_setCell_other _ _ _ _ hc]
  exact h
theorem heap_set4 {W : World} {k c : Nat} {o : Obj} (h : W.heap[k]? = some o) (hc : k ≠ c) (v0 v1 v2 v3 : Value) : ((((W.setCell ⟨c, 0, none⟩ v0).setCell ⟨c, 1, none⟩ v1).setCell ⟨c, 2, none⟩ v2).setCell ⟨c, 3, none⟩ v3).heap[k]? = some o := by
  rw [heap_setCell_other _ _ _ _ hc, heap_setCell_other _ _ _ _ hc, heap_setCell_other _ _ _ _ hc, heap_setCell_other _ _ _ _ hc]
  exact h
/-- While a box grows by a node: what stays. -/
structure QS (w : World) (B p g n bx : Nat) (nd : List Nd) (W : World) : Prop where
  below : Below w.heap.size w W
  tree : TreeAt W B p g nd n
  box : ∃ d, BoxN W bx d
section
variable {w W W' : World} {B p g n bx : Nat} {nd : List Nd}
theorem QS.keep (h : QS w B p g n bx nd W) (hb : Below W.heap.size W W') : QS w B p g n bx nd W' := by
  obtain ⟨d, hd⟩ := h.box
  exact ⟨below_keep h.below hb, h.tree.below hb, d, hd.below hb⟩
theorem QS.drew (h : QS w B p g n bx nd W) : QS w B p g n bx nd W.drew := h.keep (Below.refl _ _).drew
theorem QS.set (h : QS w B p g n bx nd W) (hb : w.heap.size ≤ bx) (hp : p < w.heap.size) (hg : g < w.heap.size) (y : Nd) :
    QS w B p g n bx nd ((((W.setCell ⟨bx, 0, none⟩ (.int .i64 (hiW y.s))).setCell ⟨bx, 1, none⟩ (.int .u64 (loW y.s))).setCell ⟨bx, 2, none⟩ (.int .i64 y.mn)).setCell ⟨bx, 3, none⟩ (.int .i64 y.mx)) := by
  obtain ⟨d, hd⟩ := h.box
  exact ⟨below_set4 h.below hb hb hb hb, h.tree.kept (kept_set4 (G := fun m => m = bx) rfl rfl rfl rfl) (by omega) (by omega), y, hd.set y⟩
theorem QS.facts (h : QS w B p g n bx nd W) {k : Nat} {x : Nd} (hx : nd[k]? = some x) :
    W.cell? ⟨p, 0, none⟩ = some (.int .i64 (n : Int)) ∧ W.cell? ⟨p, 1, none⟩ = some (.slice (some ⟨g, 0, none⟩) (2 * n) (2 * n)) ∧
    W.cell? ⟨g, k * 4, none⟩ = some (.int .i64 (hiW x.s)) ∧ W.cell? ⟨g, k * 4 + 1, none⟩ = some (.int .u64 (loW x.s)) ∧ W.cell? ⟨g, k * 4 + 2, none⟩ = some (.int .i64 x.mn) ∧ W.cell? ⟨g, k * 4 + 3, none⟩ = some (.int .i64 x.mx) :=
  ⟨h.tree.c0, h.tree.c1, h.tree.node hx⟩
end
def NodeRet (w : World) (ok : Bool) (P : Nd → Prop) (e : Ending) (w' : World) : Prop := ∃ d, e = .returned (.tuple #[nodeV d, .bool ok]) ∧ P d ∧ Below w.heap.size w w'
set_option maxHeartbeats 4000000 in
theorem query_no {B p g n : Nat} {nd : List Nd} (f t : Int) (w : World) (hT : TreeAt w B p g nd n) (h : f < 0 ∨ t ≤ f ∨ (n : Int) < t) :
    Calls Try.prog 30 #[.pointer (some ⟨p, 0, none⟩), .int .i64 f, .int .i64 t] w (NodeRet w false fun d => d.mn = 0 ∧ d.mx = 0) := by
  have HL := fun W (hb : Below w.heap.size w W) => Lib.hid (len_tree W (hT.below hb))
  have hn : Hid (nodeV nd0 = .agg #[.int .i64 0, .int .u64 0, .int .i64 0, .int .i64 0]) := Lib.hid (by unfold nodeV nd0 hiW loW; simp)
  have HB0 := Lib.hid (below_alloc w (.cells #[.int .i64 0, .int .u64 0, .int .i64 0, .int .i64 0] 74))
  by_cases h1 : f < 0
  · go_enter Try.func30, Try.ntmps30
    go_wp2_with fail
    exact bodyPost_ret (v := .tuple #[.agg #[.int .i64 0, .int .u64 0, .int .i64 0, .int .i64 0], .bool false]) (by simp [results, Try.results30, go_sem]) rfl ⟨nd0, by rw [hn.out], ⟨rfl, rfl⟩, HB0.out⟩
  · by_cases h2 : t ≤ f
    · go_enter Try.func30, Try.ntmps30
      go_wp2_with fail
      exact bodyPost_ret (v := .tuple #[.agg #[.int .i64 0, .int .u64 0, .int .i64 0, .int .i64 0], .bool false]) (by simp [results, Try.results30, go_sem]) rfl ⟨nd0, by rw [hn.out], ⟨rfl, rfl⟩, HB0.out⟩
    · have h3 : (n : Int) < t := by omega
      have h4 : f < t := by omega
      clear h
      go_enter Try.func30, Try.ntmps30
      go_wp2_with (refine (HL _ HB0.out).out.mono ?_; rintro _ _ ⟨rfl, rfl⟩)
      exact bodyPost_ret (v := .tuple #[.agg #[.int .i64 0, .int .u64 0, .int .i64 0, .int .i64 0], .bool false]) (by simp [results, Try.results30, go_sem]) rfl ⟨nd0, by rw [hn.out], ⟨rfl, rfl⟩, HB0.out⟩
theorem sm_wok {a : List Int} {L : List Nat} {d : Nd} (h : Sm (L.map (elt a)) d) (hq : Num64 a) (hl : L.length ≤ 200) : Wok d.s := by
  have hb := sumI_bound (q := 9223372036854775808) (l := L.map (elt a)) fun x hx => by
    obtain ⟨k, _, rfl⟩ := List.mem_map.1 hx
    exact elt_bound (by omega) (fun x hx => by have := hq x hx; omega) k
  rw [← h.s, List.length_map] at hb
  have hl' : (L.length : Int) ≤ 400 := by omega
  have hb2 : 9223372036854775808 * (L.length : Int) ≤ 9223372036854775808 * 400 := Int.mul_le_mul_of_nonneg_left hl' (by omega)
  unfold Wok
  omega
def QIs (n f t : Nat) (a : List Int) (d : Nd) (lo hi : Nat) : Prop := ∃ L, QI n f t L lo hi ∧ Sm (L.map (elt a)) d
theorem QIs.left {n f t lo hi : Nat} {a : List Int} {nd : List Nd} {d e : Nd} (h : QIs n f t a d lo hi) (hn : a.length = n) (hN : TreeN a nd) (hlt : lo < hi) (he : nd[lo]? = some e) (hl : lo < 2 * n) (hq : Num64 a) (hl2 : n ≤ 200) (ht : t ≤ n) : QIs n f t a (mergeN d e) (lo + 1) hi ∧ Wok d.s ∧ Wok e.s := by
  obtain ⟨L, h1, h2⟩ := h
  obtain ⟨e', he', se⟩ := hN.2 lo h1.2.1 (by omega)
  rw [he] at he'
  cases he'
  have ok : NdOk a nd lo := ⟨e, he, se⟩
  refine ⟨⟨_, h1.left hlt, ?_⟩, sm_wok h2 hq (by have := h1.len; omega), ok.wok he hq (by omega) h1.2.1 (by omega)⟩
  rw [List.map_append]
  rw [hn] at se
  exact h2.merge se
theorem QIs.right {n f t lo hi : Nat} {a : List Int} {nd : List Nd} {d e : Nd} (h : QIs n f t a d lo hi) (hn : a.length = n) (hN : TreeN a nd) (hlt : lo < hi) (he : nd[hi - 1]? = some e) (hq : Num64 a) (hl2 : n ≤ 200) (ht : t ≤ n) : QIs n f t a (mergeN d e) lo (hi - 1) ∧ Wok d.s ∧ Wok e.s := by
  obtain ⟨L, h1, h2⟩ := h
  have h4 := h1.2.2.2
  have h5 := h1.2.1
  obtain ⟨e', he', se⟩ := hN.2 (hi - 1) (by omega) (by omega)
  rw [he] at he'
  cases he'
  have ok : NdOk a nd (hi - 1) := ⟨e, he, se⟩
  refine ⟨⟨_, h1.right hlt, ?_⟩, sm_wok h2 hq (by have := h1.len; omega), ok.wok he hq (by omega) (by omega) (by omega)⟩
  rw [List.map_append]
  rw [hn] at se
  exact h2.merge se
theorem QIs.half {n f t x y : Nat} {a : List Int} {d : Nd} (h : QIs n f t a d (2 * x) (2 * y)) : QIs n f t a d x y := by
  obtain ⟨L, h1, h2⟩ := h
  exact ⟨L, h1.half, h2⟩
theorem QIs.done {n f t lo hi : Nat} {a : List Int} {d : Nd} (h : QIs n f t a d lo hi) (hl : hi ≤ lo) : Sm (elts a f t) d := by
  obtain ⟨L, h1, h2⟩ := h
  exact h2.perm ((h1.done hl).map _)
theorem QIs.start {n f t : Nat} {a : List Int} {nd : List Nd} {d : Nd} (hn : a.length = n) (hN : TreeN a nd) (h : f < t) (ht : t ≤ n) (hd : nd[n + f]? = some d) : QIs n f t a d (n + f + 1) (n + t) := by
  refine ⟨[f], QI.start h ht, ?_⟩
  obtain ⟨e', he', se⟩ := hN.2 (n + f) (by omega) (by omega)
  rw [hd] at he'
  cases he'
  rw [lvs_leaf (by omega), show n + f - a.length = f by omega] at se
  exact se
theorem QIs.bound {n f t lo hi : Nat} {a : List Int} {d : Nd} (h : QIs n f t a d lo hi) : 1 ≤ lo ∧ hi ≤ 2 * n := by
  obtain ⟨L, h1, h2⟩ := h
  exact ⟨h1.2.1, h1.2.2.2⟩
set_option maxHeartbeats 8000000 in
set_option maxRecDepth 100000 in
theorem query_yes {B p g n : Nat} {a : List Int} {nd : List Nd} (f t : Nat) (w : World) (hT : TreeAt w B p g nd n) (hN : TreeN a nd) (hn : a.length = n) (hq : Num64 a) (hl : n ≤ 200) (h : f < t) (ht : t ≤ n) :
    Calls Try.prog 30 #[.pointer (some ⟨p, 0, none⟩), .int .i64 (f : Int), .int .i64 (t : Int)] w (NodeRet w true fun d => Sm (elts a f t) d) := by
  have HL := fun W (hb : Below w.heap.size w W) => Lib.hid (len_tree W (hT.below hb))
  obtain ⟨m, hm⟩ : ∃ m, m = n + f := ⟨_, rfl⟩
  obtain ⟨d0, hd0⟩ := lget_some nd m (by rw [hT.len]; omega)
  have HD0 := Lib.hid hd0
  have HQ0 : Hid (QIs n f t a d0 (m + 1) (n + t)) := Lib.hid (by rw [hm] at hd0 ⊢; exact QIs.start hn hN h ht hd0)
  have hpl := hT.lt
  have hgl := hT.baseg.2
  have HT := Lib.hid hT
  have HN := Lib.hid hN
  have HNL := Lib.hid hn
  have HNQ := Lib.hid hq
  have hm3 : (m : Int) < 2 * (n : Int) := by omega
  have hw1 : IntKind.i64.wrap ((n : Int) + (f : Int)) = (m : Int) := by rw [IntWalk.i64_in _ (by omega)]; omega
  clear hT hN hn hq hd0 hm
  go_enter Try.func30, Try.ntmps30
  have HB0 := Lib.hid (below_alloc w (.cells #[.int .i64 0, .int .u64 0, .int .i64 0, .int .i64 0] 74))
  have hbx0 := World.alloc_heap_new w (.cells #[.int .i64 0, .int .u64 0, .int .i64 0, .int .i64 0] 74)
  obtain ⟨wb, hwb⟩ : ∃ wb, wb = w.alloc (.cells #[.int .i64 0, .int .u64 0, .int .i64 0, .int .i64 0] 74) := ⟨_, rfl⟩
  go_upto_region 3 with (refine (HL _ HB0.out).out.mono ?_; rintro _ _ ⟨rfl, rfl⟩)
  rw [← hwb] at HB0 hbx0 ⊢
  have hzb : wb.heap.size = w.heap.size + 1 := by rw [hwb]; simp
  have HZB := Lib.hid hzb
  have HTB := Lib.hid (HT.out.below HB0.out)
  have HBX0 := Lib.hid hbx0
  clear hwb hzb hbx0 HL
  refine wp_region_held_drew (S := fun W => Below w.heap.size w W ∧ TreeAt W B p g nd n) (by kernel_rfl) ⟨HB0.out.drew, HTB.out.below (Below.refl _ _).drew⟩ (fun hHeld => ?_)
  refine take_y (i := 0) (d := some 25) (v := ?_) rfl rfl (by kernel_rfl) (by kernel_rfl) (by kernel_rfl) (fun _ _ _ h => h) (by assumption) ?_ ?_
  rotate_left
  · intro oi ho
    simp only [List.getElem?_toArray, List.getElem?_cons_zero, Option.some.injEq] at ho
    subst ho
    intro w hSw
    obtain ⟨e2, e3, e4, e5⟩ := hSw.2.node HD0.out
    have e0 := hSw.2.c0
    have e1 := hSw.2.c1
    go_simp
    (try with_reducible rfl)
  (try simp only [Act.put, List.setIfInBounds_toArray, List.set_cons_zero, List.set_cons_succ])
  refine take_y (i := 1) (d := some 26) (v := ?_) rfl rfl (by kernel_rfl) (by kernel_rfl) (by kernel_rfl) (fun _ _ _ h => h) (by assumption) ?_ ?_
  rotate_left
  · intro oi ho
    simp only [List.getElem?_toArray, List.getElem?_cons_succ, List.getElem?_cons_zero, Option.some.injEq] at ho
    subst ho
    intro w hSw
    obtain ⟨e2, e3, e4, e5⟩ := hSw.2.node HD0.out
    have e0 := hSw.2.c0
    have e1 := hSw.2.c1
    go_simp
    (try with_reducible rfl)
  (try simp only [Act.put, List.setIfInBounds_toArray, List.set_cons_zero, List.set_cons_succ])
  refine take_y (i := 2) (d := some 27) (v := ?_) rfl rfl (by kernel_rfl) (by kernel_rfl) (by kernel_rfl) (fun _ _ _ h => h) (by assumption) ?_ ?_
  rotate_left
  · intro oi ho
    simp only [List.getElem?_toArray, List.getElem?_cons_succ, List.getElem?_cons_zero, Option.some.injEq] at ho
    subst ho
    intro w hSw
    obtain ⟨e2, e3, e4, e5⟩ := hSw.2.node HD0.out
    have e0 := hSw.2.c0
    have e1 := hSw.2.c1
    go_simp
    (try with_reducible rfl)
  (try simp only [Act.put, List.setIfInBounds_toArray, List.set_cons_zero, List.set_cons_succ])
  refine take_y (i := 3) (d := some 28) (v := ?_) rfl rfl (by kernel_rfl) (by kernel_rfl) (by kernel_rfl) (fun _ _ _ h => h) (by assumption) ?_ ?_
  rotate_left
  · intro oi ho
    simp only [List.getElem?_toArray, List.getElem?_cons_succ, List.getElem?_cons_zero, Option.some.injEq] at ho
    subst ho
    intro w hSw
    obtain ⟨e2, e3, e4, e5⟩ := hSw.2.node HD0.out
    have e0 := hSw.2.c0
    have e1 := hSw.2.c1
    go_simp
    (try with_reducible rfl)
  (try simp only [Act.put, List.setIfInBounds_toArray, List.set_cons_zero, List.set_cons_succ])
  refine take_y (i := 4) (d := some 29) (v := ?_) rfl rfl (by kernel_rfl) (by kernel_rfl) (by kernel_rfl) (fun _ _ _ h => h) (by assumption) ?_ ?_
  rotate_left
  · intro oi ho
    simp only [List.getElem?_toArray, List.getElem?_cons_succ, List.getElem?_cons_zero, Option.some.injEq] at ho
    subst ho
    intro w hSw
    obtain ⟨e2, e3, e4, e5⟩ := hSw.2.node HD0.out
    have e0 := hSw.2.c0
    have e1 := hSw.2.c1
    go_simp
    (try with_reducible rfl)
  (try simp only [Act.put, List.setIfInBounds_toArray, List.set_cons_zero, List.set_cons_succ])
  refine take_y (i := 5) (d := some 30) (v := ?_) rfl rfl (by kernel_rfl) (by kernel_rfl) (by kernel_rfl) (fun _ _ _ h => h) (by assumption) ?_ ?_
  rotate_left
  · intro oi ho
    simp only [List.getElem?_toArray, List.getElem?_cons_succ, List.getElem?_cons_zero, Option.some.injEq] at ho
    subst ho
    intro w hSw
    obtain ⟨e2, e3, e4, e5⟩ := hSw.2.node HD0.out
    have e0 := hSw.2.c0
    have e1 := hSw.2.c1
    go_simp
    (try with_reducible rfl)
  (try simp only [Act.put, List.setIfInBounds_toArray, List.set_cons_zero, List.set_cons_succ])
  refine take_y (i := 6) (d := some 31) (v := ?_) rfl rfl (by kernel_rfl) (by kernel_rfl) (by kernel_rfl) (fun _ _ _ h => h) (by assumption) ?_ ?_
  rotate_left
  · intro oi ho
    simp only [List.getElem?_toArray, List.getElem?_cons_succ, List.getElem?_cons_zero, Option.some.injEq] at ho
    subst ho
    intro w hSw
    obtain ⟨e2, e3, e4, e5⟩ := hSw.2.node HD0.out
    have e0 := hSw.2.c0
    have e1 := hSw.2.c1
    go_simp
    (try with_reducible rfl)
  (try simp only [Act.put, List.setIfInBounds_toArray, List.set_cons_zero, List.set_cons_succ])
  refine take_y (i := 7) (d := some 32) (v := ?_) rfl rfl (by kernel_rfl) (by kernel_rfl) (by kernel_rfl) (fun _ _ _ h => h) (by assumption) ?_ ?_
  rotate_left
  · intro oi ho
    simp only [List.getElem?_toArray, List.getElem?_cons_succ, List.getElem?_cons_zero, Option.some.injEq] at ho
    subst ho
    intro w hSw
    obtain ⟨e2, e3, e4, e5⟩ := hSw.2.node HD0.out
    have e0 := hSw.2.c0
    have e1 := hSw.2.c1
    go_simp
    (try with_reducible rfl)
  (try simp only [Act.put, List.setIfInBounds_toArray, List.set_cons_zero, List.set_cons_succ])
  refine take_y (i := 8) (d := some 33) (v := ?_) rfl rfl (by kernel_rfl) (by kernel_rfl) (by kernel_rfl) (fun _ _ _ h => h) (by assumption) ?_ ?_
  rotate_left
  · intro oi ho
    simp only [List.getElem?_toArray, List.getElem?_cons_succ, List.getElem?_cons_zero, Option.some.injEq] at ho
    subst ho
    intro w hSw
    obtain ⟨e2, e3, e4, e5⟩ := hSw.2.node HD0.out
    have e0 := hSw.2.c0
    have e1 := hSw.2.c1
    go_simp
    (try with_reducible rfl)
  (try simp only [Act.put, List.setIfInBounds_toArray, List.set_cons_zero, List.set_cons_succ])
  refine take_y (i := 9) (d := some 34) (v := ?_) rfl rfl (by kernel_rfl) (by kernel_rfl) (by kernel_rfl) (fun _ _ _ h => h) (by assumption) ?_ ?_
  rotate_left
  · intro oi ho
    simp only [List.getElem?_toArray, List.getElem?_cons_succ, List.getElem?_cons_zero, Option.some.injEq] at ho
    subst ho
    intro w hSw
    obtain ⟨e2, e3, e4, e5⟩ := hSw.2.node HD0.out
    have e0 := hSw.2.c0
    have e1 := hSw.2.c1
    go_simp
    (try with_reducible rfl)
  (try simp only [Act.put, List.setIfInBounds_toArray, List.set_cons_zero, List.set_cons_succ])
  refine take_y (i := 10) (d := some 35) (v := ?_) rfl rfl (by kernel_rfl) (by kernel_rfl) (by kernel_rfl) (fun _ _ _ h => h) (by assumption) ?_ ?_
  rotate_left
  · intro oi ho
    simp only [List.getElem?_toArray, List.getElem?_cons_succ, List.getElem?_cons_zero, Option.some.injEq] at ho
    subst ho
    intro w hSw
    obtain ⟨e2, e3, e4, e5⟩ := hSw.2.node HD0.out
    have e0 := hSw.2.c0
    have e1 := hSw.2.c1
    go_simp
    (try with_reducible rfl)
  (try simp only [Act.put, List.setIfInBounds_toArray, List.set_cons_zero, List.set_cons_succ])
  refine take_y (i := 11) (d := some 36) (v := ?_) rfl rfl (by kernel_rfl) (by kernel_rfl) (by kernel_rfl) (fun _ _ _ h => h) (by assumption) ?_ ?_
  rotate_left
  · intro oi ho
    simp only [List.getElem?_toArray, List.getElem?_cons_succ, List.getElem?_cons_zero, Option.some.injEq] at ho
    subst ho
    intro w hSw
    obtain ⟨e2, e3, e4, e5⟩ := hSw.2.node HD0.out
    have e0 := hSw.2.c0
    have e1 := hSw.2.c1
    go_simp
    (try with_reducible rfl)
  (try simp only [Act.put, List.setIfInBounds_toArray, List.set_cons_zero, List.set_cons_succ])
  refine wpAnyH_ready (rs := [12]) (by kernel_rfl) (by simp) ?_
  refine AllReadyH.cons rfl (fun K hK => ?_) AllReadyH.nil
  go_simp
  refine hK.out _ _ ?_ (fun hHeld => ?_)
  · exact ⟨below_alloc_keep hHeld.1, hHeld.2.below (below_alloc _ _)⟩
  clear hK K
  (try simp only [Act.put, List.setIfInBounds_toArray, List.set_cons_zero, List.set_cons_succ])
  refine wpAnyH_ready (rs := [13]) (by kernel_rfl) (by simp) ?_
  refine AllReadyH.cons rfl (fun K hK => ?_) AllReadyH.nil
  go_simp
  refine hK.out _ _ ?_ (fun hHeld => ?_)
  · exact ⟨below_alloc_keep (HB0.out.drew), (HTB.out.below (Below.refl _ _).drew).below (below_alloc _ _)⟩
  clear hK K
  (try simp only [Act.put, List.setIfInBounds_toArray, List.set_cons_zero, List.set_cons_succ])
  refine wpAnyH_done (by kernel_rfl) ?_ _
  have hbn := World.alloc_heap_new wb (.cells #[.int .i64 (hiW d0.s), .int .u64 (loW d0.s), .int .i64 d0.mn, .int .i64 d0.mx] 74)
  obtain ⟨w1, hw1'⟩ : ∃ w1, w1 = (wb.alloc (.cells #[.int .i64 (hiW d0.s), .int .u64 (loW d0.s), .int .i64 d0.mn, .int .i64 d0.mx] 74)).drew := ⟨_, rfl⟩
  have hB1 : Below wb.heap.size wb w1 := by rw [hw1']; exact (below_alloc _ _).drew
  have hBX1 : BoxN w1 wb.heap.size d0 := by rw [hw1']; exact hbn
  rw [← hw1']
  have HB1 := Lib.hid (below_keep HB0.out hB1)
  have HX1 := Lib.hid (box_kept HBX0.out hB1)
  have HT1 := Lib.hid (HTB.out.below hB1)
  have HBX1 := Lib.hid hBX1
  have c0 := HT1.out.c0
  obtain ⟨bx, hbx⟩ : ∃ bx, bx = wb.heap.size := ⟨_, rfl⟩
  rw [← hbx] at HBX1 HZB ⊢
  have hbxw : w.heap.size < bx := by have := HZB.out; omega
  have hw2 : IntKind.i64.wrap ((m : Int) + 1) = ((m + 1 : Nat) : Int) := by rw [IntWalk.i64_in _ (by omega)]; omega
  have hw3 : IntKind.i64.wrap ((n : Int) + (t : Int)) = ((n + t : Nat) : Int) := by rw [IntWalk.i64_in _ (by omega)]; omega
  obtain ⟨m1, hm1⟩ : ∃ m1, m1 = m + 1 := ⟨_, rfl⟩
  obtain ⟨m2, hm2⟩ : ∃ m2, m2 = n + t := ⟨_, rfl⟩
  rw [← hm1] at HQ0 hw2
  rw [← hm2] at HQ0 hw3
  clear hHeld hbn hw1' hB1 hBX1 hbx HB0 HBX0 HTB hm1 hm2 hm3
  go_upto_region 4 with fail
  go_region
  go_wp2_with fail
  have HB1d : Hid (Below w.heap.size w w1.drew) := Lib.hid HB1.out.drew
  have HT1d : Hid (TreeAt w1.drew B p g nd n) := Lib.hid (HT1.out.below (Below.refl _ _).drew)
  have HBX1d : Hid (BoxN w1.drew bx d0) := Lib.hid (HBX1.out.below (Below.refl _ _).drew)
  have HX1d : Hid (w1.drew.heap[w.heap.size]? = some (.cells #[.int .i64 0, .int .u64 0, .int .i64 0, .int .i64 0] 74)) := Lib.hid HX1.out
  clear hw1 hw2 hw3 c0 HB1 HT1 HBX1 HX1 HT HD0
  go_loopw [9, 10] (fun x y wr => ∃ (lo hi : Nat) (d : Nd), x = .int .i64 (lo : Int) ∧ y = .int .i64 (hi : Int) ∧ Hid (QIs n f t a d lo hi) ∧ Hid (Below w.heap.size w wr) ∧ Hid (TreeAt wr B p g nd n) ∧ Hid (BoxN wr bx d) ∧ Hid (wr.heap[w.heap.size]? = some (.cells #[.int .i64 0, .int .u64 0, .int .i64 0, .int .i64 0] 74))) (fun _ y _ => (intOf y).toNat)
  case atStart => exact ⟨m1, m2, d0, rfl, rfl, HQ0, HB1d, HT1d, HBX1d, HX1d⟩
  case round =>
    obtain ⟨lo, hi, d, rfl, rfl, HQ, HB, HT, HBX, HX⟩ := hrel
    obtain ⟨wo, rfl⟩ : ∃ wo : World, wo = wr := ⟨_, rfl⟩
    obtain ⟨hlo1, hhi1⟩ := HQ.out.bound
    by_cases hlt : lo < hi
    · have hlI : (lo : Int) < (hi : Int) := by omega
      have hl0 : 0 ≤ (lo : Int) := by omega
      have hl4 : (lo : Int) ≤ 400 := by omega
      have hh0 : 0 ≤ (hi : Int) := by omega
      have hh4 : (hi : Int) ≤ 400 := by omega
      go_upto_if 59 with fail
      go_cut [9] (fun s9 wx => ∃ (lo2 : Nat) (d2 : Nd), s9 = .int .i64 (lo2 : Int) ∧ Hid (lo2 % 2 = 0 ∧ (lo2 = lo ∨ lo2 = lo + 1)) ∧ Hid (QIs n f t a d2 lo2 hi) ∧ Hid (Below w.heap.size w wx) ∧ Hid (TreeAt wx B p g nd n) ∧ Hid (BoxN wx bx d2) ∧ Hid (wx.heap[w.heap.size]? = some (.cells #[.int .i64 0, .int .u64 0, .int .i64 0, .int .i64 0] 74)))
      case first =>
        by_cases hodd : (lo : Int) % 2 = 1
        · have hodn : lo % 2 = 1 := by omega
          obtain ⟨e, he⟩ := lget_some nd lo (by rw [HT.out.len]; omega)
          obtain ⟨hQ2, hW1, hW2⟩ := HQ.out.left HNL.out HN.out hlt he (by omega) HNQ.out hl ht
          have HMG := fun W => Lib.hid (merge_node d e hW1 hW2 W)
          have HE := Lib.hid he
          have HQ2 := Lib.hid hQ2
          have hm3 : (lo : Int) < 2 * (n : Int) := by omega
          have HS0 : Hid (QS w B p g n bx nd wo) := Lib.hid ⟨HB.out, HT.out, d, HBX.out⟩
          have HB1 : Hid (lo + 1 ≤ hi) := Lib.hid hlt
          clear he hQ2 hW1 hW2 HQ HB HT
          go_upto_region 8 with fail
          refine wp_region_held_drew (S := QS w B p g n bx nd) (by kernel_rfl) HS0.out.drew (fun hHeld => ?_)
          refine take_y (i := 1) (d := some 61) (v := ?_) rfl rfl (by kernel_rfl) (by kernel_rfl) (by kernel_rfl) (fun _ _ _ h => h) (by assumption) ?_ ?_
          rotate_left
          · intro oi ho
            simp only [List.getElem?_toArray, List.getElem?_cons_succ, List.getElem?_cons_zero, Option.some.injEq] at ho
            subst ho
            intro w hSw
            obtain ⟨e0, e1, e2, e3, e4, e5⟩ := hSw.facts HE.out
            go_simp
            (try with_reducible rfl)
          (try simp only [Act.put, List.setIfInBounds_toArray, List.set_cons_zero, List.set_cons_succ])
          refine take_y (i := 2) (d := some 62) (v := ?_) rfl rfl (by kernel_rfl) (by kernel_rfl) (by kernel_rfl) (fun _ _ _ h => h) (by assumption) ?_ ?_
          rotate_left
          · intro oi ho
            simp only [List.getElem?_toArray, List.getElem?_cons_succ, List.getElem?_cons_zero, Option.some.injEq] at ho
            subst ho
            intro w hSw
            obtain ⟨e0, e1, e2, e3, e4, e5⟩ := hSw.facts HE.out
            go_simp
            (try with_reducible rfl)
          (try simp only [Act.put, List.setIfInBounds_toArray, List.set_cons_zero, List.set_cons_succ])
          refine take_y (i := 3) (d := some 63) (v := ?_) rfl rfl (by kernel_rfl) (by kernel_rfl) (by kernel_rfl) (fun _ _ _ h => h) (by assumption) ?_ ?_
          rotate_left
          · intro oi ho
            simp only [List.getElem?_toArray, List.getElem?_cons_succ, List.getElem?_cons_zero, Option.some.injEq] at ho
            subst ho
            intro w hSw
            obtain ⟨e0, e1, e2, e3, e4, e5⟩ := hSw.facts HE.out
            go_simp
            (try with_reducible rfl)
          (try simp only [Act.put, List.setIfInBounds_toArray, List.set_cons_zero, List.set_cons_succ])
          refine take_y (i := 4) (d := some 64) (v := ?_) rfl rfl (by kernel_rfl) (by kernel_rfl) (by kernel_rfl) (fun _ _ _ h => h) (by assumption) ?_ ?_
          rotate_left
          · intro oi ho
            simp only [List.getElem?_toArray, List.getElem?_cons_succ, List.getElem?_cons_zero, Option.some.injEq] at ho
            subst ho
            intro w hSw
            obtain ⟨e0, e1, e2, e3, e4, e5⟩ := hSw.facts HE.out
            go_simp
            (try with_reducible rfl)
          (try simp only [Act.put, List.setIfInBounds_toArray, List.set_cons_zero, List.set_cons_succ])
          refine take_y (i := 5) (d := some 65) (v := ?_) rfl rfl (by kernel_rfl) (by kernel_rfl) (by kernel_rfl) (fun _ _ _ h => h) (by assumption) ?_ ?_
          rotate_left
          · intro oi ho
            simp only [List.getElem?_toArray, List.getElem?_cons_succ, List.getElem?_cons_zero, Option.some.injEq] at ho
            subst ho
            intro w hSw
            obtain ⟨e0, e1, e2, e3, e4, e5⟩ := hSw.facts HE.out
            go_simp
            (try with_reducible rfl)
          (try simp only [Act.put, List.setIfInBounds_toArray, List.set_cons_zero, List.set_cons_succ])
          refine take_y (i := 6) (d := some 66) (v := ?_) rfl rfl (by kernel_rfl) (by kernel_rfl) (by kernel_rfl) (fun _ _ _ h => h) (by assumption) ?_ ?_
          rotate_left
          · intro oi ho
            simp only [List.getElem?_toArray, List.getElem?_cons_succ, List.getElem?_cons_zero, Option.some.injEq] at ho
            subst ho
            intro w hSw
            obtain ⟨e0, e1, e2, e3, e4, e5⟩ := hSw.facts HE.out
            go_simp
            (try with_reducible rfl)
          (try simp only [Act.put, List.setIfInBounds_toArray, List.set_cons_zero, List.set_cons_succ])
          refine take_y (i := 7) (d := some 67) (v := ?_) rfl rfl (by kernel_rfl) (by kernel_rfl) (by kernel_rfl) (fun _ _ _ h => h) (by assumption) ?_ ?_
          rotate_left
          · intro oi ho
            simp only [List.getElem?_toArray, List.getElem?_cons_succ, List.getElem?_cons_zero, Option.some.injEq] at ho
            subst ho
            intro w hSw
            obtain ⟨e0, e1, e2, e3, e4, e5⟩ := hSw.facts HE.out
            go_simp
            (try with_reducible rfl)
          (try simp only [Act.put, List.setIfInBounds_toArray, List.set_cons_zero, List.set_cons_succ])
          have hbxd : BoxN wo.drew bx d := HBX.out.below (Below.refl _ _).drew
          obtain ⟨⟨b0, b1, b2, b3⟩, _⟩ := hbxd.cells
          refine wpAnyH_ready (rs := [0]) (by kernel_rfl) (by simp) ?_
          refine AllReadyH.cons rfl (fun K hK => ?_) AllReadyH.nil
          go_simp
          refine hK.out _ _ ?_ (fun hHeld => ?_)
          · exact HS0.out.drew
          clear hK K
          (try simp only [Act.put, List.setIfInBounds_toArray, List.set_cons_zero, List.set_cons_succ])
          clear b0 b1 b2 b3 hbxd
          refine wpAnyH_ready (rs := [8]) (by kernel_rfl) (by simp) ?_
          refine AllReadyH.cons rfl (fun K hK => ?_) AllReadyH.nil
          go_simp
          refine (HMG _).out.mono ?_
          rintro _ wm ⟨rfl, hbm⟩
          refine hK.out _ _ ?_ (fun hHeld => ?_)
          · exact hHeld.keep hbm
          clear hK K
          (try simp only [Act.put, List.setIfInBounds_toArray, List.set_cons_zero, List.set_cons_succ])
          unfold nodeV
          refine wpAnyH_ready (rs := [9]) (by kernel_rfl) (by simp) ?_
          refine AllReadyH.cons rfl (fun K hK => ?_) AllReadyH.nil
          obtain ⟨⟨k0, k1, k2, k3⟩, k4, k5, k6, k7⟩ := ((HBX.out.below (Below.refl _ _).drew).below hbm).cells
          go_simp
          refine hK.out _ _ ?_ (fun hHeld => ?_)
          · exact hHeld.set (by omega) hpl hgl (mergeN d e)
          clear hK K
          (try simp only [Act.put, List.setIfInBounds_toArray, List.set_cons_zero, List.set_cons_succ])
          refine wpAnyH_done (by kernel_rfl) ?_ _
          have hqm := (by assumption : QS w B p g n bx nd wm)
          have hq2 := hqm.set (by omega) hpl hgl (mergeN d e)
          have hbx2 := ((HBX.out.below (Below.refl _ _).drew).below hbm).set (mergeN d e)
          have hx2 := heap_set4 (box_kept (w := wo.drew) HX.out hbm) (show w.heap.size ≠ bx by omega) (.int .i64 (hiW (mergeN d e).s)) (.int .u64 (loW (mergeN d e).s)) (.int .i64 (mergeN d e).mn) (.int .i64 (mergeN d e).mx)
          obtain ⟨w2, hw2'⟩ : ∃ w2, w2 = ((((wm.setCell ⟨bx, 0, none⟩ (.int .i64 (hiW (mergeN d e).s))).setCell ⟨bx, 1, none⟩ (.int .u64 (loW (mergeN d e).s))).setCell ⟨bx, 2, none⟩ (.int .i64 (mergeN d e).mn)).setCell ⟨bx, 3, none⟩ (.int .i64 (mergeN d e).mx)) := ⟨_, rfl⟩
          rw [← hw2'] at hq2 hbx2 hx2 ⊢
          have HA1 := Lib.hid hq2.below
          have HA2 := Lib.hid hq2.tree
          have HA3 := Lib.hid hbx2
          have HA4 := Lib.hid hx2
          clear hw2' hHeld k0 k1 k2 k3 k4 k5 k6 k7 hbm HMG HS0 hqm hq2 hbx2 hx2 HBX HX HE hm3
          go_wp2_with fail
          go_meet
          exact ⟨lo + 1, mergeN d e, by go_num, Lib.hid (by omega), HQ2, HA1, HA2, HA3, HA4⟩
        · have hodn : Hid (lo % 2 = 0) := Lib.hid (by omega)
          go_wp2_with fail
          go_meet
          exact ⟨lo, d, rfl, Lib.hid ⟨hodn.out, .inl rfl⟩, HQ, HB, HT, HBX, HX⟩
      case rest =>
        obtain ⟨lo2, d2, rfl, HP, HQ2, HB2, HT2, HBX2, HX2⟩ := hcut
        clear HQ HB HT HBX HX
        obtain ⟨wp, rfl⟩ : ∃ wp : World, wp = wc := ⟨_, rfl⟩
        have hlo2 : (lo2 : Int) ≤ 401 := by have := HP.out; omega
        have hlo3 : 0 ≤ (lo2 : Int) := by omega
        have HZ2 : Hid ((lo2 : Int) / 2 = ((lo2 / 2 : Nat) : Int)) := Lib.hid (by omega)
        by_cases hodd : (hi : Int) % 2 = 1
        · obtain ⟨d, rfl⟩ : ∃ d, d = d2 := ⟨_, rfl⟩
          obtain ⟨wo, rfl⟩ : ∃ wo : World, wo = wp := ⟨_, rfl⟩
          obtain ⟨h1, hh1⟩ : ∃ h1 : Nat, hi = h1 + 1 := ⟨hi - 1, by omega⟩
          have hllt : lo2 < hi := by have := HP.out; omega
          obtain ⟨e, he⟩ := lget_some nd (hi - 1) (by rw [HT2.out.len]; omega)
          obtain ⟨hQ2, hW1, hW2⟩ := HQ2.out.right HNL.out HN.out hllt he HNQ.out hl ht
          rw [show hi - 1 = h1 by omega] at he hQ2
          have HMG := fun W => Lib.hid (merge_node d e hW1 hW2 W)
          have HE := Lib.hid he
          have hp2 : Hid (∃ x y, lo2 = 2 * x ∧ h1 = 2 * y) := Lib.hid ⟨lo2 / 2, h1 / 2, by have := HP.out; omega, by omega⟩
          have HQ3 : Hid (QIs n f t a (mergeN d e) (lo2 / 2) (h1 / 2)) := Lib.hid (by
            obtain ⟨x, y, hx, hy⟩ := hp2.out
            have : QIs n f t a (mergeN d e) (2 * x) (2 * y) := by rw [← hx, ← hy]; exact hQ2
            rw [show lo2 / 2 = x by omega, show h1 / 2 = y by omega]
            exact this.half)
          have hm3 : (h1 : Int) < 2 * (n : Int) := by omega
          have hi1 : (hi : Int) - 1 = (h1 : Int) := by omega
          have HS0 : Hid (QS w B p g n bx nd wo) := Lib.hid ⟨HB2.out, HT2.out, d, HBX2.out⟩
          have HBX := HBX2
          have HX := HX2
          clear he hQ2 hW1 hW2 HQ2 HB2 HT2 HBX2 HX2 hp2 hh1
          go_upto_region 12 with fail
          refine wp_region_held_drew (S := QS w B p g n bx nd) (by kernel_rfl) HS0.out.drew (fun hHeld => ?_)
          refine take_y (i := 1) (d := some 77) (v := ?_) rfl rfl (by kernel_rfl) (by kernel_rfl) (by kernel_rfl) (fun _ _ _ h => h) (by assumption) ?_ ?_
          rotate_left
          · intro oi ho
            simp only [List.getElem?_toArray, List.getElem?_cons_succ, List.getElem?_cons_zero, Option.some.injEq] at ho
            subst ho
            intro w hSw
            obtain ⟨e0, e1, e2, e3, e4, e5⟩ := hSw.facts HE.out
            go_simp
            (try with_reducible rfl)
          (try simp only [Act.put, List.setIfInBounds_toArray, List.set_cons_zero, List.set_cons_succ])
          refine take_y (i := 2) (d := some 78) (v := ?_) rfl rfl (by kernel_rfl) (by kernel_rfl) (by kernel_rfl) (fun _ _ _ h => h) (by assumption) ?_ ?_
          rotate_left
          · intro oi ho
            simp only [List.getElem?_toArray, List.getElem?_cons_succ, List.getElem?_cons_zero, Option.some.injEq] at ho
            subst ho
            intro w hSw
            obtain ⟨e0, e1, e2, e3, e4, e5⟩ := hSw.facts HE.out
            go_simp
            (try with_reducible rfl)
          (try simp only [Act.put, List.setIfInBounds_toArray, List.set_cons_zero, List.set_cons_succ])
          refine take_y (i := 3) (d := some 79) (v := ?_) rfl rfl (by kernel_rfl) (by kernel_rfl) (by kernel_rfl) (fun _ _ _ h => h) (by assumption) ?_ ?_
          rotate_left
          · intro oi ho
            simp only [List.getElem?_toArray, List.getElem?_cons_succ, List.getElem?_cons_zero, Option.some.injEq] at ho
            subst ho
            intro w hSw
            obtain ⟨e0, e1, e2, e3, e4, e5⟩ := hSw.facts HE.out
            go_simp
            (try with_reducible rfl)
          (try simp only [Act.put, List.setIfInBounds_toArray, List.set_cons_zero, List.set_cons_succ])
          refine take_y (i := 4) (d := some 80) (v := ?_) rfl rfl (by kernel_rfl) (by kernel_rfl) (by kernel_rfl) (fun _ _ _ h => h) (by assumption) ?_ ?_
          rotate_left
          · intro oi ho
            simp only [List.getElem?_toArray, List.getElem?_cons_succ, List.getElem?_cons_zero, Option.some.injEq] at ho
            subst ho
            intro w hSw
            obtain ⟨e0, e1, e2, e3, e4, e5⟩ := hSw.facts HE.out
            go_simp
            (try with_reducible rfl)
          (try simp only [Act.put, List.setIfInBounds_toArray, List.set_cons_zero, List.set_cons_succ])
          refine take_y (i := 5) (d := some 81) (v := ?_) rfl rfl (by kernel_rfl) (by kernel_rfl) (by kernel_rfl) (fun _ _ _ h => h) (by assumption) ?_ ?_
          rotate_left
          · intro oi ho
            simp only [List.getElem?_toArray, List.getElem?_cons_succ, List.getElem?_cons_zero, Option.some.injEq] at ho
            subst ho
            intro w hSw
            obtain ⟨e0, e1, e2, e3, e4, e5⟩ := hSw.facts HE.out
            go_simp
            (try with_reducible rfl)
          (try simp only [Act.put, List.setIfInBounds_toArray, List.set_cons_zero, List.set_cons_succ])
          refine take_y (i := 6) (d := some 82) (v := ?_) rfl rfl (by kernel_rfl) (by kernel_rfl) (by kernel_rfl) (fun _ _ _ h => h) (by assumption) ?_ ?_
          rotate_left
          · intro oi ho
            simp only [List.getElem?_toArray, List.getElem?_cons_succ, List.getElem?_cons_zero, Option.some.injEq] at ho
            subst ho
            intro w hSw
            obtain ⟨e0, e1, e2, e3, e4, e5⟩ := hSw.facts HE.out
            go_simp
            (try with_reducible rfl)
          (try simp only [Act.put, List.setIfInBounds_toArray, List.set_cons_zero, List.set_cons_succ])
          refine take_y (i := 7) (d := some 83) (v := ?_) rfl rfl (by kernel_rfl) (by kernel_rfl) (by kernel_rfl) (fun _ _ _ h => h) (by assumption) ?_ ?_
          rotate_left
          · intro oi ho
            simp only [List.getElem?_toArray, List.getElem?_cons_succ, List.getElem?_cons_zero, Option.some.injEq] at ho
            subst ho
            intro w hSw
            obtain ⟨e0, e1, e2, e3, e4, e5⟩ := hSw.facts HE.out
            go_simp
            (try with_reducible rfl)
          (try simp only [Act.put, List.setIfInBounds_toArray, List.set_cons_zero, List.set_cons_succ])
          have hbxd : BoxN wo.drew bx d := HBX.out.below (Below.refl _ _).drew
          obtain ⟨⟨b0, b1, b2, b3⟩, _⟩ := hbxd.cells
          refine wpAnyH_ready (rs := [0]) (by kernel_rfl) (by simp) ?_
          refine AllReadyH.cons rfl (fun K hK => ?_) AllReadyH.nil
          go_simp
          refine hK.out _ _ ?_ (fun hHeld => ?_)
          · exact HS0.out.drew
          clear hK K
          (try simp only [Act.put, List.setIfInBounds_toArray, List.set_cons_zero, List.set_cons_succ])
          clear b0 b1 b2 b3 hbxd
          refine wpAnyH_ready (rs := [8]) (by kernel_rfl) (by simp) ?_
          refine AllReadyH.cons rfl (fun K hK => ?_) AllReadyH.nil
          go_simp
          refine (HMG _).out.mono ?_
          rintro _ wm ⟨rfl, hbm⟩
          refine hK.out _ _ ?_ (fun hHeld => ?_)
          · exact hHeld.keep hbm
          clear hK K
          (try simp only [Act.put, List.setIfInBounds_toArray, List.set_cons_zero, List.set_cons_succ])
          unfold nodeV
          refine wpAnyH_ready (rs := [9]) (by kernel_rfl) (by simp) ?_
          refine AllReadyH.cons rfl (fun K hK => ?_) AllReadyH.nil
          obtain ⟨⟨k0, k1, k2, k3⟩, k4, k5, k6, k7⟩ := ((HBX.out.below (Below.refl _ _).drew).below hbm).cells
          go_simp
          refine hK.out _ _ ?_ (fun hHeld => ?_)
          · exact hHeld.set (by omega) hpl hgl (mergeN d e)
          clear hK K
          (try simp only [Act.put, List.setIfInBounds_toArray, List.set_cons_zero, List.set_cons_succ])
          refine wpAnyH_done (by kernel_rfl) ?_ _
          have hqm := (by assumption : QS w B p g n bx nd wm)
          have hq2 := hqm.set (by omega) hpl hgl (mergeN d e)
          have hbx2 := ((HBX.out.below (Below.refl _ _).drew).below hbm).set (mergeN d e)
          have hx2 := heap_set4 (box_kept (w := wo.drew) HX.out hbm) (show w.heap.size ≠ bx by omega) (.int .i64 (hiW (mergeN d e).s)) (.int .u64 (loW (mergeN d e).s)) (.int .i64 (mergeN d e).mn) (.int .i64 (mergeN d e).mx)
          obtain ⟨w2, hw2'⟩ : ∃ w2, w2 = ((((wm.setCell ⟨bx, 0, none⟩ (.int .i64 (hiW (mergeN d e).s))).setCell ⟨bx, 1, none⟩ (.int .u64 (loW (mergeN d e).s))).setCell ⟨bx, 2, none⟩ (.int .i64 (mergeN d e).mn)).setCell ⟨bx, 3, none⟩ (.int .i64 (mergeN d e).mx)) := ⟨_, rfl⟩
          rw [← hw2'] at hq2 hbx2 hx2 ⊢
          have HA1 := Lib.hid hq2.below
          have HA2 := Lib.hid hq2.tree
          have HA3 := Lib.hid hbx2
          have HA4 := Lib.hid hx2
          clear hw2' hHeld k0 k1 k2 k3 k4 k5 k6 k7 hbm HMG HS0 hqm hq2 hbx2 hx2 HBX HX HE hm3
          have HZ3 : Hid ((h1 : Int) / 2 = ((h1 / 2 : Nat) : Int)) := Lib.hid (by omega)
          have hh9 : 0 ≤ (h1 : Int) := by omega
          have hh8 : (h1 : Int) ≤ 400 := by omega
          have hhm : h1 / 2 < hi := by omega
          clear hi1
          go_wp2_with fail
          go_roundw
          case rel => exact ⟨lo2 / 2, h1 / 2, mergeN d e, by rw [HZ2.out], by rw [HZ3.out], HQ3, HA1, HA2, HA3, HA4⟩
          case measure => simp [intOf]; omega
        · have HZ3 : Hid ((hi : Int) / 2 = ((hi / 2 : Nat) : Int)) := Lib.hid (by omega)
          have hp2 : Hid (∃ x y, lo2 = 2 * x ∧ hi = 2 * y) := Lib.hid ⟨lo2 / 2, hi / 2, by have := HP.out; omega, by omega⟩
          have HQ3 : Hid (QIs n f t a d2 (lo2 / 2) (hi / 2)) := Lib.hid (by
            obtain ⟨x, y, hx, hy⟩ := hp2.out
            have h2 := HQ2.out
            rw [hx, hy] at h2
            rw [show lo2 / 2 = x by omega, show hi / 2 = y by omega]
            exact h2.half)
          clear hp2
          go_wp2_with fail
          go_roundw
          case rel => exact ⟨lo2 / 2, hi / 2, d2, by rw [HZ2.out], by rw [HZ3.out], HQ3, HB2, HT2, HBX2, HX2⟩
          case measure => simp [intOf]; omega
    · have HF := Lib.hid (HQ.out.done (by omega))
      obtain ⟨⟨b0, b1, b2, b3⟩, _⟩ := HBX.out.cells
      obtain ⟨⟨x0, x1, x2, x3⟩, x4, x5, x6, x7⟩ := box4 HX.out
      have hlI : ¬ ((lo : Int) < (hi : Int)) := by omega
      clear HQ HT HBX HX hlo1 hhi1
      have hzw : w.heap.size < wo.heap.size := World.block_lt_of_cell? _ _ x0
      go_wp2_with fail
      refine bodyPost_ret (v := .tuple #[nodeV d, .bool true]) (by simp [nodeV, results, Try.results30, go_sem, x0, x1, x2, x3]) rfl ⟨d, rfl, HF.out, ?_⟩
      exact below_set4 HB.out (Nat.le_refl _) (Nat.le_refl _) (Nat.le_refl _) (Nat.le_refl _)
end Go.Proofs.Ytfmbbfidjcgeiaa

namespace Go.Proofs.Ytfmbbfidjcgeiaa
open Go.RowKit Go.Lib Go.Shelf

def sumR (a : List Int) (f t : Int) : Int × Bool := if 0 ≤ f ∧ f ≤ t ∧ t ≤ (a.length : Int) ∧ In64B (sumI (elts a f.toNat t.toNat)) = true then (sumI (elts a f.toNat t.toNat), true) else (0, false)
def PairRet (w : World) (r : Int × Bool) (e : Ending) (w' : World) : Prop := e = .returned (.tuple #[.int .i64 r.1, .bool r.2]) ∧ Below w.heap.size w w'
def SmRet (w : World) (l : List Int) (f : Nd → Int) (e : Ending) (w' : World) : Prop := ∃ d, Sm l d ∧ PairRet w (f d, true) e w'
theorem pair_ret {w w' : World} {x : Int} {b : Bool} {r : Int × Bool} (h : r = (x, b)) (hb : Below w.heap.size w w') : PairRet w r (.returned (.tuple #[.int .i64 x, .bool b])) w' := by subst h; exact ⟨rfl, hb⟩
section
variable {B p g n : Nat} {a : List Int} {nd : List Nd}
set_option maxHeartbeats 4000000 in
set_option maxRecDepth 100000 in
theorem sum_no (f t : Int) (w : World) (hT : TreeAt w B p g nd n) (h : f < 0 ∨ t < f ∨ (n : Int) < t) :
    Calls Try.prog 12 #[.pointer (some ⟨p, 0, none⟩), .int .i64 f, .int .i64 t] w (PairRet w (0, false)) := by
  have HQ := Lib.hid (query_no f t w hT (by omega))
  have c0 := hT.c0
  clear hT
  by_cases he : f = t
  · subst he
    by_cases h1 : f < 0
    · have h2 : ¬ 0 ≤ f := by omega
      clear h
      go_enter Try.func12, Try.ntmps12
      go_wp2_with fail
      refine HQ.out.mono ?_
      rintro _ w1 ⟨d, rfl, _, hb⟩
      unfold nodeV
      go_wp2_with fail
      go_ret2
      exact pair_ret rfl (below_alloc_keep hb)
    · have h2 : 0 ≤ f := by omega
      have h3 : ¬ f ≤ (n : Int) := by omega
      clear h
      go_enter Try.func12, Try.ntmps12
      go_wp2_with fail
      refine HQ.out.mono ?_
      rintro _ w1 ⟨d, rfl, _, hb⟩
      unfold nodeV
      go_wp2_with fail
      go_ret2
      exact pair_ret rfl (below_alloc_keep hb)
  · clear h
    go_enter Try.func12, Try.ntmps12
    go_wp2_with fail
    refine HQ.out.mono ?_
    rintro _ w1 ⟨d, rfl, _, hb⟩
    unfold nodeV
    go_wp2_with fail
    go_ret2
    exact pair_ret rfl (below_alloc_keep hb)
set_option maxHeartbeats 4000000 in
set_option maxRecDepth 100000 in
theorem sum_zero (f : Nat) (w : World) (hT : TreeAt w B p g nd n) (h : f ≤ n) :
    Calls Try.prog 12 #[.pointer (some ⟨p, 0, none⟩), .int .i64 (f : Int), .int .i64 (f : Int)] w (PairRet w (0, true)) := by
  have c0 := hT.c0
  clear hT
  go_enter Try.func12, Try.ntmps12
  go_wp2_with fail
  go_ret2
  exact pair_ret rfl (Below.refl _ _)
set_option maxHeartbeats 4000000 in
set_option maxRecDepth 100000 in
theorem sum_yes (f t : Nat) (w : World) (hT : TreeAt w B p g nd n) (hN : TreeN a nd) (hn : a.length = n) (hq : Num64 a) (hl : n ≤ 200) (h : f < t) (ht : t ≤ n) :
    Calls Try.prog 12 #[.pointer (some ⟨p, 0, none⟩), .int .i64 (f : Int), .int .i64 (t : Int)] w (PairRet w (if In64B (sumI (elts a f t)) = true then (sumI (elts a f t), true) else (0, false))) := by
  have HQ := Lib.hid (query_yes f t w hT hN hn hq hl h ht)
  have hft : ¬ f = t := by omega
  generalize hr : (if In64B (sumI (elts a f t)) = true then (sumI (elts a f t), true) else (0, false)) = r
  have HR := Lib.hid hr
  clear hT hN hq hr
  go_enter Try.func12, Try.ntmps12
  go_wp2_with fail
  refine HQ.out.mono ?_
  rintro _ w1 ⟨d, rfl, hs, hb⟩
  have hI := fun W => int64_any d.s W
  have HB := Lib.hid (below_alloc_keep (o := .cells #[.int .i64 (hiW d.s), .int .u64 (loW d.s), .int .i64 d.mn, .int .i64 d.mx] 74) hb)
  have hds := hs.s
  unfold nodeV
  unfold wideV at hI
  obtain ⟨ds, mn, mx⟩ := d
  dsimp only at *
  rw [← hds] at HR
  generalize hiW ds = A at *
  generalize loW ds = C at *
  have HI := fun W => Lib.hid (hI W)
  clear hs hb hds HQ hI
  cases hq : In64B ds
  all_goals rw [hq] at HI HR
  all_goals clear hq
  · go_wp2_with fail
    refine (HI _).out.mono ?_
    rintro _ w2 ⟨x, rfl, _, hb2⟩
    go_wp2_with fail
    go_ret2
    exact pair_ret (by rw [← HR.out]; rfl) (below_keep HB.out hb2)
  · go_wp2_with fail
    refine (HI _).out.mono ?_
    rintro _ w2 ⟨x, rfl, hx, hb2⟩
    have HX := Lib.hid hx
    clear hx
    go_wp2_with fail
    go_ret2
    exact pair_ret (by rw [← HR.out, HX.out trivial]; rfl) (below_keep HB.out hb2)
set_option maxHeartbeats 4000000 in
set_option maxRecDepth 100000 in
theorem min_no (f t : Int) (w : World) (hT : TreeAt w B p g nd n) (h : f < 0 ∨ t ≤ f ∨ (n : Int) < t) :
    Calls Try.prog 13 #[.pointer (some ⟨p, 0, none⟩), .int .i64 f, .int .i64 t] w (PairRet w (0, false)) := by
  have HQ := Lib.hid (query_no f t w hT h)
  clear hT h
  go_enter Try.func13, Try.ntmps13
  go_wp2_with fail
  refine HQ.out.mono ?_
  rintro _ w1 ⟨d, rfl, hd, hb⟩
  have HD := Lib.hid hd.1
  have HB := Lib.hid (below_alloc_keep (o := .cells #[.int .i64 (hiW d.s), .int .u64 (loW d.s), .int .i64 d.mn, .int .i64 d.mx] 74) hb)
  clear hd hb HQ
  unfold nodeV
  go_wp2_with fail
  go_ret2
  exact pair_ret (by rw [HD.out]) HB.out
set_option maxHeartbeats 4000000 in
set_option maxRecDepth 100000 in
theorem min_yes (f t : Nat) (w : World) (hT : TreeAt w B p g nd n) (hN : TreeN a nd) (hn : a.length = n) (hq : Num64 a) (hl : n ≤ 200) (h : f < t) (ht : t ≤ n) :
    Calls Try.prog 13 #[.pointer (some ⟨p, 0, none⟩), .int .i64 (f : Int), .int .i64 (t : Int)] w (SmRet w (elts a f t) Nd.mn) := by
  have HQ := Lib.hid (query_yes f t w hT hN hn hq hl h ht)
  clear hT hN hq
  go_enter Try.func13, Try.ntmps13
  go_wp2_with fail
  refine HQ.out.mono ?_
  rintro _ w1 ⟨d, rfl, hd, hb⟩
  have HD := Lib.hid hd
  have HB := Lib.hid (below_alloc_keep (o := .cells #[.int .i64 (hiW d.s), .int .u64 (loW d.s), .int .i64 d.mn, .int .i64 d.mx] 74) hb)
  clear hd hb HQ
  unfold nodeV
  go_wp2_with fail
  go_ret2
  exact ⟨d, HD.out, pair_ret rfl HB.out⟩
set_option maxHeartbeats 4000000 in
set_option maxRecDepth 100000 in
theorem max_no (f t : Int) (w : World) (hT : TreeAt w B p g nd n) (h : f < 0 ∨ t ≤ f ∨ (n : Int) < t) :
    Calls Try.prog 14 #[.pointer (some ⟨p, 0, none⟩), .int .i64 f, .int .i64 t] w (PairRet w (0, false)) := by
  have HQ := Lib.hid (query_no f t w hT h)
  clear hT h
  go_enter Try.func14, Try.ntmps14
  go_wp2_with fail
  refine HQ.out.mono ?_
  rintro _ w1 ⟨d, rfl, hd, hb⟩
  have HD := Lib.hid hd.2
  have HB := Lib.hid (below_alloc_keep (o := .cells #[.int .i64 (hiW d.s), .int .u64 (loW d.s), .int .i64 d.mn, .int .i64 d.mx] 74) hb)
  clear hd hb HQ
  unfold nodeV
  go_wp2_with fail
  go_ret2
  exact pair_ret (by rw [HD.out]) HB.out
set_option maxHeartbeats 4000000 in
set_option maxRecDepth 100000 in
theorem max_yes (f t : Nat) (w : World) (hT : TreeAt w B p g nd n) (hN : TreeN a nd) (hn : a.length = n) (hq : Num64 a) (hl : n ≤ 200) (h : f < t) (ht : t ≤ n) :
    Calls Try.prog 14 #[.pointer (some ⟨p, 0, none⟩), .int .i64 (f : Int), .int .i64 (t : Int)] w (SmRet w (elts a f t) Nd.mx) := by
  have HQ := Lib.hid (query_yes f t w hT hN hn hq hl h ht)
  clear hT hN hq
  go_enter Try.func14, Try.ntmps14
  go_wp2_with fail
  refine HQ.out.mono ?_
  rintro _ w1 ⟨d, rfl, hd, hb⟩
  have HD := Lib.hid hd
  have HB := Lib.hid (below_alloc_keep (o := .cells #[.int .i64 (hiW d.s), .int .u64 (loW d.s), .int .i64 d.mn, .int .i64 d.mx] 74) hb)
  clear hd hb HQ
  unfold nodeV
  go_wp2_with fail
  go_ret2
  exact ⟨d, HD.out, pair_ret rfl HB.out⟩
end
end Go.Proofs.Ytfmbbfidjcgeiaa

namespace Go.Proofs.Ytfmbbfidjcgeiaa
open Go.RowKit Go.Lib

def awk8 : Tup := ⟨[], 5, 6, []⟩
theorem awk8_ext : extL (clampD 3) [awk8] = [⟨[], 5, 8, []⟩] := by
  have h : pvalid awk8.lo awk8.hi = true ∧ awk8.lo < 1000000 := by decide
  unfold extL
  rw [List.flatMap_cons, List.flatMap_nil, List.append_nil]
  unfold extT
  rw [if_pos h]
  rfl
theorem gint_ne {a b : Int} (h : a ≠ b) : cmpG (gint a) (gint b) ≠ 0 := fun e => h (by
  have := congrArg GVal.n (cmpG_zero.1 e)
  exact this)
theorem awk8_pts : mvPts [⟨[], 5, 8, []⟩] = [0, 5, 8, 1000000] := by
  refine asc_unique (mvPts_asc _) (by decide) fun x => ?_
  rw [mvPts_mem, show allEnds [⟨[], 5, 8, []⟩] = [5, 8] by decide +kernel]
  simp
  omega
theorem awk8_mov : movL [awk8] [] 0 3 1 = [⟨0, 5, gint 0⟩, ⟨5, 8, gint 1⟩, ⟨8, 1000000, gint 0⟩] := by
  unfold movL
  rw [awk8_ext, awk8_pts]
  have h : ∀ p, aggT [] 0 1 (holdL [⟨[], 5, 8, []⟩] p) = gint (holdL [⟨[], 5, 8, []⟩] p).length := fun p => by unfold aggT aggP; rw [if_pos rfl, List.length_map]
  simp only [h]
  have h0 : (holdL [⟨[], 5, 8, []⟩] 0).length = 0 := by decide +kernel
  have h1 : (holdL [⟨[], 5, 8, []⟩] 5).length = 1 := by decide +kernel
  have h2 : (holdL [⟨[], 5, 8, []⟩] 8).length = 0 := by decide +kernel
  simp only [stepsL, stepsTo, List.length_cons, List.length_nil, Nat.add_one_sub_one, List.getElem?_cons_zero, List.getElem?_cons_succ, Option.getD_some, h0, h1, h2, putStep_nil]
  show putStep (putStep [⟨0, 5, gint 0⟩] ⟨5, 8, gint 1⟩) ⟨8, 1000000, gint 0⟩ = _
  rw [putStep_new (out := [⟨0, 5, gint 0⟩]) (z := ⟨0, 5, gint 0⟩) rfl (gint_ne (by decide)), putStep_new (z := ⟨5, 8, gint 1⟩) rfl (gint_ne (by decide))]
  rfl
theorem awk8_num : Num64 [3, -1, 4] := by
  intro x hx
  simp at hx
  omega
theorem awk8_sum : sumI (elts [3, -1, 4] 0 2) = 2 := by decide +kernel
theorem awk8_max {d : Nd} (h : Sm (elts [3, -1, 4] 0 3) d) : d.mx = 4 := by
  have e : elts [3, -1, 4] 0 3 = [3, -1, 4] := by decide +kernel
  rw [e] at h
  have h1 := h.mx
  have h2 := h.high 4 (by simp)
  simp at h1
  omega
def QuietW (w : World) (e : Ending) (w' : World) : Prop := e = .returned (.bool true) ∧ Below w.heap.size w w'
set_option maxHeartbeats 8000000 in
set_option maxRecDepth 100000 in
theorem awake18_any (w : World) : Calls Try.prog 10 #[] w (QuietW w) := by
  have hl : Sl i64E (w.alloc (.cells #[.int .i64 3, .int .i64 (-1), .int .i64 4] 2)) free (.slice (some ⟨w.heap.size, 0, none⟩) 3 3) [3, -1, 4] :=
    Sl.of_block (World.alloc_heap_new _ _) ⟨rfl, fun i x hx => by
      rcases i with _ | _ | _ | i
      · cases hx; rfl
      · cases hx; rfl
      · cases hx; rfl
      · simp at hx⟩ id rfl (by decide) (by decide)
  have HN := Lib.hid (new_tree _ [3, -1, 4] _ hl awk8_num (by decide))
  clear hl
  go_enter Try.func10, Try.ntmps10
  go_wp2_with fail
  refine HN.out.mono ?_
  rintro _ w1 ⟨p, nd, rfl, hT, hTN, hb1⟩
  have hb1' : Below w.heap.size w w1 := below_alloc2' hb1
  have HB1 := Lib.hid hb1'
  have HT1 := Lib.hid hT
  have HTN := Lib.hid hTN
  have HS := Lib.hid (sum_yes 0 2 w1 hT hTN rfl awk8_num (by decide) (by decide) (by decide))
  rw [awk8_sum, if_pos (by decide)] at HS
  clear hb1 hb1' hT hTN HN
  go_wp2_with fail
  refine HS.out.mono ?_
  rintro _ w2 ⟨rfl, hb2⟩
  have HB2 := Lib.hid (below_keep HB1.out hb2)
  have HT2 := Lib.hid (HT1.out.below hb2)
  have HS := Lib.hid (max_yes 0 3 w2 HT2.out HTN.out rfl awk8_num (by decide) (by decide) (by decide))
  clear hb2 HT1 HB1
  go_wp2_with fail
  refine HS.out.mono ?_
  rintro _ w3 ⟨d, hd, rfl, hb3⟩
  rw [awk8_max hd]
  have HB3 := Lib.hid (below_keep HB2.out hb3)
  have HT3 := Lib.hid (HT2.out.below hb3)
  have HS := Lib.hid (min_no 1 1 w3 HT3.out (by omega))
  clear hb3 HT2 HB2 hd
  go_wp2_with fail
  refine HS.out.mono ?_
  rintro _ w4 ⟨rfl, hb4⟩
  have HB4 := Lib.hid (below_keep HB3.out hb4)
  have HT4 := Lib.hid (HT3.out.below hb4)
  have HL : Hid (Sl tupE (w4.alloc (.cells #[.slice none 0 0, .int .i64 5, .int .i64 6, .slice none 0 0] 51)) free (.slice (some ⟨w4.heap.size, 0, none⟩) 1 1) [awk8]) := Lib.hid ((own_lit (E := tupE) (Els.one ⟨_, _, rfl, Sl.nil _ _ _ _ _, Sl.nil _ _ _ _ _⟩) rfl (by decide)).sl)
  have HM := Lib.hid (moving_any _ (.slice none 0 0) [awk8] [] 0 3 1 _ HL.out (Sl.nil _ _ _ _ _) (by decide) (by decide) (by simp) (by simp [awk8]))
  rw [awk8_mov] at HM
  clear hb4 HT3 HB3 HL
  go_wp2_with fail
  refine HM.out.mono ?_
  rintro _ w5 ⟨vs, rfl, hO, hb5⟩
  obtain ⟨g, c, rfl⟩ := hO.shape_pos (by decide)
  have HB5 := Lib.hid (below_keep HB4.out (below_alloc2' hb5))
  have HT5 := Lib.hid (HT4.out.below (below_alloc2' hb5))
  obtain ⟨s0, s1, _, _, _⟩ := stp_at (k := 1) hO rfl
  have HS := Lib.hid (len_tree w5 HT5.out)
  clear hb5 HT4 HB4 hO HM
  go_wp2_with fail
  refine HS.out.mono ?_
  rintro _ _ ⟨rfl, rfl⟩
  go_wp2_with fail
  go_ret
  exact ⟨rfl, HB5.out⟩
end Go.Proofs.Ytfmbbfidjcgeiaa

namespace Go.Proofs.Ytfmbbfidjcgeiaa
open Go.RowKit Go.Lib

theorem i32_info : (Try.prog.info? 21).map (fun i => (i.zero, i.size, i.bytes)) = some (some (.int .i32 0), 1, 4) := by kernel_rfl
def i32E : El Try.prog Int := El.flat 21 1 4 (by decide) (info_mk i32_info rfl) (fun x => [.int .i32 x]) (fun _ => rfl) (by intro x u hu; simp at hu; subst hu; rfl)
theorem i32_at {w : World} {G : Nat → Prop} {a : Option Addr} {n c k : Nat} {l : List Int} {x : Int} (h : Sl i32E w G (.slice a n c) l) (hk : l[k]? = some x) : ∃ b o, a = some ⟨b, o, none⟩ ∧ w.cell? ⟨b, o + k, none⟩ = some (.int .i32 x) := by
  obtain ⟨b, o, cs, ha, rfl, hc⟩ := h.at hk
  have := hc 0 _ rfl
  rw [show i32E.size = 1 from rfl, Nat.mul_one, Nat.add_zero] at this
  exact ⟨b, o, ha, this⟩
def Num32 (a : List Int) : Prop := ∀ x ∈ a, -2147483648 ≤ x ∧ x ≤ 2147483647
section
variable {B p g n : Nat} {a : List Int} {nd : List Nd}
theorem sum32 (hq : Num32 a) (hl : a.length ≤ 200) (f t : Nat) (ht : t ≤ a.length) : In64B (sumI (elts a f t)) = true := by
  have hb := sumI_bound (q := 2147483648) (l := elts a f t) fun x hx => by
    unfold elts at hx
    obtain ⟨k, _, rfl⟩ := List.mem_map.1 hx
    exact elt_bound (by omega) (fun x hx => by have := hq x hx; omega) k
  have hl2 : (elts a f t).length ≤ 200 := by unfold elts; rw [List.length_map, List.length_range']; omega
  rw [In64B_iff]
  have hl' : ((elts a f t).length : Int) ≤ 200 := by omega
  omega
theorem elts_empty (f : Nat) : elts a f f = [] := by unfold elts; rw [Nat.sub_self]; rfl
theorem sum_le (f t : Nat) (w : World) (hT : TreeAt w B p g nd n) (hN : TreeN a nd) (hn : a.length = n) (hq : Num32 a) (hl : n ≤ 200) (h : f ≤ t) (ht : t ≤ n) :
    Calls Try.prog 12 #[.pointer (some ⟨p, 0, none⟩), .int .i64 (f : Int), .int .i64 (t : Int)] w (PairRet w (sumI (elts a f t), true)) := by
  rcases Nat.lt_or_eq_of_le h with h | rfl
  · have := sum_yes f t w hT hN hn (fun x hx => by have := hq x hx; omega) hl h ht
    rw [if_pos (sum32 hq (by omega) f t (by omega))] at this
    exact this
  · rw [elts_empty]
    exact sum_zero f w hT (by omega)
/-- Max of a range that may be empty. -/
def MaxRet (w : World) (l : List Int) (e : Ending) (w' : World) : Prop := ∃ (x : Int) (q : Bool), (q = true ↔ l ≠ []) ∧ (q = true → ∃ d, Sm l d ∧ x = d.mx) ∧ PairRet w (x, q) e w'
theorem max_le (f t : Nat) (w : World) (hT : TreeAt w B p g nd n) (hN : TreeN a nd) (hn : a.length = n) (hq : Num64 a) (hl : n ≤ 200) (h : f ≤ t) (ht : t ≤ n) :
    Calls Try.prog 14 #[.pointer (some ⟨p, 0, none⟩), .int .i64 (f : Int), .int .i64 (t : Int)] w (MaxRet w (elts a f t)) := by
  rcases Nat.lt_or_eq_of_le h with h | rfl
  · refine (max_yes f t w hT hN hn hq hl h ht).mono ?_
    rintro e w' ⟨d, hd, hp⟩
    refine ⟨d.mx, true, ⟨fun _ e => ?_, fun _ => rfl⟩, fun _ => ⟨d, hd, rfl⟩, hp⟩
    have := hd.mx
    rw [e] at this
    cases this
  · refine (max_no (f : Int) (f : Int) w hT (by omega)).mono ?_
    rintro e w' hp
    rw [elts_empty]
    exact ⟨0, false, by simp, (fun h => by cases h), hp⟩
end
/-- What the law's numbers are to each other. -/
theorem split_law {l m : List Int} {dm dl dh dr : Nd} {x : Int} {q : Bool} (hm : Sm m dm) (hl : Sm (l ++ m) dl) (hh : Sm (l ++ m) dh) (hr : Sm m dr) (hq1 : q = true ↔ l ≠ []) (hq2 : q = true → ∃ d, Sm l d ∧ x = d.mx) :
    dl.mn ≤ dm.mn ∧ dh.mx = (if q = true ∧ dr.mx < x then x else dr.mx) ∧ sumI (l ++ m) = sumI l + sumI m := by
  refine ⟨hl.low _ (List.mem_append.2 (.inr hm.mn)), ?_, sumI_append _ _⟩
  have h1 := hh.mx
  have h2 := hh.high _ (List.mem_append.2 (.inr hr.mx))
  by_cases h : q = true
  · obtain ⟨d, hd, rfl⟩ := hq2 h
    have h3 := hh.high _ (List.mem_append.2 (.inl hd.mx))
    by_cases hlt : dr.mx < d.mx
    · rw [if_pos ⟨h, hlt⟩]
      rcases List.mem_append.1 h1 with h4 | h4
      · have := hd.high _ h4
        omega
      · have := hr.high _ h4
        omega
    · rw [if_neg (fun e => hlt e.2)]
      rcases List.mem_append.1 h1 with h4 | h4
      · have := hd.high _ h4
        omega
      · have := hr.high _ h4
        omega
  · have he : l = [] := Classical.byContradiction fun e => h (hq1.2 e)
    subst he
    rw [if_neg (fun e => h e.1)]
    have := hr.high _ h1
    omega
set_option maxHeartbeats 16000000 in
set_option maxRecDepth 100000 in
theorem split_walk18 (v : Value) (a : List Int) (i j k : Nat) (w : World) (hv : Sl i32E w free v a) (hq : Num32 a) (hi : i < 256) (hj : j < 256) (hk : k < 256) :
    Calls Try.prog 3 #[v, .int .u8 (i : Int), .int .u8 (j : Int), .int .u8 (k : Int)] w (QuietW w) := by
  obtain ⟨sa, sc, rfl⟩ := hv.shape
  have h63 := hv.1
  have HV := Lib.hid hv
  obtain ⟨n, hn⟩ : ∃ n, n = a.length := ⟨_, rfl⟩
  have HN := Lib.hid hn
  have HQ := Lib.hid hq
  rw [← hn] at HV h63 ⊢
  clear hv hn hq
  by_cases hc : n = 0 ∨ 200 < n
  · have HA := Lib.hid (awake18_any w)
    rcases hc with rfl | hc
    · go_enter Try.func3, Try.ntmps3
      go_wp2_with fail
      refine HA.out.mono ?_
      rintro _ w1 ⟨rfl, hb⟩
      go_wp2_with fail
      go_ret
      exact ⟨rfl, hb⟩
    · have h0 : ¬ n = 0 := by omega
      have h1 : (200 : Int) < (n : Int) := by omega
      go_enter Try.func3, Try.ntmps3
      go_wp2_with fail
      refine HA.out.mono ?_
      rintro _ w1 ⟨rfl, hb⟩
      go_wp2_with fail
      go_ret
      exact ⟨rfl, hb⟩
  · have hn0 : 0 < n := by omega
    have hn2 : n ≤ 200 := by omega
    have h0 : ¬ n = 0 := by omega
    have h1 : ¬ (200 : Int) < (n : Int) := by omega
    clear hc
    go_enter Try.func3, Try.ntmps3
    go_wp2_with fail
    go_loopw [43, 9] (fun i o wr => ∃ m : Nat, m ≤ n ∧ i = .int .i64 (m : Int) ∧ Own i64E wr w.heap.size o (a.take m) ∧ Hid (Below w.heap.size w wr)) (fun i _ _ => n - (intOf i).toNat)
    case atStart => exact ⟨0, Nat.zero_le _, rfl, Own.nil _ _ _, Lib.hid (.refl _ _)⟩
    case round =>
      obtain ⟨m, hm, rfl, hO, HB⟩ := hrel
      obtain ⟨wo, rfl⟩ : ∃ wo : World, wo = wr := ⟨_, rfl⟩
      by_cases hlt : m < n
      · obtain ⟨x, hx⟩ := lget_some a m (by rw [← HN.out]; exact hlt)
        obtain ⟨b, o, rfl, cx⟩ := i32_at (HV.out.below HB.out) hx
        obtain ⟨hx1, hx2⟩ := HQ.out x (List.mem_of_getElem? hx)
        have HT := Lib.hid (take_get hx)
        have hml : (a.take m).length = m := by rw [List.length_take, ← HN.out]; omega
        obtain ⟨lk, hlk⟩ : ∃ lk, lk = a.take m := ⟨_, rfl⟩
        rw [← hlk] at hO HT hml
        obtain ⟨ao, co, rfl⟩ := hO.shape
        have HO := Lib.hid hO
        have hll : lk.length ≤ 200 := by omega
        clear hx hO hlk hml
        go_wp2_with (at_builtin; refine wpList_push rfl (.tmp 47) (.tmp 50) 24 rfl i64E Try.underlying24 w.heap.size (.slice ao lk.length co) lk rfl HO.out [x] #[.int .i64 x] (Els.one rfl) 1 1 rfl rfl (by decide) (by unfold maxLen; omega) (by show _ * 8 ≤ _; omega) HB.out.size ?_; intro g cap w5 hP hPa)
        go_roundw
        case rel => exact ⟨m + 1, by omega, by go_num, by rw [HT.out]; exact hP.own' (by simp), Lib.hid (HB.out.trans hP.below)⟩
        case measure => simp [intOf]; omega
      · have hmk : a.take m = a := List.take_of_length_le (by rw [← HN.out]; omega)
        rw [hmk] at hO
        obtain ⟨ao, co, rfl⟩ := hO.shape
        have HNT := Lib.hid (new_tree _ a wo hO.sl (fun x hx => by have := HQ.out x hx; omega) (by rw [← HN.out]; exact hn2))
        rw [← HN.out] at HNT ⊢
        clear hO hmk
        go_wp2_with fail
        refine HNT.out.mono ?_
        rintro _ w1 ⟨p, nd, rfl, hT, hTN, hb1⟩
        have HB1 := Lib.hid (below_keep HB.out hb1)
        have HT1 := Lib.hid hT
        have HTN := Lib.hid hTN
        obtain ⟨f, hf⟩ : ∃ f : Nat, f = i % n := ⟨_, rfl⟩
        have hfn : f < n := by rw [hf]; exact Nat.mod_lt _ hn0
        have e1 : (i : Int) % (n : Int) = (f : Int) := by omega
        obtain ⟨nf, hnf⟩ : ∃ nf : Nat, nf = n - f := ⟨_, rfl⟩
        have e2 : (n : Int) - (f : Int) = (nf : Int) := by omega
        obtain ⟨jr, hjr⟩ : ∃ jr : Nat, jr = j % nf := ⟨_, rfl⟩
        have hjn : jr < nf := by rw [hjr]; exact Nat.mod_lt _ (by omega)
        have e3 : (j : Int) % (nf : Int) = (jr : Int) := by omega
        obtain ⟨t, ht⟩ : ∃ t : Nat, t = f + jr + 1 := ⟨_, rfl⟩
        have e4 : (f : Int) + (jr : Int) + 1 = (t : Int) := by omega
        obtain ⟨tf, htf⟩ : ∃ tf : Nat, tf = t - f := ⟨_, rfl⟩
        have e5 : (t : Int) - (f : Int) = (tf : Int) := by omega
        obtain ⟨kr, hkr⟩ : ∃ kr : Nat, kr = k % tf := ⟨_, rfl⟩
        have hkn : kr < tf := by rw [hkr]; exact Nat.mod_lt _ (by omega)
        have e6 : (k : Int) % (tf : Int) = (kr : Int) := by omega
        obtain ⟨mid, hmid⟩ : ∃ mid : Nat, mid = f + kr := ⟨_, rfl⟩
        have e7 : (f : Int) + (kr : Int) = (mid : Int) := by omega
        have z1 : ¬ (nf : Int) = 0 := by omega
        have z2 : ¬ (tf : Int) = 0 := by omega
        have z3 : ¬ nf = 0 := by omega
        have z4 : ¬ tf = 0 := by omega
        have b1 : f ≤ 200 := by omega
        have b2 : nf ≤ 200 := by omega
        have b3 : jr ≤ 200 := by omega
        have b4 : t ≤ n := by omega
        have b5 : tf ≤ 200 := by omega
        have b6 : kr ≤ 200 := by omega
        have b7 : mid ≤ 200 := by omega
        have b8 : f ≤ mid := by omega
        have b9 : mid < t := by omega
        have b10 : f < t := by omega
        have HQ64 : Hid (Num64 a) := Lib.hid (fun x hx => by have := HQ.out x hx; omega)
        have HS1 := Lib.hid (sum_le f t w1 HT1.out HTN.out HN.out.symm HQ.out hn2 (by omega) b4)
        have HSP := Lib.hid (elts_split (a := a) b8 (Nat.le_of_lt b9))
        clear hf hnf hjr ht htf hkr hmid hb1 hT hTN HNT
        go_upto_region 11 with fail
        rw [e1]
        clear e1
        go_wp2_with fail
        refine HS1.out.mono ?_
        rintro _ w2 ⟨rfl, hb⟩
        have HB2 := Lib.hid (below_keep HB1.out hb)
        have HT2 := Lib.hid (HT1.out.below hb)
        have HS2 := Lib.hid (sum_le f mid w2 HT2.out HTN.out HN.out.symm HQ.out hn2 b8 (by omega))
        clear e2 e3 e4 e5 e6 e7 z1 z2 z3 z4 hb HS1 HB1 HT1
        go_wp2_with fail
        refine HS2.out.mono ?_
        rintro _ w3 ⟨rfl, hb⟩
        have HB3 := Lib.hid (below_keep HB2.out hb)
        have HT3 := Lib.hid (HT2.out.below hb)
        have HS3 := Lib.hid (sum_le mid t w3 HT3.out HTN.out HN.out.symm HQ.out hn2 (by omega) b4)
        clear hb HS2 HB2 HT2
        go_wp2_with fail
        refine HS3.out.mono ?_
        rintro _ w4 ⟨rfl, hb⟩
        have HB4 := Lib.hid (below_keep HB3.out hb)
        have HT4 := Lib.hid (HT3.out.below hb)
        have HS4 := Lib.hid (min_yes mid t w4 HT4.out HTN.out HN.out.symm HQ64.out hn2 b9 b4)
        clear hb HS3 HB3 HT3
        go_wp2_with fail
        refine HS4.out.mono ?_
        rintro _ w5 ⟨dm, hdm, rfl, hb⟩
        have HB5 := Lib.hid (below_keep HB4.out hb)
        have HT5 := Lib.hid (HT4.out.below hb)
        have HDM := Lib.hid hdm
        have HS5 := Lib.hid (min_yes f t w5 HT5.out HTN.out HN.out.symm HQ64.out hn2 b10 b4)
        clear hb HS4 HB4 HT4 hdm
        go_wp2_with fail
        refine HS5.out.mono ?_
        rintro _ w6 ⟨dl, hdl, rfl, hb⟩
        have HB6 := Lib.hid (below_keep HB5.out hb)
        have HT6 := Lib.hid (HT5.out.below hb)
        have HDL := Lib.hid hdl
        have HS6 := Lib.hid (max_yes f t w6 HT6.out HTN.out HN.out.symm HQ64.out hn2 b10 b4)
        clear hb HS5 HB5 HT5 hdl
        go_wp2_with fail
        refine HS6.out.mono ?_
        rintro _ w7 ⟨dh, hdh, rfl, hb⟩
        have HB7 := Lib.hid (below_keep HB6.out hb)
        have HT7 := Lib.hid (HT6.out.below hb)
        have HDH := Lib.hid hdh
        have HS7 := Lib.hid (max_le f mid w7 HT7.out HTN.out HN.out.symm HQ64.out hn2 b8 (by omega))
        clear hb HS6 HB6 HT6 hdh
        go_wp2_with fail
        refine HS7.out.mono ?_
        rintro _ w8 ⟨x, q, hq1, hq2, rfl, hb⟩
        have HB8 := Lib.hid (below_keep HB7.out hb)
        have HT8 := Lib.hid (HT7.out.below hb)
        have HX1 := Lib.hid hq1
        have HX2 := Lib.hid hq2
        have HS8 := Lib.hid (max_yes mid t w8 HT8.out HTN.out HN.out.symm HQ64.out hn2 b9 b4)
        clear hb HS7 HB7 HT7 hq1 hq2
        go_wp2_with fail
        refine HS8.out.mono ?_
        rintro _ w9 ⟨dr, hdr, rfl, hb⟩
        have HB9 := Lib.hid (below_keep HB8.out hb)
        have hd := HDL.out
        have hh := HDH.out
        rw [HSP.out] at hd hh
        obtain ⟨r1, r2, r3⟩ := split_law HDM.out hd hh hdr HX1.out HX2.out
        rw [← HSP.out] at r3
        have HA := Lib.hid (awake18_any w9)
        have s64 : In64B (sumI (elts a f mid) + sumI (elts a mid t)) = true := by
          rw [← r3]
          exact sum32 HQ.out (by rw [← HN.out]; exact hn2) f t (by rw [← HN.out]; exact b4)
        rw [In64B_iff] at s64
        obtain ⟨s641, s642⟩ := s64
        rw [r3]
        generalize sumI (elts a f mid) = A at *
        generalize sumI (elts a mid t) = C at *
        generalize dl.mn = lo at *
        generalize dm.mn = mm at *
        generalize dh.mx = hi' at *
        generalize dr.mx = right at *
        clear hb HS8 HB8 HT8 hdr hd hh r3
        subst r2
        by_cases hqx : q = true ∧ right < x
        · obtain ⟨rfl, hlx⟩ := hqx
          rw [if_pos ⟨rfl, hlx⟩]
          go_wp2_with fail
          refine HA.out.mono ?_
          rintro _ w10 ⟨rfl, hb⟩
          have HB10 := Lib.hid (below_keep HB9.out hb)
          clear hb
          go_wp2_with fail
          go_ret
          exact ⟨rfl, HB10.out⟩
        · rw [if_neg hqx]
          cases q
          · go_wp2_with fail
            refine HA.out.mono ?_
            rintro _ w10 ⟨rfl, hb⟩
            have HB10 := Lib.hid (below_keep HB9.out hb)
            clear hb
            go_wp2_with fail
            go_ret
            exact ⟨rfl, HB10.out⟩
          · have hlx : ¬ right < x := fun h => hqx ⟨rfl, h⟩
            go_wp2_with fail
            refine HA.out.mono ?_
            rintro _ w10 ⟨rfl, hb⟩
            have HB10 := Lib.hid (below_keep HB9.out hb)
            clear hb
            go_wp2_with fail
            go_ret
            exact ⟨rfl, HB10.out⟩
end Go.Proofs.Ytfmbbfidjcgeiaa

namespace Go.Proofs.Ytfmbbfidjcgeiaa
open Go.ChangeShapes Go.WideShapes Go.ChangeAt Go.RowKit

theorem cells_i64' : Try.prog.cellsOf 2 = 1 := by kernel_rfl
theorem cells_i32' : Try.prog.cellsOf 21 = 1 := by kernel_rfl
section
variable {H : Type} {enc : TypeId × Value → H} {w : World} {spare : Nat → Bool}
theorem open_i64_el (n : Nat) (cs : List Value) (y : DataW H × List MemPlace) (h : DataW.trod enc Try.prog w 0 spare true n 2 cs = some y) (hl : cs.length = 1) : ∃ x, i64E.is w free x cs ∧ Is64 x := by
  match cs, hl with
  | [c0], _ =>
    obtain ⟨k0, e0, _, hw⟩ := DataW.trod_int Try.underlying2 h
    simp at e0
    subst e0
    exact ⟨k0, rfl, is64_of hw⟩
def Is32 (x : Int) : Prop := -2147483648 ≤ x ∧ x ≤ 2147483647
theorem open_i32_el (n : Nat) (cs : List Value) (y : DataW H × List MemPlace) (h : DataW.trod enc Try.prog w 0 spare true n 21 cs = some y) (hl : cs.length = 1) : ∃ x, i32E.is w free x cs ∧ Is32 x := by
  match cs, hl with
  | [c0], _ =>
    obtain ⟨k0, e0, _, hw⟩ := DataW.trod_int Try.underlying21 h
    simp at e0
    subst e0
    refine ⟨k0, rfl, ?_⟩
    simp [Lit.wf, IntKind.min, IntKind.max, IntKind.signed, IntKind.bits] at hw
    unfold Is32
    omega
set_option maxRecDepth 10000 in
theorem open_u8a {base : Nat} {v : Value} {d : DataW H} {ps : List MemPlace}
    (hv : Value.okWide Try.prog w .any base 5 v) (h : DataW.Trod enc Try.prog w 0 spare true 5 v d ps) : ∃ x : Nat, v = .int .u8 (x : Int) ∧ x < 256 := by
  obtain ⟨n, rfl, _, _, hw⟩ := open_int Try.underlying5 hv h
  simp [Lit.wf, IntKind.min, IntKind.max, IntKind.signed, IntKind.bits] at hw
  obtain ⟨k, rfl⟩ := Int.eq_ofNat_of_zero_le hw.1
  exact ⟨k, rfl, by omega⟩
set_option maxRecDepth 10000 in
theorem open_u16a {base : Nat} {v : Value} {d : DataW H} {ps : List MemPlace}
    (hv : Value.okWide Try.prog w .any base 38 v) (h : DataW.Trod enc Try.prog w 0 spare true 38 v d ps) : ∃ x : Nat, v = .int .u16 (x : Int) ∧ x < 65536 := by
  obtain ⟨n, rfl, _, _, hw⟩ := open_int Try.underlying38 hv h
  simp [Lit.wf, IntKind.min, IntKind.max, IntKind.signed, IntKind.bits] at hw
  obtain ⟨k, rfl⟩ := Int.eq_ofNat_of_zero_le hw.1
  exact ⟨k, rfl, by omega⟩
set_option maxRecDepth 10000 in
theorem open_i64a {base : Nat} {v : Value} {d : DataW H} {ps : List MemPlace}
    (hv : Value.okWide Try.prog w .any base 2 v) (h : DataW.Trod enc Try.prog w 0 spare true 2 v d ps) : ∃ x : Int, v = .int .i64 x ∧ Is64 x := by
  obtain ⟨n, rfl, _, _, hw⟩ := open_int Try.underlying2 hv h
  exact ⟨n, rfl, is64_of hw⟩
set_option maxRecDepth 10000 in
theorem open_inta {base : Nat} {v : Value} {d : DataW H} {ps : List MemPlace}
    (hv : Value.okWide Try.prog w .any base 3 v) (h : DataW.Trod enc Try.prog w 0 spare true 3 v d ps) : ∃ x : Int, v = .int .i64 x ∧ Is64 x := by
  obtain ⟨n, rfl, _, _, hw⟩ := open_int Try.underlying3 hv h
  exact ⟨n, rfl, is64_of hw⟩
end
end Go.Proofs.Ytfmbbfidjcgeiaa

namespace Go.Proofs.Ytfmbbfidjcgeiaa
open Go.RowKit Go.Lib Go.Shelf

theorem awake_split : splitAt [⟨[], 0, 9, []⟩] [5, 3, 9, 0] = [⟨[], 0, 3, []⟩, ⟨[], 3, 5, []⟩, ⟨[], 5, 9, []⟩] := by
  have h : srt [5, 3, 9, 0] = [0, 3, 5, 9] := by simp [srt, List.mergeSort]
  rw [splitAt, h]
  simp [splitOne, pvalid, cutAt]
end Go.Proofs.Ytfmbbfidjcgeiaa

namespace Go.Proofs.Ytfmbbfidjcgeiaa
open Go.RowKit Go.Lib Go.Shelf

theorem few_of {l : List Tup} {m : Nat} (h : few l m = true) : l.length ≤ m ∧ ∀ t ∈ l, t.vals.length ≤ 1000 ∧ t.lin.length ≤ 1000 := by
  simp [few, small] at h
  exact ⟨h.1, fun t ht => by have := h.2 t ht; omega⟩

end Go.Proofs.Ytfmbbfidjcgeiaa

namespace Go.Proofs.Ytfmbbfidjcgeiaa
open Go.RowKit Go.Lib

def hi32 (x : Int) : Int := x / 4294967296
def lo32 (x : Int) : Int := x % 4294967296
def hiS : List Int → Int
  | [] => 0
  | x :: l => hi32 x + hiS l
def loS : List Int → Int
  | [] => 0
  | x :: l => lo32 x + loS l
theorem hiS_append : ∀ l m : List Int, hiS (l ++ m) = hiS l + hiS m
  | [], m => by simp [hiS]
  | x :: l, m => by rw [List.cons_append, hiS, hiS, hiS_append l m]; omega
theorem loS_append : ∀ l m : List Int, loS (l ++ m) = loS l + loS m
  | [], m => by simp [loS]
  | x :: l, m => by rw [List.cons_append, loS, loS, loS_append l m]; omega
theorem hilo_sum : ∀ l : List Int, hiS l * 4294967296 + loS l = sumI l
  | [] => rfl
  | x :: l => by
    have := hilo_sum l
    rw [hiS, loS, sumI]
    unfold hi32 lo32
    omega
theorem hiS_bound : ∀ {l : List Int}, (∀ x ∈ l, In64 x) → -(2147483648 * (l.length : Int)) ≤ hiS l ∧ hiS l ≤ 2147483648 * (l.length : Int) ∧ 0 ≤ loS l ∧ loS l ≤ 4294967296 * (l.length : Int)
  | [], _ => by simp [hiS, loS]
  | x :: l, h => by
    have h1 := hiS_bound (l := l) fun y hy => h y (List.mem_cons_of_mem _ hy)
    have h2 := h x (List.mem_cons_self ..)
    rw [hiS, loS, List.length_cons]
    unfold In64 at h2
    unfold hi32 lo32
    omega
/-- The halves at the end, and whether the sum fits. -/
theorem halves_fit (l : List Int) : In64 (sumI l) ↔ (-2147483648 ≤ hiS l + hi32 (loS l) ∧ hiS l + hi32 (loS l) < 2147483648) := by
  rw [← hilo_sum]
  unfold In64 hi32
  omega
theorem halves_back (l : List Int) : (hiS l + hi32 (loS l)) * 4294967296 + lo32 (loS l) = sumI l := by
  rw [← hilo_sum]
  unfold hi32 lo32
  omega
theorem and_mask (n : Int) : bits .and .i64 n 4294967295 = lo32 n := by
  have hc : (BitVec.ofInt 64 4294967295).toNat = 2 ^ 32 - 1 := by decide
  have key : (BitVec.ofInt 64 n &&& BitVec.ofInt 64 4294967295).toNat = (n % ((2 ^ 64 : Nat) : Int)).toNat % 2 ^ 32 := by
    rw [BitVec.toNat_and, BitVec.toNat_ofInt, hc, Nat.and_two_pow_sub_one_eq_mod]
  show IntKind.i64.wrap ((BitVec.ofInt 64 n &&& BitVec.ofInt 64 4294967295).toNat : Nat) = lo32 n
  rw [key, IntKind.wrap_i64]
  unfold lo32
  omega
theorem or_join (h lo : Int) (h1 : -2147483648 ≤ h) (h2 : h < 2147483648) (l1 : 0 ≤ lo) (l2 : lo < 4294967296) : bits .or .i64 (h * 4294967296) lo = h * 4294967296 + lo := by
  have e1 : ((h * 4294967296) % ((2 ^ 64 : Nat) : Int)).toNat = 2 ^ 32 * (h % 4294967296).toNat := by omega
  have e2 : (lo % ((2 ^ 64 : Nat) : Int)).toNat = lo.toNat := by omega
  have key : (BitVec.ofInt 64 (h * 4294967296) ||| BitVec.ofInt 64 lo).toNat = 2 ^ 32 * (h % 4294967296).toNat + lo.toNat := by
    rw [BitVec.toNat_or, BitVec.toNat_ofInt, BitVec.toNat_ofInt, e1, e2, ← Nat.two_pow_add_eq_or_of_lt (by omega)]
  show IntKind.i64.wrap ((BitVec.ofInt 64 (h * 4294967296) ||| BitVec.ofInt 64 lo).toNat : Nat) = _
  rw [key, IntKind.wrap_i64]
  omega
set_option maxHeartbeats 8000000 in
set_option maxRecDepth 100000 in
theorem rsum_any (v : Value) (l : List GVal) (w : World) (hv : Sl valE w free v l) (h64 : ∀ x ∈ l, In64 x.n) (hl : l.length ≤ 100000) :
    Calls Try.prog 64 #[v] w fun e w' => e = .returned (aggG (sumG l)) ∧ Below w.heap.size w w' := by
  obtain ⟨a, c, rfl⟩ := hv.shape
  have h63 := hv.1
  obtain ⟨n, hn⟩ : ∃ n, n = l.length := ⟨_, rfl⟩
  have HV := Lib.hid hv
  have HN := Lib.hid hn
  have H64 := Lib.hid h64
  rw [← hn] at HV h63 hl ⊢
  have hB0 := below_alloc w (.cells #[.int .i64 0, .int .i64 0, .string ⟨#[]⟩] 41)
  have hr0 : BoxV (w.alloc (.cells #[.int .i64 0, .int .i64 0, .string ⟨#[]⟩] 41)) w.heap.size gnull := World.alloc_heap_new _ _
  obtain ⟨w1, hw1⟩ : ∃ w1, w1 = w.alloc (.cells #[.int .i64 0, .int .i64 0, .string ⟨#[]⟩] 41) := ⟨_, rfl⟩
  obtain ⟨res, hres⟩ : ∃ res, res = sumG l := ⟨_, rfl⟩
  rw [← hres]
  have HRS := Lib.hid hres
  clear hv hn h64 hres
  go_enter Try.func64, Try.ntmps64
  go_wp2_with fail
  rw [← hw1] at hB0 hr0 ⊢
  have HB0 := Lib.hid hB0
  have HR0 := Lib.hid hr0
  clear hB0 hr0 hw1
  go_loopw [10, 3, 4, 5] (fun i x y z wr => ∃ (k : Nat) (h lo : Int) (m : Nat), k ≤ n ∧ i = .int .i64 (k : Int) ∧ x = .int .i64 h ∧ y = .int .i64 lo ∧ z = .int .i64 (m : Int) ∧ m ≤ k ∧ Hid (h = hiS (intsL (l.take k))) ∧ Hid (lo = loS (intsL (l.take k))) ∧ Hid (m = (intsL (l.take k)).length) ∧ Hid (Below w.heap.size w wr) ∧ Hid (BoxV wr w.heap.size gnull)) (fun i _ _ _ _ => n - (intOf i).toNat)
  case atStart => exact ⟨0, 0, 0, 0, Nat.zero_le _, rfl, rfl, rfl, rfl, Nat.le_refl _, Lib.hid rfl, Lib.hid rfl, Lib.hid rfl, HB0, HR0⟩
  case round =>
    obtain ⟨k, h, lo, m, hk, rfl, rfl, rfl, rfl, hm, HH, HLO, HM, HB, HX⟩ := hrel
    obtain ⟨wo, rfl⟩ : ∃ wo : World, wo = wr := ⟨_, rfl⟩
    have hbd := hiS_bound (l := intsL (l.take k)) (fun x hx => by
      unfold intsL at hx
      obtain ⟨y, hy, rfl⟩ := List.mem_map.1 hx
      exact H64.out y (List.mem_of_mem_take (List.mem_filter.1 hy).1))
    rw [← HH.out, ← HLO.out, ← HM.out] at hbd
    obtain ⟨d1, d2, d3, d4⟩ := hbd
    have hmI : (m : Int) ≤ 100000 := by omega
    have g1 : -214748364800000 ≤ h := by omega
    have g2 : h ≤ 214748364800000 := by omega
    have g4 : lo ≤ 429496729600000 := by omega
    clear d1 d2 d4
    by_cases hlt : k < n
    · obtain ⟨x, hx⟩ := lget_some l k (by rw [← HN.out]; exact hlt)
      obtain ⟨b0, o0, rfl, p0, p1, p2⟩ := gv_at3 (HV.out.below HB.out) hx
      have HS := Lib.hid (intsL_snoc hx)
      have hx64 := H64.out x (List.mem_of_getElem? hx)
      unfold In64 at hx64
      obtain ⟨hx1, hx2⟩ := hx64
      have HBA := Lib.hid (below_alloc_keep (o := .cells #[.int .i64 x.kind, .int .i64 x.n, .string x.s] 41) HB.out)
      have HXA := Lib.hid (HX.out.below (below_alloc wo (.cells #[.int .i64 x.kind, .int .i64 x.n, .string x.s] 41)))
      by_cases hkd : x.kind = 1
      · have HT1 : Hid (intsL (l.take (k + 1)) = intsL (l.take k) ++ [x.n]) := Lib.hid (by rw [HS.out, if_pos hkd])
        obtain ⟨xk, xn, xs⟩ := x
        dsimp only at *
        subst hkd
        have hmk := and_mask xn
        have hl1 : 0 ≤ lo32 xn := by unfold lo32; omega
        have hl2 : lo32 xn ≤ 4294967296 := by unfold lo32; omega
        have HH2 : Hid (h + xn / 4294967296 = hiS (intsL (l.take (k + 1)))) := Lib.hid (by rw [HT1.out, hiS_append, ← HH.out]; simp [hiS, hi32])
        have HL2 : Hid (lo + lo32 xn = loS (intsL (l.take (k + 1)))) := Lib.hid (by rw [HT1.out, loS_append, ← HLO.out]; simp [loS])
        have HM2 : Hid (m + 1 = (intsL (l.take (k + 1))).length) := Lib.hid (by rw [HT1.out, List.length_append, ← HM.out]; rfl)
        generalize lo32 xn = lx at *
        clear HS hx HX HB HB0 HR0
        go_wp2_with fail
        refine ⟨⟨k + 1, _, _, m + 1, by omega, by go_num, rfl, rfl, by go_num, by omega, HH2, HL2, HM2, HBA, HXA⟩, ?_⟩
        simp [intOf]; omega
      · have hkd2 : (x.kind == 1) = false := by simpa using hkd
        have HT1 : Hid (intsL (l.take (k + 1)) = intsL (l.take k)) := Lib.hid (by rw [HS.out, if_neg hkd, List.append_nil])
        clear HS hx HX HB HB0 HR0 hkd
        go_wp2_with fail
        refine ⟨⟨k + 1, _, _, m, by omega, by go_num, rfl, rfl, rfl, by omega, by rw [HT1.out]; exact HH, by rw [HT1.out]; exact HLO, by rw [HT1.out]; exact HM, HBA, HXA⟩, ?_⟩
        simp [intOf]; omega
    · have hkn : l.take k = l := List.take_of_length_le (by rw [← HN.out]; omega)
      have hh := HH.out
      have hlo := HLO.out
      have hm2 := HM.out
      have hfit := halves_fit (intsL l)
      have hbk := halves_back (intsL l)
      have hn1 := @sumG_none l
      have hn2 := @sumG_far l
      have hn3 := @sumG_fits l
      rw [hkn] at hh hlo hm2
      rw [← HRS.out] at hn1 hn2 hn3
      rw [← hh, ← hlo] at hfit hbk
      have hmk := and_mask lo
      have hl1 : 0 ≤ lo32 lo := by unfold lo32; omega
      have hl2 : lo32 lo < 4294967296 := by unfold lo32; omega
      have hdv : lo / 4294967296 = hi32 lo := rfl
      have hq1 : 0 ≤ hi32 lo := by unfold hi32; omega
      have hq2 : hi32 lo ≤ 100000 := by unfold hi32; omega
      have hor := or_join (h + hi32 lo) (lo32 lo)
      obtain ⟨⟨r0, r1, r2⟩, f0, f1, f2⟩ := HX.out.cells
      have hzz : w.heap.size < wo.heap.size := HX.out.lt
      have HRES : Hid ((m = 0 → res = gnull) ∧ ((h + hi32 lo < -2147483648 ∨ 2147483648 ≤ h + hi32 lo) → res = gnull) ∧ (m ≠ 0 → -2147483648 ≤ h + hi32 lo → h + hi32 lo < 2147483648 → res = gint ((h + hi32 lo) * 4294967296 + lo32 lo))) := Lib.hid ⟨fun e => hn1 (List.length_eq_zero_iff.1 (hm2.symm.trans e)), fun e => hn2 (by
        cases hB : In64B (sumI (intsL l))
        · rfl
        · have := hfit.1 (In64B_iff.1 hB); omega), fun e1 e2 e3 => by
        rw [hbk]
        exact hn3 (fun e => e1 (by rw [hm2, e]; rfl)) (In64B_iff.2 (hfit.2 ⟨e2, e3⟩))⟩
      have HOR := Lib.hid hor
      generalize hi32 lo = q at *
      generalize lo32 lo = r at *
      clear hkn hh hlo hm2 hfit hbk hn1 hn2 hn3 HX HH HLO HM hor HB0 HR0
      by_cases hm0 : m = 0
      · subst hm0
        have HR : Hid (res = gnull) := Lib.hid (HRES.out.1 rfl)
        go_wp2_with fail
        refine bodyPost_ret (v := aggG gnull) (by simp [aggG, gnull, results, Try.results64, go_sem, r0, r1, r2]) rfl ⟨by rw [HR.out], ?_⟩
        exact below_box3 HB.out (Nat.le_refl _)
      · by_cases hf1 : h + q < -2147483648
        · have HR : Hid (res = gnull) := Lib.hid (HRES.out.2.1 (.inl hf1))
          go_wp2_with fail
          refine bodyPost_ret (v := aggG gnull) (by simp [aggG, gnull, results, Try.results64, go_sem, r0, r1, r2]) rfl ⟨by rw [HR.out], ?_⟩
          exact below_box3 HB.out (Nat.le_refl _)
        · by_cases hf2 : 2147483648 ≤ h + q
          · have HR : Hid (res = gnull) := Lib.hid (HRES.out.2.1 (.inr hf2))
            go_wp2_with fail
            refine bodyPost_ret (v := aggG gnull) (by simp [aggG, gnull, results, Try.results64, go_sem, r0, r1, r2]) rfl ⟨by rw [HR.out], ?_⟩
            exact below_box3 HB.out (Nat.le_refl _)
          · have hf3 : -2147483648 ≤ h + q := by omega
            have hf4 : h + q < 2147483648 := by omega
            have HR : Hid (res = gint ((h + q) * 4294967296 + r)) := Lib.hid (HRES.out.2.2 hm0 hf3 hf4)
            have hor2 := HOR.out hf3 hf4 hl1 hl2
            generalize (h + q) * 4294967296 + r = S at HR hor2
            go_wp2_with fail
            refine bodyPost_ret (v := aggG (gint S)) (by simp [aggG, gint, results, Try.results64, go_sem, r0, r1, r2]) rfl ⟨by rw [HR.out], ?_⟩
            exact below_box3 HB.out (Nat.le_refl _)
end Go.Proofs.Ytfmbbfidjcgeiaa

namespace Go.Proofs.Ytfmbbfidjcgeiaa
open Go.RowKit Go.Lib

/-- The best value so far, found one by one, Null first. -/
def best1 (sg : Int) (b v : GVal) : GVal := if v.kind ≠ 0 ∧ (b.kind = 0 ∨ cmpG v b = sg) then v else b
def bestL (sg : Int) : GVal → List GVal → GVal
  | b, [] => b
  | b, v :: l => bestL sg (best1 sg b v) l
theorem bestL_set {sg : Int} : ∀ (l : List GVal) (b : GVal), b.kind ≠ 0 → bestL sg b l = bestG sg b (nonNull l)
  | [], _, _ => rfl
  | v :: l, b, hb => by
    rw [bestL]
    by_cases hv : v.kind = 0
    · rw [show best1 sg b v = b by unfold best1; rw [if_neg (fun h => h.1 hv)], bestL_set l b hb, show nonNull (v :: l) = nonNull l by unfold nonNull; rw [List.filter_cons_of_neg (by simp [hv])]]
    · rw [show nonNull (v :: l) = v :: nonNull l by unfold nonNull; rw [List.filter_cons_of_pos (by simp [hv])], bestG]
      by_cases hc : cmpG v b = sg
      · rw [show best1 sg b v = v by unfold best1; rw [if_pos ⟨hv, .inr hc⟩], if_pos hc]
        exact bestL_set l v hv
      · rw [show best1 sg b v = b by unfold best1; rw [if_neg (fun h => h.2.elim hb hc)], if_neg hc]
        exact bestL_set l b hb
theorem bestL_start {sg : Int} : ∀ (l : List GVal), bestL sg gnull l = extG sg (nonNull l)
  | [] => rfl
  | v :: l => by
    rw [bestL]
    by_cases hv : v.kind = 0
    · rw [show best1 sg gnull v = gnull by unfold best1; rw [if_neg (fun h => h.1 hv)], bestL_start l, show nonNull (v :: l) = nonNull l by unfold nonNull; rw [List.filter_cons_of_neg (by simp [hv])]]
    · rw [show nonNull (v :: l) = v :: nonNull l by unfold nonNull; rw [List.filter_cons_of_pos (by simp [hv])], show best1 sg gnull v = v by unfold best1; rw [if_pos ⟨hv, .inl rfl⟩], bestL_set l v hv]
      rfl
theorem bestL_snoc {sg : Int} : ∀ (l : List GVal) (b v : GVal), bestL sg b (l ++ [v]) = best1 sg (bestL sg b l) v
  | [], _, _ => rfl
  | x :: l, b, v => by rw [List.cons_append, bestL, bestL_snoc l]; rfl
set_option maxHeartbeats 8000000 in
set_option maxRecDepth 100000 in
theorem raggr_any (v : Value) (kind : Int) (l : List GVal) (w : World) (hv : Sl valE w free v l) (h64 : ∀ x ∈ l, In64 x.n) (hl : l.length ≤ 100000) :
    Calls Try.prog 43 #[.int .i64 kind, v] w fun e w' => e = .returned (aggG (aggP kind l)) ∧ Below w.heap.size w w' := by
  obtain ⟨a, c, rfl⟩ := hv.shape
  have h63 := hv.1
  have HSM := fun W (hb : Below w.heap.size w W) => Lib.hid (rsum_any _ l W (hv.below hb) h64 hl)
  obtain ⟨n, hn⟩ : ∃ n, n = l.length := ⟨_, rfl⟩
  have HV := Lib.hid hv
  have HN := Lib.hid hn
  have HAP : Hid (aggP kind l = if kind = 1 then gint (n : Int) else if kind = 2 then sumG l else if kind = 3 then bestL (-1) gnull l else if kind = 4 then bestL 1 gnull l else gnull) := Lib.hid (by rw [bestL_start, bestL_start, hn]; rfl)
  obtain ⟨res, hres⟩ : ∃ res, res = aggP kind l := ⟨_, rfl⟩
  rw [← hres] at HAP ⊢
  rw [← hn] at HV HSM h63 hl ⊢
  have hB0 := below_alloc w (.cells #[.int .i64 0, .int .i64 0, .string ⟨#[]⟩] 41)
  have hr0 : BoxV (w.alloc (.cells #[.int .i64 0, .int .i64 0, .string ⟨#[]⟩] 41)) w.heap.size gnull := World.alloc_heap_new _ _
  clear hv hn h64 hres
  by_cases k1 : kind = 1
  · subst k1
    have HR : Hid (res = gint (n : Int)) := Lib.hid (by rw [HAP.out, if_pos rfl])
    clear HAP HSM hr0
    go_enter Try.func43, Try.ntmps43
    go_wp2_with fail
    exact bodyPost_ret (v := aggG (gint (n : Int))) (by simp [aggG, gint, results, Try.results43, go_sem]) rfl ⟨by rw [HR.out], below_alloc _ _⟩
  · by_cases k2 : kind = 2
    · subst k2
      have HR : Hid (res = sumG l) := Lib.hid (by rw [HAP.out, if_neg (by decide), if_pos rfl])
      have HS := HSM _ hB0
      generalize sumG l = sv at HR HS
      obtain ⟨sk, sn, ss⟩ := sv
      unfold aggG at HS
      dsimp only at HS
      have HBX := Lib.hid hr0
      have HB0 := Lib.hid hB0
      clear HAP HSM hB0 hr0 k1
      go_enter Try.func43, Try.ntmps43
      go_wp2_with fail
      refine HS.out.mono ?_
      rintro _ w2 ⟨rfl, hb2⟩
      obtain ⟨⟨r0, r1, r2⟩, f0, f1, f2⟩ := (HBX.out.below hb2).cells
      have HBF := Lib.hid (below_keep HB0.out hb2)
      have hzw := (HBX.out.below hb2).lt
      clear hb2 HBX HB0 HS
      go_wp2_with fail
      refine bodyPost_ret (v := aggG ⟨sk, sn, ss⟩) (by simp [aggG, results, Try.results43, go_sem, r0, r1, r2]) rfl ⟨by rw [HR.out], ?_⟩
      exact below_box3 HBF.out (Nat.le_refl _)
    · have hk1 : (kind == 1) = false := by simpa using k1
      have hk2 : (kind == 2) = false := by simpa using k2
      have HAP2 : Hid (res = if kind = 3 then bestL (-1) gnull l else if kind = 4 then bestL 1 gnull l else gnull) := Lib.hid (by rw [HAP.out, if_neg k1, if_neg k2])
      clear HAP k1 k2 HSM
      by_cases k34 : kind = 3 ∨ kind = 4
      · obtain ⟨sg, hsg⟩ : ∃ sg : Int, sg = if kind = 3 then -1 else 1 := ⟨_, rfl⟩
        have HR : Hid (res = bestL sg gnull l) := Lib.hid (by
          rw [HAP2.out, hsg]
          rcases k34 with rfl | rfl
          · rfl
          · rfl)
        clear HAP2
        have hsg2 : (kind = 3 ∧ sg = -1) ∨ (kind = 4 ∧ sg = 1) := by
          rcases k34 with rfl | rfl
          · exact .inl ⟨rfl, hsg⟩
          · exact .inr ⟨rfl, hsg⟩
        clear hsg k34
        obtain ⟨w1, hw1⟩ : ∃ w1, w1 = (w.alloc (.cells #[.int .i64 0, .int .i64 0, .string ⟨#[]⟩] 41)).alloc (.cells #[.int .i64 0, .int .i64 0, .string ⟨#[]⟩] 41) := ⟨_, rfl⟩
        have hb1 : Below w.heap.size w w1 := by rw [hw1]; exact below_alloc_two _ _ _
        have hr1 : BoxV w1 w.heap.size gnull := by rw [hw1]; exact heap_alloc_old' _ _ _
        have hm1 : BoxV w1 (w.heap.size + 1) gnull := by rw [hw1]; exact heap_alloc_new' _ _ _
        have HB1 := Lib.hid hb1
        have HR1 := Lib.hid hr1
        have HM1 := Lib.hid hm1
        have HW1 := Lib.hid hw1
        clear hb1 hr1 hm1 hw1 hB0 hr0
        rcases hsg2 with ⟨rfl, rfl⟩ | ⟨rfl, rfl⟩
        all_goals (
          go_enter Try.func43, Try.ntmps43
          go_wp2_with fail
          rw [← HW1.out])
        · go_loopw [24] (fun i wr => ∃ (k : Nat) (b : GVal), k ≤ n ∧ i = .int .i64 (k : Int) ∧ Hid (b = bestL (-1) gnull (l.take k)) ∧ Hid (Below w.heap.size w wr) ∧ Hid (BoxV wr w.heap.size gnull) ∧ Hid (BoxV wr (w.heap.size + 1) b)) (fun i _ => n - (intOf i).toNat)
          case atStart => exact ⟨0, gnull, Nat.zero_le _, rfl, Lib.hid rfl, HB1, HR1, HM1⟩
          case round =>
            obtain ⟨k, b, hk, rfl, HR0, HB, HX, HM⟩ := hrel
            obtain ⟨wo, rfl⟩ : ∃ wo : World, wo = wr := ⟨_, rfl⟩
            by_cases hlt : k < n
            · obtain ⟨x, hx⟩ := lget_some l k (by rw [← HN.out]; exact hlt)
              obtain ⟨b0, o0, rfl, p0, p1, p2⟩ := gv_at3 (HV.out.below HB.out) hx
              have HS : Hid (bestL (-1) gnull (l.take (k + 1)) = best1 (-1) b x) := Lib.hid (by rw [take_get hx, bestL_snoc, ← HR0.out])
              have hth := cmpG_three x b
              have HC := fun W => Lib.hid (cmpG_any x b W)
              have hg : BoxV (wo.alloc (.cells #[.int .i64 x.kind, .int .i64 x.n, .string x.s] 41)) wo.heap.size x := World.alloc_heap_new _ _
              have hb := below_alloc wo (.cells #[.int .i64 x.kind, .int .i64 x.n, .string x.s] 41)
              obtain ⟨⟨q0, q1, q2⟩, _⟩ := (HM.out.below hb).cells
              have HBA := Lib.hid (below_keep HB.out hb)
              have HXA := Lib.hid (HX.out.below hb)
              have HMA := Lib.hid (HM.out.below hb)
              have HGA := Lib.hid hg
              obtain ⟨xk, xn, xs⟩ := x
              obtain ⟨bk, bn, bs⟩ := b
              dsimp only at *
              have hcv : ∀ {r}, r = cmpG ⟨xk, xn, xs⟩ ⟨bk, bn, bs⟩ → Hid (r = cmpG ⟨xk, xn, xs⟩ ⟨bk, bn, bs⟩) := fun h => Lib.hid h
              obtain ⟨r, hr⟩ : ∃ r, r = cmpG ⟨xk, xn, xs⟩ ⟨bk, bn, bs⟩ := ⟨_, rfl⟩
              have HRR := hcv hr
              rw [← hr] at HC hth
              clear hr hcv hx hg hb HR0 HB HX HM HM1 HR1 HB1
              go_wp2_with fail
              refine (HC _).out.mono ?_
              rintro _ w2 ⟨rfl, hb2⟩
              have HB2 := Lib.hid (below_keep HBA.out hb2)
              have HX2 := Lib.hid (HXA.out.below hb2)
              have HM2 := Lib.hid (HMA.out.below hb2)
              obtain ⟨⟨g0, g1, g2⟩, _⟩ := (HGA.out.below hb2).cells
              obtain ⟨⟨m0, m1, m2⟩, f0, f1, f2⟩ := HM2.out.cells
              have hbw : w.heap.size + 1 < w2.heap.size := HM2.out.lt
              have hgw := (HGA.out.below hb2).lt
              clear hb2 HBA HXA HMA HGA HC q0 q1 q2 p0 p1 p2
              by_cases hx0 : xk = 0
              · have hx1 : (xk != 0) = false := by simpa using hx0
                have HS' : Hid (⟨bk, bn, bs⟩ = bestL (-1) gnull (l.take (k + 1))) := Lib.hid (by rw [HS.out]; unfold best1; rw [if_neg (by rintro ⟨h, _⟩; exact h hx0)])
                clear HS
                clear hx0
                go_wp2_with fail
                go_roundw
                case rel => exact ⟨k + 1, ⟨bk, bn, bs⟩, by omega, by go_num, HS', HB2, HX2, HM2⟩
                case measure => simp [intOf]; omega
              · have hx1 : (xk != 0) = true := by simpa using hx0
                by_cases hb0 : bk = 0
                · have hb1 : (bk == 0) = true := by simpa using hb0
                  have HS' : Hid (⟨xk, xn, xs⟩ = bestL (-1) gnull (l.take (k + 1))) := Lib.hid (by rw [HS.out]; unfold best1; rw [if_pos (by exact ⟨hx0, .inl hb0⟩)])
                  have HMN := Lib.hid (HM2.out.set ⟨xk, xn, xs⟩)
                  have HXN := Lib.hid (heap_set3 HX2.out (show w.heap.size ≠ w.heap.size + 1 by omega) (.int .i64 xk) (.int .i64 xn) (.string xs))
                  have HBN := Lib.hid (below_box3 (q := w.heap.size + 1) (u1 := .int .i64 xk) (u2 := .int .i64 xn) (u3 := .string xs) HB2.out (Nat.le_succ _))
                  clear HS
                  clear hx0 hb0
                  go_wp2_with fail
                  go_roundw
                  case rel => exact ⟨k + 1, ⟨xk, xn, xs⟩, by omega, by go_num, HS', HBN, HXN, HMN⟩
                  case measure => simp [intOf]; omega
                · have hb1 : (bk == 0) = false := by simpa using hb0
                  by_cases hrr : r < 0
                  · have hre : r = -1 := by omega
                    have HS' : Hid (⟨xk, xn, xs⟩ = bestL (-1) gnull (l.take (k + 1))) := Lib.hid (by rw [HS.out]; unfold best1; rw [if_pos (by exact ⟨hx0, .inr (by rw [← HRR.out]; exact hre)⟩)])
                    have HMN := Lib.hid (HM2.out.set ⟨xk, xn, xs⟩)
                    have HXN := Lib.hid (heap_set3 HX2.out (show w.heap.size ≠ w.heap.size + 1 by omega) (.int .i64 xk) (.int .i64 xn) (.string xs))
                    have HBN := Lib.hid (below_box3 (q := w.heap.size + 1) (u1 := .int .i64 xk) (u2 := .int .i64 xn) (u3 := .string xs) HB2.out (Nat.le_succ _))
                    clear HS
                    clear hx0 hb0 hre hth
                    go_wp2_with fail
                    go_roundw
                    case rel => exact ⟨k + 1, ⟨xk, xn, xs⟩, by omega, by go_num, HS', HBN, HXN, HMN⟩
                    case measure => simp [intOf]; omega
                  · have hre : r ≠ -1 := by omega
                    have HS' : Hid (⟨bk, bn, bs⟩ = bestL (-1) gnull (l.take (k + 1))) := Lib.hid (by rw [HS.out]; unfold best1; rw [if_neg (by rintro ⟨_, h | h⟩; exact hb0 h; exact hre (by rw [HRR.out]; exact h))])
                    clear HS
                    clear hx0 hb0 hre hth
                    go_wp2_with fail
                    go_roundw
                    case rel => exact ⟨k + 1, ⟨bk, bn, bs⟩, by omega, by go_num, HS', HB2, HX2, HM2⟩
                    case measure => simp [intOf]; omega
            · have HRB : Hid (res = b) := Lib.hid (by rw [HR.out, HR0.out, List.take_of_length_le (by rw [← HN.out]; omega)])
              obtain ⟨⟨m0, m1, m2⟩, _⟩ := HM.out.cells
              obtain ⟨⟨r0, r1, r2⟩, f0, f1, f2⟩ := HX.out.cells
              have hzz : w.heap.size < wo.heap.size := HX.out.lt
              clear HR HR0 HX HM HM1 HR1 HB1
              go_wp2_with fail
              refine bodyPost_ret (v := aggG b) (by simp [aggG, gnull, results, Try.results43, go_sem, r0, r1, r2]) rfl ⟨by rw [HRB.out], ?_⟩
              exact below_box3 HB.out (Nat.le_refl _)
        · go_loopw [24] (fun i wr => ∃ (k : Nat) (b : GVal), k ≤ n ∧ i = .int .i64 (k : Int) ∧ Hid (b = bestL (1) gnull (l.take k)) ∧ Hid (Below w.heap.size w wr) ∧ Hid (BoxV wr w.heap.size gnull) ∧ Hid (BoxV wr (w.heap.size + 1) b)) (fun i _ => n - (intOf i).toNat)
          case atStart => exact ⟨0, gnull, Nat.zero_le _, rfl, Lib.hid rfl, HB1, HR1, HM1⟩
          case round =>
            obtain ⟨k, b, hk, rfl, HR0, HB, HX, HM⟩ := hrel
            obtain ⟨wo, rfl⟩ : ∃ wo : World, wo = wr := ⟨_, rfl⟩
            by_cases hlt : k < n
            · obtain ⟨x, hx⟩ := lget_some l k (by rw [← HN.out]; exact hlt)
              obtain ⟨b0, o0, rfl, p0, p1, p2⟩ := gv_at3 (HV.out.below HB.out) hx
              have HS : Hid (bestL (1) gnull (l.take (k + 1)) = best1 (1) b x) := Lib.hid (by rw [take_get hx, bestL_snoc, ← HR0.out])
              have hth := cmpG_three x b
              have HC := fun W => Lib.hid (cmpG_any x b W)
              have hg : BoxV (wo.alloc (.cells #[.int .i64 x.kind, .int .i64 x.n, .string x.s] 41)) wo.heap.size x := World.alloc_heap_new _ _
              have hb := below_alloc wo (.cells #[.int .i64 x.kind, .int .i64 x.n, .string x.s] 41)
              obtain ⟨⟨q0, q1, q2⟩, _⟩ := (HM.out.below hb).cells
              have HBA := Lib.hid (below_keep HB.out hb)
              have HXA := Lib.hid (HX.out.below hb)
              have HMA := Lib.hid (HM.out.below hb)
              have HGA := Lib.hid hg
              obtain ⟨xk, xn, xs⟩ := x
              obtain ⟨bk, bn, bs⟩ := b
              dsimp only at *
              have hcv : ∀ {r}, r = cmpG ⟨xk, xn, xs⟩ ⟨bk, bn, bs⟩ → Hid (r = cmpG ⟨xk, xn, xs⟩ ⟨bk, bn, bs⟩) := fun h => Lib.hid h
              obtain ⟨r, hr⟩ : ∃ r, r = cmpG ⟨xk, xn, xs⟩ ⟨bk, bn, bs⟩ := ⟨_, rfl⟩
              have HRR := hcv hr
              rw [← hr] at HC hth
              clear hr hcv hx hg hb HR0 HB HX HM HM1 HR1 HB1
              go_wp2_with fail
              refine (HC _).out.mono ?_
              rintro _ w2 ⟨rfl, hb2⟩
              have HB2 := Lib.hid (below_keep HBA.out hb2)
              have HX2 := Lib.hid (HXA.out.below hb2)
              have HM2 := Lib.hid (HMA.out.below hb2)
              obtain ⟨⟨g0, g1, g2⟩, _⟩ := (HGA.out.below hb2).cells
              obtain ⟨⟨m0, m1, m2⟩, f0, f1, f2⟩ := HM2.out.cells
              have hbw : w.heap.size + 1 < w2.heap.size := HM2.out.lt
              have hgw := (HGA.out.below hb2).lt
              clear hb2 HBA HXA HMA HGA HC q0 q1 q2 p0 p1 p2
              by_cases hx0 : xk = 0
              · have hx1 : (xk != 0) = false := by simpa using hx0
                have HS' : Hid (⟨bk, bn, bs⟩ = bestL (1) gnull (l.take (k + 1))) := Lib.hid (by rw [HS.out]; unfold best1; rw [if_neg (by rintro ⟨h, _⟩; exact h hx0)])
                clear HS
                clear hx0
                go_wp2_with fail
                go_roundw
                case rel => exact ⟨k + 1, ⟨bk, bn, bs⟩, by omega, by go_num, HS', HB2, HX2, HM2⟩
                case measure => simp [intOf]; omega
              · have hx1 : (xk != 0) = true := by simpa using hx0
                by_cases hb0 : bk = 0
                · have hb1 : (bk == 0) = true := by simpa using hb0
                  have HS' : Hid (⟨xk, xn, xs⟩ = bestL (1) gnull (l.take (k + 1))) := Lib.hid (by rw [HS.out]; unfold best1; rw [if_pos (by exact ⟨hx0, .inl hb0⟩)])
                  have HMN := Lib.hid (HM2.out.set ⟨xk, xn, xs⟩)
                  have HXN := Lib.hid (heap_set3 HX2.out (show w.heap.size ≠ w.heap.size + 1 by omega) (.int .i64 xk) (.int .i64 xn) (.string xs))
                  have HBN := Lib.hid (below_box3 (q := w.heap.size + 1) (u1 := .int .i64 xk) (u2 := .int .i64 xn) (u3 := .string xs) HB2.out (Nat.le_succ _))
                  clear HS
                  clear hx0 hb0
                  go_wp2_with fail
                  go_roundw
                  case rel => exact ⟨k + 1, ⟨xk, xn, xs⟩, by omega, by go_num, HS', HBN, HXN, HMN⟩
                  case measure => simp [intOf]; omega
                · have hb1 : (bk == 0) = false := by simpa using hb0
                  by_cases hrr : r > 0
                  · have hre : r = 1 := by omega
                    have HS' : Hid (⟨xk, xn, xs⟩ = bestL (1) gnull (l.take (k + 1))) := Lib.hid (by rw [HS.out]; unfold best1; rw [if_pos (by exact ⟨hx0, .inr (by rw [← HRR.out]; exact hre)⟩)])
                    have HMN := Lib.hid (HM2.out.set ⟨xk, xn, xs⟩)
                    have HXN := Lib.hid (heap_set3 HX2.out (show w.heap.size ≠ w.heap.size + 1 by omega) (.int .i64 xk) (.int .i64 xn) (.string xs))
                    have HBN := Lib.hid (below_box3 (q := w.heap.size + 1) (u1 := .int .i64 xk) (u2 := .int .i64 xn) (u3 := .string xs) HB2.out (Nat.le_succ _))
                    clear HS
                    clear hx0 hb0 hre hth
                    go_wp2_with fail
                    go_roundw
                    case rel => exact ⟨k + 1, ⟨xk, xn, xs⟩, by omega, by go_num, HS', HBN, HXN, HMN⟩
                    case measure => simp [intOf]; omega
                  · have hre : r ≠ 1 := by omega
                    have HS' : Hid (⟨bk, bn, bs⟩ = bestL (1) gnull (l.take (k + 1))) := Lib.hid (by rw [HS.out]; unfold best1; rw [if_neg (by rintro ⟨_, h | h⟩; exact hb0 h; exact hre (by rw [HRR.out]; exact h))])
                    clear HS
                    clear hx0 hb0 hre hth
                    go_wp2_with fail
                    go_roundw
                    case rel => exact ⟨k + 1, ⟨bk, bn, bs⟩, by omega, by go_num, HS', HB2, HX2, HM2⟩
                    case measure => simp [intOf]; omega
            · have HRB : Hid (res = b) := Lib.hid (by rw [HR.out, HR0.out, List.take_of_length_le (by rw [← HN.out]; omega)])
              obtain ⟨⟨m0, m1, m2⟩, _⟩ := HM.out.cells
              obtain ⟨⟨r0, r1, r2⟩, f0, f1, f2⟩ := HX.out.cells
              have hzz : w.heap.size < wo.heap.size := HX.out.lt
              clear HR HR0 HX HM HM1 HR1 HB1
              go_wp2_with fail
              refine bodyPost_ret (v := aggG b) (by simp [aggG, gnull, results, Try.results43, go_sem, r0, r1, r2]) rfl ⟨by rw [HRB.out], ?_⟩
              exact below_box3 HB.out (Nat.le_refl _)
      · have hk3 : (kind == 3) = false := by simpa using fun h => k34 (.inl h)
        have hk4 : (kind == 4) = false := by simpa using fun h => k34 (.inr h)
        have HR : Hid (res = gnull) := Lib.hid (by rw [HAP2.out, if_neg (fun h => k34 (.inl h)), if_neg (fun h => k34 (.inr h))])
        clear HAP2 k34 hr0 hB0
        go_enter Try.func43, Try.ntmps43
        go_wp2_with fail
        exact bodyPost_ret (v := aggG gnull) (by simp [aggG, gnull, results, Try.results43, go_sem]) rfl ⟨by rw [HR.out], below_alloc _ _⟩
end Go.Proofs.Ytfmbbfidjcgeiaa

namespace Go.Proofs.Ytfmbbfidjcgeiaa
open Go.RowKit Go.Lib

set_option maxHeartbeats 8000000 in
set_option maxRecDepth 100000 in
theorem within_any (v : Value) (l : List Int) (ed : Int) (w : World) (hv : Sl intE w free v l) (hl : l.length ≤ 100000) :
    Calls Try.prog 38 #[v, .int .i64 ed] w (RetOwn intE w (withinL l ed)) := by
  obtain ⟨a, c, rfl⟩ := hv.shape
  have h63 := hv.1
  obtain ⟨n, hn⟩ : ∃ n, n = l.length := ⟨_, rfl⟩
  have HV := Lib.hid hv
  have HN := Lib.hid hn
  rw [← hn] at HV h63 hl ⊢
  clear hv hn
  have HO0 : Hid (Own intE (w.alloc (.cells #[.int .i64 0] 3)) w.heap.size (.slice (some ⟨w.heap.size, 0, none⟩) 1 1) [0]) := Lib.hid (own_lit (E := intE) (Els.one rfl) rfl (by decide))
  have HB0 := Lib.hid (below_alloc w (.cells #[.int .i64 0] 3))
  go_enter Try.func38, Try.ntmps38
  go_wp2_with fail
  go_loopw [11, 5] (fun i o wr => ∃ k : Nat, k ≤ n ∧ i = .int .i64 (k : Int) ∧ Own intE wr w.heap.size o (0 :: (l.take k).filter fun p => decide (0 < p) && decide (p < ed)) ∧ Hid (Below w.heap.size w wr)) (fun i _ _ => n - (intOf i).toNat)
  case atStart => exact ⟨0, Nat.zero_le _, rfl, HO0.out, HB0⟩
  case round =>
    obtain ⟨k, hk, rfl, hO, HB⟩ := hrel
    obtain ⟨wo, rfl⟩ : ∃ wo : World, wo = wr := ⟨_, rfl⟩
    have HLN : Hid (((l.take k).filter fun p => decide (0 < p) && decide (p < ed)).length ≤ n) := Lib.hid (Nat.le_trans (List.length_filter_le _ _) (by rw [List.length_take, ← HN.out]; omega))
    by_cases hlt : k < n
    · obtain ⟨x, hx⟩ := lget_some l k (by rw [← HN.out]; exact hlt)
      obtain ⟨b, o, rfl, cx⟩ := ints_at' (HV.out.below HB.out) hx
      have HT : Hid ((0 :: (l.take (k + 1)).filter fun p => decide (0 < p) && decide (p < ed)) = (0 :: (l.take k).filter fun p => decide (0 < p) && decide (p < ed)) ++ if 0 < x ∧ x < ed then [x] else []) := Lib.hid (by
        rw [take_get hx, List.filter_append, List.cons_append]
        by_cases e : 0 < x ∧ x < ed
        · rw [if_pos e]; simp [e.1, e.2]
        · rw [if_neg e]
          have : ([x].filter fun p => decide (0 < p) && decide (p < ed)) = [] := by
            rw [List.filter_cons_of_neg (by simp; omega)]; rfl
          rw [this])
      obtain ⟨lk, hlk⟩ : ∃ lk, lk = 0 :: (l.take k).filter fun p => decide (0 < p) && decide (p < ed) := ⟨_, rfl⟩
      rw [← hlk] at hO HT
      have hll : lk.length ≤ 100001 := by rw [hlk, List.length_cons]; have := HLN.out; omega
      obtain ⟨ao, co, rfl⟩ := hO.shape
      have HO := Lib.hid hO
      clear hx hO hlk HLN
      by_cases h0 : 0 < x
      · by_cases h1 : x < ed
        · have HT' : Hid ((0 :: (l.take (k + 1)).filter fun p => decide (0 < p) && decide (p < ed)) = lk ++ [x]) := Lib.hid (by rw [HT.out, if_pos ⟨h0, h1⟩])
          go_wp2_with (at_builtin; refine wpList_push rfl (.tmp 22) (.tmp 24) 49 rfl intE Try.underlying49 w.heap.size (.slice ao lk.length co) lk rfl HO.out [x] #[.int .i64 x] (Els.one rfl) 1 1 rfl rfl (by decide) (by unfold maxLen; omega) (by show _ * 8 ≤ _; omega) HB.out.size ?_; intro g cap w5 hP hPa)
          go_roundw
          case rel => exact ⟨k + 1, by omega, by go_num, by rw [HT'.out]; exact hP.own' (by simp), Lib.hid (HB.out.trans hP.below)⟩
          case measure => simp [intOf]; omega
        · have HT' : Hid ((0 :: (l.take (k + 1)).filter fun p => decide (0 < p) && decide (p < ed)) = lk) := Lib.hid (by rw [HT.out, if_neg (fun h => h1 h.2), List.append_nil])
          go_wp2_with fail
          go_roundw
          case rel => exact ⟨k + 1, by omega, by go_num, by rw [HT'.out]; exact HO.out, HB⟩
          case measure => simp [intOf]; omega
      · have HT' : Hid ((0 :: (l.take (k + 1)).filter fun p => decide (0 < p) && decide (p < ed)) = lk) := Lib.hid (by rw [HT.out, if_neg (fun h => h0 h.1), List.append_nil])
        go_wp2_with fail
        go_roundw
        case rel => exact ⟨k + 1, by omega, by go_num, by rw [HT'.out]; exact HO.out, HB⟩
        case measure => simp [intOf]; omega
    · have hkk : l.take k = l := List.take_of_length_le (by rw [← HN.out]; omega)
      have hll := HLN.out
      rw [hkk] at hO hll
      obtain ⟨lk, hlk⟩ : ∃ lk, lk = 0 :: l.filter fun p => decide (0 < p) && decide (p < ed) := ⟨_, rfl⟩
      have HRS : Hid (withinL l ed = lk ++ [ed]) := Lib.hid (by rw [hlk]; rfl)
      rw [← hlk] at hO
      have hlk2 : lk.length ≤ 100001 := by rw [hlk, List.length_cons]; omega
      obtain ⟨ao, co, rfl⟩ := hO.shape
      have HO := Lib.hid hO
      clear hO hlk hll hkk HLN
      go_wp2_with (at_builtin; refine wpList_push rfl (.tmp 27) (.tmp 29) 49 rfl intE Try.underlying49 w.heap.size (.slice ao lk.length co) lk rfl HO.out [ed] #[.int .i64 ed] (Els.one rfl) 1 1 rfl rfl (by decide) (by unfold maxLen; omega) (by show _ * 8 ≤ _; omega) HB.out.size ?_; intro g cap w5 hP hPa)
      go_ret
      exact ⟨_, rfl, by rw [HRS.out]; exact hP.own' (by simp), HB.out.trans hP.below⟩
theorem below_keepB {B : Nat} {w W W' : World} (hB : B ≤ w.heap.size) (h : Below B w W) (hb : Below W.heap.size W W') : Below B w W' := h.trans (hb.mono (Nat.le_trans hB h.size))
/-- What the definition's AppendStep hands back. -/
def AppRet (B : Nat) (w : World) (l : List Stp) (e : Ending) (w' : World) : Prop := ∃ v, e = .returned v ∧ Own stpE w' B v l ∧ Below B w w'
theorem box5 {w : World} {g : Nat} {x y z u t : Value} {e : TypeId} (h : w.heap[g]? = some (.cells #[x, y, z, u, t] e (0, 0))) :
    w.cell? ⟨g, 0, none⟩ = some x ∧ w.cell? ⟨g, 1, none⟩ = some y ∧ w.cell? ⟨g, 2, none⟩ = some z ∧ w.cell? ⟨g, 3, none⟩ = some u ∧ w.cell? ⟨g, 4, none⟩ = some t := by
  refine ⟨?_, ?_, ?_, ?_, ?_⟩ <;> simp [World.cell?, h]
set_option maxHeartbeats 8000000 in
set_option maxRecDepth 100000 in
theorem appStep_any (B : Nat) (v : Value) (ls : List Stp) (x y vk vn : Int) (vs : ByteArray) (w : World) (hO : Own stpE w B v ls) (hB : B ≤ w.heap.size) (hl : ls.length ≤ 100000) :
    Calls Try.prog 42 #[v, .agg #[.int .i64 x, .int .i64 y, .int .i64 vk, .int .i64 vn, .string vs]] w (AppRet B w (putStep ls ⟨x, y, ⟨vk, vn, vs⟩⟩)) := by
  obtain ⟨ao, co, rfl⟩ := hO.shape
  have hbx := World.alloc_heap_new w (.cells #[.int .i64 x, .int .i64 y, .int .i64 vk, .int .i64 vn, .string vs] 53)
  have hb1 := below_alloc w (.cells #[.int .i64 x, .int .i64 y, .int .i64 vk, .int .i64 vn, .string vs] 53)
  have hBb : Below B w (w.alloc (.cells #[.int .i64 x, .int .i64 y, .int .i64 vk, .int .i64 vn, .string vs] 53)) := hb1.mono hB
  have hO1 := hO.below hb1
  have hol := hO.lt
  obtain ⟨w1, hw1⟩ : ∃ w1, w1 = w.alloc (.cells #[.int .i64 x, .int .i64 y, .int .i64 vk, .int .i64 vn, .string vs] 53) := ⟨_, rfl⟩
  have hz1 : w1.heap.size = w.heap.size + 1 := by rw [hw1]; simp
  have HW1 := Lib.hid hw1
  have HZ1 := Lib.hid hz1
  rw [← hw1] at hbx hBb hO1
  have HOL := Lib.hid hol
  have HO1 := Lib.hid hO1
  have HBB := Lib.hid hBb
  have HBX := Lib.hid hbx
  rcases List.eq_nil_or_concat ls with hle | ⟨ini, z, hle⟩
  · subst hle
    have HQ1 : Hid (putStep [] ⟨x, y, ⟨vk, vn, vs⟩⟩ = [⟨x, y, ⟨vk, vn, vs⟩⟩]) := Lib.hid rfl
    rw [HQ1.out]
    clear hO hb1 hO1 hbx hBb hol hw1 hz1
    go_enter Try.func42, Try.ntmps42
    go_upto_region 2 with fail
    rw [← HW1.out]
    refine wp_region_held_drew (S := fun W => Below w1.heap.size w1 W) (by kernel_rfl) ((Below.refl _ _).drew) (fun hHeld => ?_)
    refine take_y (i := 0) (d := some 9) (v := ?_) rfl rfl (by kernel_rfl) (by kernel_rfl) (by kernel_rfl) (fun _ _ _ h => h) (by assumption) ?_ ?_
    rotate_left
    · intro oi ho
      simp only [List.getElem?_toArray, List.getElem?_cons_zero, Option.some.injEq] at ho
      subst ho
      intro w hSw
      skip
      go_simp
      (try with_reducible rfl)
    (try simp only [Act.put, List.setIfInBounds_toArray, List.set_cons_zero, List.set_cons_succ])
    refine take_y (i := 1) (d := some 10) (v := ?_) rfl rfl (by kernel_rfl) (by kernel_rfl) (by kernel_rfl) (fun _ _ _ h => h) (by assumption) ?_ ?_
    rotate_left
    · intro oi ho
      simp only [List.getElem?_toArray, List.getElem?_cons_succ, List.getElem?_cons_zero, Option.some.injEq] at ho
      subst ho
      intro w hSw
      skip
      go_simp
      (try with_reducible rfl)
    (try simp only [Act.put, List.setIfInBounds_toArray, List.set_cons_zero, List.set_cons_succ])
    refine take_y (i := 2) (d := some 11) (v := ?_) rfl rfl (by kernel_rfl) (by kernel_rfl) (by kernel_rfl) (fun _ _ _ h => h) (by assumption) ?_ ?_
    rotate_left
    · intro oi ho
      simp only [List.getElem?_toArray, List.getElem?_cons_succ, List.getElem?_cons_zero, Option.some.injEq] at ho
      subst ho
      intro w hSw
      skip
      go_simp
      (try with_reducible rfl)
    (try simp only [Act.put, List.setIfInBounds_toArray, List.set_cons_zero, List.set_cons_succ])
    refine take_n (i := 3) (d := some 12) rfl rfl (by kernel_rfl) (by kernel_rfl) (by kernel_rfl) (fun _ _ _ h => h) (by assumption) ?_
    (try simp only [Act.put, List.setIfInBounds_toArray, List.set_cons_zero, List.set_cons_succ])
    refine take_n (i := 4) (d := some 13) rfl rfl (by kernel_rfl) (by kernel_rfl) (by kernel_rfl) (fun _ _ _ h => h) (by assumption) ?_
    (try simp only [Act.put, List.setIfInBounds_toArray, List.set_cons_zero, List.set_cons_succ])
    refine take_n (i := 5) (d := some 14) rfl rfl (by kernel_rfl) (by kernel_rfl) (by kernel_rfl) (fun _ _ _ h => h) (by assumption) ?_
    (try simp only [Act.put, List.setIfInBounds_toArray, List.set_cons_zero, List.set_cons_succ])
    refine take_n (i := 6) (d := some 15) rfl rfl (by kernel_rfl) (by kernel_rfl) (by kernel_rfl) (fun _ _ _ h => h) (by assumption) ?_
    (try simp only [Act.put, List.setIfInBounds_toArray, List.set_cons_zero, List.set_cons_succ])
    refine take_n (i := 7) (d := some 16) rfl rfl (by kernel_rfl) (by kernel_rfl) (by kernel_rfl) (fun _ _ _ h => h) (by assumption) ?_
    (try simp only [Act.put, List.setIfInBounds_toArray, List.set_cons_zero, List.set_cons_succ])
    refine take_n (i := 8) (d := some 17) rfl rfl (by kernel_rfl) (by kernel_rfl) (by kernel_rfl) (fun _ _ _ h => h) (by assumption) ?_
    (try simp only [Act.put, List.setIfInBounds_toArray, List.set_cons_zero, List.set_cons_succ])
    refine take_n (i := 9) (d := some 18) rfl rfl (by kernel_rfl) (by kernel_rfl) (by kernel_rfl) (fun _ _ _ h => h) (by assumption) ?_
    (try simp only [Act.put, List.setIfInBounds_toArray, List.set_cons_zero, List.set_cons_succ])
    refine take_n (i := 10) (d := some 19) rfl rfl (by kernel_rfl) (by kernel_rfl) (by kernel_rfl) (fun _ _ _ h => h) (by assumption) ?_
    (try simp only [Act.put, List.setIfInBounds_toArray, List.set_cons_zero, List.set_cons_succ])
    refine take_n (i := 11) (d := some 20) rfl rfl (by kernel_rfl) (by kernel_rfl) (by kernel_rfl) (fun _ _ _ h => h) (by assumption) ?_
    (try simp only [Act.put, List.setIfInBounds_toArray, List.set_cons_zero, List.set_cons_succ])
    refine take_y (i := 12) (d := some 21) (v := ?_) rfl rfl (by kernel_rfl) (by kernel_rfl) (by kernel_rfl) (fun _ _ _ h => h) (by assumption) ?_ ?_
    rotate_left
    · intro oi ho
      simp only [List.getElem?_toArray, List.getElem?_cons_succ, List.getElem?_cons_zero, Option.some.injEq] at ho
      subst ho
      intro w hSw
      skip
      go_simp
      (try with_reducible rfl)
    (try simp only [Act.put, List.setIfInBounds_toArray, List.set_cons_zero, List.set_cons_succ])
    refine wpAnyH_done (by kernel_rfl) ?_ _
    obtain ⟨w2, hw2⟩ : ∃ w2, w2 = w1.drew := ⟨_, rfl⟩
    have hb2 : Below B w w2 := by rw [hw2]; exact HBB.out.drew
    have hx2 : w2.heap[w.heap.size]? = some (.cells #[.int .i64 x, .int .i64 y, .int .i64 vk, .int .i64 vn, .string vs] 53) := by rw [hw2]; exact HBX.out
    have ho2 : Own stpE w2 B (.slice ao 0 co) [] := by rw [hw2]; exact HO1.out.drew
    rw [← hw2]
    have HB2 := Lib.hid hb2
    have HO2 := Lib.hid ho2
    obtain ⟨c0, c1, c2, c3, c4⟩ := box5 hx2
    have hz2 : B ≤ w2.heap.size := Nat.le_trans hB hb2.size
    clear hHeld hw2 hb2 ho2 hx2
    go_wp2_with (at_builtin; refine wpList_push rfl (.tmp 31) (.tmp 33) 34 rfl stpE Try.underlying34 B (.slice ao 0 co) [] rfl HO2.out [⟨x, y, ⟨vk, vn, vs⟩⟩] #[.int .i64 x, .int .i64 y, .int .i64 vk, .int .i64 vn, .string vs] (Els.one rfl) 1 1 rfl rfl (by decide) (by unfold maxLen; simp) (by show _ * 48 ≤ _; simp) hz2 ?_; intro g cap w5 hP hPa)
    go_ret
    exact ⟨_, rfl, hP.own' (by simp), HB2.out.trans hP.below⟩
  · have hll : ls.length = ini.length + 1 := by rw [hle]; simp
    have hlz : ls[ini.length]? = some z := by rw [hle]; simp
    have hla : ls.getLast? = some z := by rw [hle]; simp
    have hdl : ls.dropLast = ini := by rw [hle]; simp
    have hset : ls.set ini.length ⟨z.lo, y, z.v⟩ = ini ++ [⟨z.lo, y, z.v⟩] := by rw [hle]; simp
    have HPS := @putStep_same ls z ⟨x, y, ⟨vk, vn, vs⟩⟩ hla
    have HPN := @putStep_new ls z ⟨x, y, ⟨vk, vn, vs⟩⟩ hla
    rw [hdl] at HPS
    obtain ⟨t, ht⟩ : ∃ t, t = ini.length := ⟨_, rfl⟩
    rw [← ht] at hll hlz hset
    have HSET := Lib.hid hset
    have HLZ := Lib.hid hlz
    obtain ⟨nl, hnl⟩ : ∃ nl, nl = ls.length := ⟨_, rfl⟩
    have HNL := Lib.hid hnl
    have hoo := HO1.out
    rw [← hnl] at hll hl hoo ⊢
    obtain ⟨gq, cq, hsh⟩ := hoo.shape_pos (by omega)
    rw [← hnl] at hsh
    cases hsh
    have hgB : B ≤ gq := (HOL.out gq rfl).1
    have hgw : gq < w.heap.size := (HOL.out gq rfl).2
    obtain ⟨s0, s1, s2, s3, s4⟩ := stp_at hoo hlz
    obtain ⟨b0, b1, b2, b3, b4⟩ := box5 HBX.out
    have HCM := fun W => Lib.hid (cmpG_any z.v ⟨vk, vn, vs⟩ W)
    dsimp only at HPS HPN HCM
    generalize hr : cmpG z.v ⟨vk, vn, vs⟩ = r at HCM HPS HPN
    generalize hres : putStep ls ⟨x, y, ⟨vk, vn, vs⟩⟩ = res at HPS HPN ⊢
    have HPSH := Lib.hid HPS
    have HPNH := Lib.hid HPN
    have HOO := Lib.hid hoo
    have hn1 : (nl : Int) - 1 = (t : Int) := by omega
    have ht1 : (t : Int) < (nl : Int) := by omega
    have ht2 : t < nl := by omega
    have ht0 : 0 ≤ (t : Int) := by omega
    obtain ⟨zlo, zhi, zk, zn, zs⟩ := z
    dsimp only at HCM s0 s1 s2 s3 s4
    have hb1' : Below B w w1 := HBB.out
    have hoo' := HOO.out
    clear hO hb1 hO1 hbx hBb hol hw1 hz1 hle hla hdl hset HPS HPN hr hres hll hlz ht hnl hoo
    go_enter Try.func42, Try.ntmps42
    go_upto_region 2 with fail
    rw [← HW1.out]
    go_region_held3 (fun W => Below B w W ∧ W.cell? ⟨gq, t * 5 + 2, none⟩ = some (.int .i64 zk) ∧ W.cell? ⟨gq, t * 5 + 3, none⟩ = some (.int .i64 zn) ∧ W.cell? ⟨gq, t * 5 + 4, none⟩ = some (.string zs) ∧ W.cell? ⟨w.heap.size, 1, none⟩ = some (.int .i64 y) ∧ W.cell? ⟨w.heap.size, 2, none⟩ = some (.int .i64 vk) ∧ W.cell? ⟨w.heap.size, 3, none⟩ = some (.int .i64 vn) ∧ W.cell? ⟨w.heap.size, 4, none⟩ = some (.string vs) ∧ W.cell? ⟨w.heap.size, 0, none⟩ = some (.int .i64 x) ∧ Own stpE W B (.slice (some ⟨gq, 0, none⟩) nl co) ls)
      ((go_split_ands; refine ⟨?_, ?_, ?_, ?_, ?_, ?_, ?_, ?_, ?_, ?_⟩ <;> (first | with_reducible assumption | with_reducible exact Below.drew (by assumption) | with_reducible exact cell_drew (by assumption) | with_reducible exact Own.drew (by assumption) | with_reducible exact below_keepB hB (by assumption) (by assumption) | with_reducible exact cell_keep (by assumption) (by assumption) | with_reducible exact Own.below (by assumption) (by assumption))))
      (first | ((with_reducible refine (HCM _).out.mono ?_); rintro _ w8 ⟨rfl, hb8⟩))
    go_split_ands
    have HB8 : Hid (Below B w w8) := Lib.hid (by with_reducible assumption)
    have HO8 : Hid (Own stpE w8 B (.slice (some ⟨gq, 0, none⟩) nl co) ls) := Lib.hid (by with_reducible assumption)
    have k0 : w8.cell? ⟨w.heap.size, 0, none⟩ = some (.int .i64 x) := by with_reducible assumption
    have k1 : w8.cell? ⟨w.heap.size, 1, none⟩ = some (.int .i64 y) := by with_reducible assumption
    have k2 : w8.cell? ⟨w.heap.size, 2, none⟩ = some (.int .i64 vk) := by with_reducible assumption
    have k3 : w8.cell? ⟨w.heap.size, 3, none⟩ = some (.int .i64 vn) := by with_reducible assumption
    have k4 : w8.cell? ⟨w.heap.size, 4, none⟩ = some (.string vs) := by with_reducible assumption
    obtain ⟨_, u1, _, _, _⟩ := stp_at HO8.out HLZ.out
    (try dsimp only at u1)
    clear hb8 s0 s1 s2 s3 s4 b0 b1 b2 b3 b4 HCM hb1' hoo'
    by_cases hr0 : r = 0
    · subst hr0
      have HRS : Hid (res = ini ++ [⟨zlo, y, ⟨zk, zn, zs⟩⟩]) := Lib.hid (HPSH.out rfl)
      have hput := (HO8.out.put_at (E := stpE) (k := t) (j := 1) (us := [.int .i64 y]) (y := ⟨zlo, y, ⟨zk, zn, zs⟩⟩) HNL.out.symm ht2 (by show 1 + 1 ≤ 5; decide) (fun x0 cs hx0 hcs => by
        rw [HLZ.out] at hx0
        cases hx0
        cases hcs
        rfl)).1
      have hst := HSET.out
      (try dsimp only at hst)
      rw [hst] at hput
      have hput2 : Own stpE (w8.setCell ⟨gq, t * 5 + 1, none⟩ (.int .i64 y)) B (.slice (some ⟨gq, 0, none⟩) nl co) (ini ++ [⟨zlo, y, ⟨zk, zn, zs⟩⟩]) := hput
      have hgz : gq < w8.heap.size := World.block_lt_of_cell? _ _ u1
      have hfz : w8.frozen? ⟨gq, t * 5 + 1, none⟩ = false := HO8.out.frozen HNL.out.symm _
      have HPUT := Lib.hid hput2
      have HBS : Hid (Below B w (w8.setCell ⟨gq, t * 5 + 1, none⟩ (.int .i64 y))) := Lib.hid (HB8.out.setCell hgB _)
      clear hput hput2 hst
      go_wp2_with fail
      go_ret
      exact ⟨_, rfl, by rw [HRS.out]; exact HPUT.out, HBS.out⟩
    · have HRS : Hid (res = ls ++ [⟨x, y, ⟨vk, vn, vs⟩⟩]) := Lib.hid (HPNH.out hr0)
      have hrb : (r == 0) = false := by simpa using hr0
      have hz8 : B ≤ w8.heap.size := Nat.le_trans hB HB8.out.size
      have hlsl : ls.length ≤ 100000 := by rw [← HNL.out]; exact hl
      have HO9 : Hid (Own stpE w8 B (.slice (some ⟨gq, 0, none⟩) ls.length co) ls) := Lib.hid (by rw [← HNL.out]; exact HO8.out)
      have hnl := HNL.out
      subst hnl
      clear hr0
      go_wp2_with (at_builtin; refine wpList_push rfl (.tmp 31) (.tmp 33) 34 rfl stpE Try.underlying34 B (.slice (some ⟨gq, 0, none⟩) ls.length co) ls rfl HO9.out [⟨x, y, ⟨vk, vn, vs⟩⟩] #[.int .i64 x, .int .i64 y, .int .i64 vk, .int .i64 vn, .string vs] (Els.one rfl) 1 1 rfl rfl (by decide) (by unfold maxLen; omega) (by show _ * 48 ≤ _; omega) hz8 ?_; intro g cap w5 hP hPa)
      go_ret
      exact ⟨_, rfl, by rw [HRS.out]; exact hP.own' (by simp), HB8.out.trans hP.below⟩
theorem stp_at2 {w : World} {G : Nat → Prop} {a : Option Addr} {n c k : Nat} {l : List Stp} {s : Stp} (h : Sl stpE w G (.slice a n c) l) (hk : l[k]? = some s) :
    ∃ b o, a = some ⟨b, o, none⟩ ∧ w.cell? ⟨b, o + k * 5, none⟩ = some (.int .i64 s.lo) ∧ w.cell? ⟨b, o + k * 5 + 1, none⟩ = some (.int .i64 s.hi) ∧ w.cell? ⟨b, o + k * 5 + 2, none⟩ = some (.int .i64 s.v.kind) ∧ w.cell? ⟨b, o + k * 5 + 3, none⟩ = some (.int .i64 s.v.n) ∧ w.cell? ⟨b, o + k * 5 + 4, none⟩ = some (.string s.v.s) := by
  obtain ⟨b, o, cs, ha, rfl, hc⟩ := h.at hk
  exact ⟨b, o, ha, hc 0 _ rfl, hc 1 _ rfl, hc 2 _ rfl, hc 3 _ rfl, hc 4 _ rfl⟩
set_option maxHeartbeats 8000000 in
set_option maxRecDepth 100000 in
theorem sameSteps_eq (v u : Value) (l : List Stp) (w : World) (hv : Sl stpE w free v l) (hu : Sl stpE w free u l) :
    Calls Try.prog 16 #[v, u] w fun e w' => e = .returned (.bool true) ∧ Below w.heap.size w w' := by
  obtain ⟨a1, c1, rfl⟩ := hv.shape
  obtain ⟨a2, c2, rfl⟩ := hu.shape
  have h63 := hv.1
  obtain ⟨n, hn⟩ : ∃ n, n = l.length := ⟨_, rfl⟩
  have HV := Lib.hid hv
  have HU := Lib.hid hu
  have HN := Lib.hid hn
  rw [← hn] at HV HU h63 ⊢
  clear hv hu hn
  go_enter Try.func16, Try.ntmps16
  go_wp2_with fail
  go_loopw [5] (fun i wr => ∃ k : Nat, k ≤ n ∧ i = .int .i64 (k : Int) ∧ Hid (Below w.heap.size w wr)) (fun i _ => n - (intOf i).toNat)
  case atStart => exact ⟨0, Nat.zero_le _, rfl, Lib.hid (.refl _ _)⟩
  case round =>
    obtain ⟨k, hk, rfl, HB⟩ := hrel
    obtain ⟨wo, rfl⟩ : ∃ wo : World, wo = wr := ⟨_, rfl⟩
    by_cases hlt : k < n
    · obtain ⟨s, hs⟩ := lget_some l k (by rw [← HN.out]; exact hlt)
      obtain ⟨b1, o1, rfl, p0, p1, p2, p3, p4⟩ := stp_at2 (HV.out.below HB.out) hs
      obtain ⟨b2, o2, rfl, q0, q1, q2, q3, q4⟩ := stp_at2 (HU.out.below HB.out) hs
      obtain ⟨slo, shi, sk, sn, ss⟩ := s
      have HC := fun W => Lib.hid (cmpG_any ⟨sk, sn, ss⟩ ⟨sk, sn, ss⟩ W)
      rw [cmpG_zero.2 rfl] at HC
      dsimp only at *
      have hB := HB.out
      have hkI : (k : Int) < (n : Int) := by omega
      clear hs
      go_upto_region 6 with fail
      go_region_held3 (fun W => Below w.heap.size w W ∧ W.cell? ⟨b1, o1 + k * 5, none⟩ = some (.int .i64 slo) ∧ W.cell? ⟨b1, o1 + k * 5 + 1, none⟩ = some (.int .i64 shi) ∧ W.cell? ⟨b1, o1 + k * 5 + 2, none⟩ = some (.int .i64 sk) ∧ W.cell? ⟨b1, o1 + k * 5 + 3, none⟩ = some (.int .i64 sn) ∧ W.cell? ⟨b1, o1 + k * 5 + 4, none⟩ = some (.string ss) ∧ W.cell? ⟨b2, o2 + k * 5, none⟩ = some (.int .i64 slo) ∧ W.cell? ⟨b2, o2 + k * 5 + 1, none⟩ = some (.int .i64 shi) ∧ W.cell? ⟨b2, o2 + k * 5 + 2, none⟩ = some (.int .i64 sk) ∧ W.cell? ⟨b2, o2 + k * 5 + 3, none⟩ = some (.int .i64 sn) ∧ W.cell? ⟨b2, o2 + k * 5 + 4, none⟩ = some (.string ss))
        ((go_split_ands; refine ⟨?_, ?_, ?_, ?_, ?_, ?_, ?_, ?_, ?_, ?_, ?_⟩ <;> (first | with_reducible assumption | with_reducible exact Below.drew (by assumption) | with_reducible exact cell_drew (by assumption) | with_reducible exact below_keep (by assumption) (by assumption) | with_reducible exact cell_keep (by assumption) (by assumption))))
        (first | ((with_reducible refine (HC _).out.mono ?_); rintro _ w8 ⟨rfl, hb8⟩))
      go_split_ands
      have HB8 : Hid (Below w.heap.size w w8) := Lib.hid (by with_reducible assumption)
      clear hb8 hB p0 p1 p2 p3 p4 q0 q1 q2 q3 q4 HC
      go_wp2_with fail
      go_roundw
      case rel => exact ⟨k + 1, by omega, by go_num, HB8⟩
      case measure => simp [intOf]; omega
    · go_wp2_with fail
      go_ret
      exact ⟨rfl, HB.out⟩
end Go.Proofs.Ytfmbbfidjcgeiaa

namespace Go.Proofs.Ytfmbbfidjcgeiaa
open Go.RowKit Go.Lib

set_option maxHeartbeats 2000000 in
theorem less_any (a b : GRow) (v u v2 u2 : Value) (w : World) (hv : Sl valE w free v a.vals) (hu : Sl intE w free u a.lin) (hv2 : Sl valE w free v2 b.vals) (hu2 : Sl intE w free u2 b.lin) :
    Calls Try.prog 78 #[.agg #[v, u], .agg #[v2, u2]] w fun e w' => e = .returned (.bool (decide (cmpRow a b < 0))) ∧ Below w.heap.size w w' := by
  obtain ⟨r1, hr1⟩ : ∃ r, r = cmpRows a.vals b.vals := ⟨_, rfl⟩
  obtain ⟨r2, hr2⟩ : ∃ r, r = cmpInts a.lin b.lin := ⟨_, rfl⟩
  have CR : ∀ W, Below w.heap.size w W → Hid (Calls Try.prog 102 #[v, v2] W fun e w' => e = .returned (.int .i64 r1) ∧ Below W.heap.size W w') := fun W h => hr1 ▸ cmpRows_any v v2 a.vals b.vals W (hv.below h).vals (hv2.below h).vals
  have CI : ∀ W, Below w.heap.size w W → Hid (Calls Try.prog 103 #[u, u2] W fun e w' => e = .returned (.int .i64 r2) ∧ Below W.heap.size W w') := fun W h => hr2 ▸ cmpInts_any u u2 a.lin b.lin W (hu.below h).ints (hu2.below h).ints
  have HR : Hid (cmpRow a b = if r1 = 0 then r2 else r1) := by show _ = _; rw [hr1, hr2]; rfl
  obtain ⟨a1, c1, rfl⟩ := hv.shape
  obtain ⟨a2, c2, rfl⟩ := hu.shape
  obtain ⟨a3, c3, rfl⟩ := hv2.shape
  obtain ⟨a4, c4, rfl⟩ := hu2.shape
  generalize a.vals.length = n1 at CR ⊢
  generalize a.lin.length = n2 at CI ⊢
  generalize b.vals.length = n3 at CR ⊢
  generalize b.lin.length = n4 at CI ⊢
  generalize cmpRow a b = z at HR ⊢
  have hb0 := below_alloc_two w (.cells #[.slice a1 n1 c1, .slice a2 n2 c2] 92) (.cells #[.slice a3 n3 c3, .slice a4 n4 c4] 92)
  have g0 := heap_alloc_old' w (.cells #[.slice a1 n1 c1, .slice a2 n2 c2] 92) (.cells #[.slice a3 n3 c3, .slice a4 n4 c4] 92)
  have g1 := heap_alloc_new' w (.cells #[.slice a1 n1 c1, .slice a2 n2 c2] 92) (.cells #[.slice a3 n3 c3, .slice a4 n4 c4] 92)
  have CR1 := Lib.hid (CR _ hb0).out
  have HB0 := Lib.hid hb0
  have G0 := Lib.hid g0
  have G1 := Lib.hid g1
  obtain ⟨d0, d1, _, _⟩ := box_two g0
  obtain ⟨e0, e1, _, _⟩ := box_two g1
  have CI' := Lib.hid CI
  clear hv hu hv2 hu2 hr1 hr2 CR CI hb0 g0 g1
  go_enter Try.func78, Try.ntmps78
  go_wp2_with fail
  refine CR1.out.mono ?_
  rintro _ w2 ⟨rfl, hb⟩
  obtain ⟨d0, d1, _, _⟩ := box_two (box_kept G0.out hb)
  obtain ⟨e0, e1, _, _⟩ := box_two (box_kept G1.out hb)
  have HB2 := Lib.hid (below_keep HB0.out hb)
  have CI2 := Lib.hid (CI'.out _ HB2.out).out
  clear hb CI' CR1 G0 G1 HB0
  by_cases h1 : r1 < 0
  · go_wp2_with fail
    go_ret
    exact ⟨ret_bool (by rw [HR.out, if_neg (by omega)]; simp [h1]), HB2.out⟩
  · by_cases h2 : r1 = 0
    · have h2' : (r1 == 0) = true := by simpa using h2
      go_wp2_with fail
      refine CI2.out.mono ?_
      rintro _ w3 ⟨rfl, hb3⟩
      have HB3 := Lib.hid (below_keep HB2.out hb3)
      clear hb3
      go_wp2_with fail
      go_ret
      exact ⟨ret_bool (by rw [HR.out, if_pos h2]), HB3.out⟩
    · have h2' : (r1 == 0) = false := by simpa using h2
      go_wp2_with fail
      go_ret
      exact ⟨ret_bool (by rw [HR.out, if_neg h2]), HB2.out⟩
/-- Two sorted lists merged. -/
def mrg : List GRow → List GRow → List GRow
  | [], b => b
  | x :: a, [] => x :: a
  | x :: a, y :: b => if cmpRow y x < 0 then y :: mrg (x :: a) b else x :: mrg a (y :: b)
termination_by a b => a.length + b.length
theorem mrg_nil (a : List GRow) : mrg a [] = a := by cases a <;> simp [mrg]
theorem mrg_nil' (b : List GRow) : mrg [] b = b := by simp [mrg]
theorem mrg_lt {x y : GRow} (a b : List GRow) (h : cmpRow y x < 0) : mrg (x :: a) (y :: b) = y :: mrg (x :: a) b := by rw [mrg, if_pos h]
theorem mrg_ge {x y : GRow} (a b : List GRow) (h : ¬ cmpRow y x < 0) : mrg (x :: a) (y :: b) = x :: mrg a (y :: b) := by rw [mrg, if_neg h]
theorem mrg_perm (a b : List GRow) : (mrg a b).Perm (a ++ b) := by
  induction a, b using mrg.induct with
  | case1 b => rw [mrg_nil']; exact List.Perm.refl _
  | case2 x a => rw [mrg_nil, List.append_nil]
  | case3 x a y b h ih => rw [mrg_lt _ _ h]; exact (ih.cons y).trans List.perm_middle.symm
  | case4 x a y b h ih => rw [mrg_ge _ _ h]; exact ih.cons x
theorem cmpRow_trans {a b c : GRow} (h1 : cmpRow a b ≤ 0) (h2 : cmpRow b c ≤ 0) : cmpRow a c ≤ 0 := by
  have h := sgn_row a b c
  unfold Sgn3 at h
  omega
theorem mrg_sorted (a b : List GRow) (ha : a.Pairwise fun x y => cmpRow x y ≤ 0) (hb : b.Pairwise fun x y => cmpRow x y ≤ 0) : (mrg a b).Pairwise fun x y => cmpRow x y ≤ 0 := by
  induction a, b using mrg.induct with
  | case1 b => rw [mrg_nil']; exact hb
  | case2 x a => rw [mrg_nil]; exact ha
  | case3 x a y b h ih =>
    rw [mrg_lt _ _ h, List.pairwise_cons]
    refine ⟨fun z hz => ?_, ih ha (List.pairwise_cons.1 hb).2⟩
    rcases List.mem_append.1 ((mrg_perm _ _).mem_iff.1 hz) with hz | hz
    · rcases List.mem_cons.1 hz with rfl | hz
      · omega
      · exact cmpRow_trans (by omega) ((List.pairwise_cons.1 ha).1 z hz)
    · exact (List.pairwise_cons.1 hb).1 z hz
  | case4 x a y b h ih =>
    have hxy : cmpRow x y ≤ 0 := by have := cmpRow_swap x y; omega
    rw [mrg_ge _ _ h, List.pairwise_cons]
    refine ⟨fun z hz => ?_, ih (List.pairwise_cons.1 ha).2 hb⟩
    rcases List.mem_append.1 ((mrg_perm _ _).mem_iff.1 hz) with hz | hz
    · exact (List.pairwise_cons.1 ha).1 z hz
    · rcases List.mem_cons.1 hz with rfl | hz
      · exact hxy
      · exact cmpRow_trans hxy ((List.pairwise_cons.1 hb).1 z hz)
theorem mrg_sort (l : List GRow) (k : Nat) : mrg (sortR (l.take k)) (sortR (l.drop k)) = sortR l := by
  refine sortR_unique ((mrg_perm _ _).trans ?_) ((mrg_sorted _ _ (sortR_pairwise _) (sortR_pairwise _)).imp (by intro a b h; have := cmpRow_swap a b; omega))
  exact ((sortR_perm _).append (sortR_perm _)).trans (by rw [List.take_append_drop])
theorem sortR_short {l : List GRow} (h : l.length < 2) : sortR l = l := by
  refine (sortR_unique (List.Perm.refl _) ?_).symm
  match l, h with
  | [], _ => exact List.Pairwise.nil
  | [x], _ => exact List.pairwise_singleton _ _
theorem mrg_length (a b : List GRow) : (mrg a b).length = a.length + b.length := by rw [(mrg_perm a b).length_eq, List.length_append]
end Go.Proofs.Ytfmbbfidjcgeiaa

namespace Go.Proofs.Ytfmbbfidjcgeiaa
open Go.RowKit Go.Lib

section
variable {P : Program} {α : Type}
theorem Sl.toD {E : El P α} {D : Nat → Prop} {w : World} {v : Value} {l : List α} (h : Sl E w D v l) : Sl (E.avoid D) w Go.Proofs.Ytfmbbfidjcgeiaa.free v l := by
  obtain ⟨h1, a, c, h2, h3, h4⟩ := h
  refine ⟨h1, a, c, h2, h3, fun hn => ?_⟩
  obtain ⟨b, o, h5, _, h6⟩ := h4 hn
  refine ⟨b, o, h5, id, fun i x hx => ?_⟩
  obtain ⟨cs, h7, h8⟩ := h6 i x hx
  exact ⟨cs, E.mono h7 (fun k _ hk => hk.resolve_left id), h8⟩
/-- A row of the call's own lies in no elder block. -/
theorem Own.slD {E : El P α} {D : Nat → Prop} {w : World} {B : Nat} {v : Value} {l : List α} (h : Own (E.avoid D) w B v l) (hD : ∀ k, D k → k < B) : Sl E w D v l := by
  have hlt := h.lt
  obtain ⟨h1, a, c, rfl, h3, h4⟩ := h.sl
  refine ⟨h1, a, c, rfl, h3, fun hn => ?_⟩
  obtain ⟨b, o, rfl, _, h6⟩ := h4 hn
  refine ⟨b, o, rfl, fun hd => ?_, fun i x hx => ?_⟩
  · have := (hlt b rfl).1
    have := hD b hd
    omega
  · obtain ⟨cs, h7, h8⟩ := h6 i x hx
    exact ⟨cs, E.mono h7 (fun k _ hk => .inr hk), h8⟩
theorem Sl.forget {E : El P α} {D G : Nat → Prop} {w : World} {v : Value} {l : List α} (h : Sl (E.avoid D) w G v l) : Sl E w G v l := by
  obtain ⟨h1, a, c, h2, h3, h4⟩ := h
  refine ⟨h1, a, c, h2, h3, fun hn => ?_⟩
  obtain ⟨b, o, h5, hg, h6⟩ := h4 hn
  refine ⟨b, o, h5, hg, fun i x hx => ?_⟩
  obtain ⟨cs, h7, h8⟩ := h6 i x hx
  exact ⟨cs, E.mono h7 (fun k _ hk => .inl hk), h8⟩
theorem RetOwn.forget {E : El P α} {D : Nat → Prop} {w : World} {l : List α} {e : Ending} {w' : World} (h : RetOwn (E.avoid D) w l e w') : RetOwn E w l e w' := by
  obtain ⟨v, rfl, ho, hb⟩ := h
  exact ⟨v, rfl, ho.forget, hb⟩
end
theorem rowsD_at {D : Nat → Prop} {w : World} {G : Nat → Prop} {a : Option Addr} {n c k : Nat} {l : List GRow} {x : GRow} (h : Sl (rowE.avoid D) w G (.slice a n c) l) (hk : l[k]? = some x) :
    ∃ b o a1 n1 e1 m1, a = some ⟨b, o, none⟩ ∧ Sl valE w (fun k => G k ∨ D k) (.slice a1 x.vals.length n1) x.vals ∧ Sl intE w (fun k => G k ∨ D k) (.slice e1 x.lin.length m1) x.lin ∧
      w.cell? ⟨b, o + k * 2, none⟩ = some (.slice a1 x.vals.length n1) ∧ w.cell? ⟨b, o + k * 2 + 1, none⟩ = some (.slice e1 x.lin.length m1) := by
  obtain ⟨b, o, cs, ha, ⟨v, u, rfl, hv, hu⟩, hc⟩ := Sl.at h hk
  obtain ⟨a1, n1, rfl⟩ := hv.shape
  obtain ⟨e1, m1, rfl⟩ := hu.shape
  exact ⟨b, o, a1, n1, e1, m1, ha, hv, hu, hc 0 _ rfl, hc 1 _ rfl⟩
theorem tupsD_at {D : Nat → Prop} {w : World} {G : Nat → Prop} {a : Option Addr} {n c k : Nat} {l : List Tup} {x : Tup} (h : Sl (tupE.avoid D) w G (.slice a n c) l) (hk : l[k]? = some x) :
    ∃ b o a1 n1 e1 m1, a = some ⟨b, o, none⟩ ∧ Sl valE w (fun k => G k ∨ D k) (.slice a1 x.vals.length n1) x.vals ∧ Sl intE w (fun k => G k ∨ D k) (.slice e1 x.lin.length m1) x.lin ∧
      w.cell? ⟨b, o + k * 4, none⟩ = some (.slice a1 x.vals.length n1) ∧ w.cell? ⟨b, o + k * 4 + 1, none⟩ = some (.int .i64 x.lo) ∧ w.cell? ⟨b, o + k * 4 + 2, none⟩ = some (.int .i64 x.hi) ∧ w.cell? ⟨b, o + k * 4 + 3, none⟩ = some (.slice e1 x.lin.length m1) := by
  obtain ⟨b, o, cs, ha, ⟨v, u, rfl, hv, hu⟩, hc⟩ := Sl.at h hk
  obtain ⟨a1, n1, rfl⟩ := hv.shape
  obtain ⟨e1, m1, rfl⟩ := hu.shape
  exact ⟨b, o, a1, n1, e1, m1, ha, hv, hu, hc 0 _ rfl, hc 1 _ rfl, hc 2 _ rfl, hc 3 _ rfl⟩
end Go.Proofs.Ytfmbbfidjcgeiaa

namespace Go.Proofs.Ytfmbbfidjcgeiaa
open Go.RowKit Go.Lib

set_option maxHeartbeats 8000000 in
set_option maxRecDepth 100000 in
theorem refSort_g {D : Nat → Prop} (n : Nat) : n ≤ 100000 → ∀ (v : Value) (l : List GRow) (w : World), l.length = n → Sl (rowE.avoid D) w free v l → Calls Try.prog 62 #[v] w (RetOwn (rowE.avoid D) w (sortR l)) := by
  induction n using Nat.strongRecOn with
  | ind n ih =>
    intro hn v l w hl hv
    obtain ⟨a, c, rfl⟩ := hv.shape
    rw [hl] at hv ⊢
    have HV := Lib.hid hv
    have HN := Lib.hid hl
    by_cases h2 : n < 2
    · have HS : Hid (sortR l = l) := Lib.hid (sortR_short (by omega))
      have g2 : (n : Int) < 2 := by omega
      clear hv hl ih
      go_enter Try.func62, Try.ntmps62
      go_wp2_with (at_builtin; refine wpList_join rfl (.const (.slice none 0 0)) (.tmp 11) 89 rfl (rowE.avoid D) Try.underlying89 w.heap.size (.slice none 0 0) (.slice a n c) [] l rfl rfl (Own.nil _ _ _) (HV.out.mono (fun _ _ h => by simp [Value.ownBlock] at h)) (by have := HN.out; unfold maxLen; simp; omega) (by have := HN.out; show _ * 48 ≤ _; simp; omega) (Nat.le_refl _) n (by have := HN.out; simp; omega) ?_; intro a' c' w' hJ)
      go_ret
      exact ⟨_, rfl, by rw [HS.out]; simpa using hJ.own, hJ.below⟩
    · obtain ⟨k, hk⟩ : ∃ k, k = n / 2 := ⟨_, rfl⟩
      have hcap := hv.cap
      obtain ⟨b, o, rfl⟩ : ∃ b o, a = some ⟨b, o, none⟩ := by
        obtain ⟨b, o, cs, e, _⟩ := Sl.at hv (List.getElem?_eq_getElem (show 0 < l.length by omega))
        exact ⟨b, o, e⟩
      have CA : ∀ W, Below w.heap.size w W → Hid (Calls Try.prog 62 #[.slice (some ⟨b, o, none⟩) k c] W (RetOwn (rowE.avoid D) W (sortR (l.take k)))) := fun W hW => ih k (by omega) (by omega) _ _ W (by rw [List.length_take]; omega) ((hv.below hW).takeS (by omega))
      have CB : ∀ W, Below w.heap.size w W → Hid (Calls Try.prog 62 #[.slice (some ⟨b, o + k * 2, none⟩) (n - k) (c - k)] W (RetOwn (rowE.avoid D) W (sortR (l.drop k)))) := fun W hW => by
        have h := (hv.below hW).dropS (k := k) (by omega)
        rw [show k * (rowE.avoid D).size = k * 2 from rfl, Option.map_some, Addr.add_lit] at h
        exact ih (n - k) (by omega) (by omega) _ _ W (by rw [List.length_drop]; omega) h
      have HM : Hid (mrg (sortR (l.take k)) (sortR (l.drop k)) = sortR l) := Lib.hid (mrg_sort l k)
      have hA : (sortR (l.take k)).length = k := by rw [sortR_length, List.length_take]; omega
      have hB : (sortR (l.drop k)).length = n - k := by rw [sortR_length, List.length_drop]; omega
      generalize sortR (l.take k) = A at CA HM hA
      generalize sortR (l.drop k) = B at CB HM hB
      generalize sortR l = R at HM ⊢
      obtain ⟨m, hm⟩ : ∃ m, m = n - k := ⟨_, rfl⟩
      rw [← hm] at hB
      have HA := Lib.hid hA
      have HB := Lib.hid hB
      have g2 : ¬ (n : Int) < 2 := by omega
      have gk : (n : Int) / 2 = k := by omega
      have gk2 : Int.tdiv (n : Int) 2 = k := by rw [Int.tdiv_eq_ediv_of_nonneg (by omega)]; omega
      have gk3 : (n : Int) - k = m := by omega
      have gc1 : (k : Int) ≤ c := by omega
      have gc2 : (n : Int) ≤ c := by omega
      have gc3 : (k : Int) ≤ n := by omega
      have gc4 : (0 : Int) ≤ (k : Int) := by omega
      have gk0 : n / 2 = k := hk.symm
      have gn1 : k ≤ c := by omega
      have gw : IntKind.i64.wrap (k : Int) = k := IntWalk.i64_in _ (by omega)
      have gn2 : k ≤ n := by omega
      have gck : ¬ c = k := by omega
      have CA' := Lib.hid CA
      have CB' := Lib.hid CB
      have hbb : Below w.heap.size w w := .refl _ _
      have HMK : Hid (n = k + m) := by show _ = _; omega
      clear hv hl ih CA CB hA hB hk hm
      go_enter Try.func62, Try.ntmps62
      go_wp2_with fail
      go_region_held3 (fun W => Below w.heap.size w W)
        (first | with_reducible assumption | with_reducible exact Below.drew (by assumption) | with_reducible exact below_keep (by assumption) (by assumption))
        (first
          | (go_at_call 62; (with_reducible refine (CA'.out _ (by first | assumption | exact Below.drew (by assumption))).out.mono ?_); rintro e' wA ⟨va, rfl, hOa, hbA⟩; have hSa := hOa.sl)
          | (go_at_call 62; (with_reducible refine (CB'.out _ (by first | assumption | exact Below.drew (by assumption))).out.mono ?_); rintro e' wB ⟨vb, rfl, hOb, hbB⟩; have hSb := hOb.sl; have hSa' := hSa.below hbB))
      all_goals (
        have HBB : Hid (Below w.heap.size w wB) := Lib.hid (by assumption)
        obtain ⟨aa, ca, rfl⟩ := hOa.shape
        obtain ⟨ab, cb, rfl⟩ := hOb.shape
        rw [HA.out] at hSa' ⊢
        rw [HB.out] at hSb ⊢
        have HSA := Lib.hid hSa'
        have HSB := Lib.hid hSb
        clear hOa hbA hSa hOb hbB hSb hSa' CA' CB' hbb gk gk0 gk2 gk3 gc1 gc2 gc3 gc4 gn1 gn2 gw gck g2 hcap
        go_wp2_with fail
        go_loopw [5, 6, 7] (fun s5 s6 s7 wr => ∃ (i j : Nat) (acc : List GRow), i ≤ k ∧ j ≤ m ∧ s6 = .int .i64 i ∧ s7 = .int .i64 j ∧ Own (rowE.avoid D) wr wB.heap.size s5 acc ∧ Hid (acc ++ mrg (A.drop i) (B.drop j) = R) ∧ Hid (Below wB.heap.size wB wr)) (fun _ s6 s7 _ => (k + m) - ((intOf s6).toNat + (intOf s7).toNat))
        case atStart => exact ⟨0, 0, [], Nat.zero_le _, Nat.zero_le _, rfl, rfl, Own.nil _ _ _, Lib.hid (by rw [List.drop_zero, List.drop_zero, List.nil_append]; exact HM.out), Lib.hid (.refl _ _)⟩
        case round =>
          obtain ⟨i, j, acc, hi, hj, rfl, rfl, hO, HACC, HB2⟩ := hrel
          obtain ⟨wo, rfl⟩ : ∃ wo : World, wo = wr := ⟨_, rfl⟩
          obtain ⟨ao, co, rfl⟩ := hO.shape
          have hal : acc.length + (k - i) + (m - j) = n := by
            have h1 := congrArg List.length HACC.out
            have h2 := congrArg List.length HM.out
            rw [List.length_append, mrg_length, List.length_drop, List.length_drop, HA.out, HB.out] at h1
            rw [mrg_length, HA.out, HB.out, ← h1] at h2
            have := HMK.out
            omega
          have hij1 : i ≤ 100000 := by have := HMK.out; omega
          have hij2 : j ≤ 100000 := by have := HMK.out; omega
          have HO := Lib.hid hO
          clear hO
          by_cases hik : i < k
          · obtain ⟨x, hx⟩ := lget_some A i (by rw [HA.out]; exact hik)
            obtain ⟨bx, ox, a1, n1, e1, m1, rfl, hv1, hu1, p0, p1⟩ := rowsD_at (HSA.out.old (Nat.le_refl _)) hx
            replace p0 := cell_keep HB2.out p0
            replace p1 := cell_keep HB2.out p1
            have HV1 := Lib.hid hv1
            have HU1 := Lib.hid hu1
            have HX := Lib.hid hx
            clear hv1 hu1
            obtain ⟨T, hT⟩ : ∃ T : Bool → Prop, T = fun q => if q = true then (acc ++ [x]) ++ mrg (A.drop (i + 1)) (B.drop j) = R else ∃ y, B[j]? = some y ∧ (acc ++ [y]) ++ mrg (A.drop i) (B.drop (j + 1)) = R := ⟨_, rfl⟩
            have HT := Lib.hid hT
            clear hT
            go_upto_region 7 with fail
            go_cut [56] from 35 to 56 (fun s56 wx => ∃ q : Bool, s56 = .bool q ∧ Hid (T q) ∧ Hid (Below wo.heap.size wo wx))
            case first =>
              by_cases hjm : j < m
              · obtain ⟨y, hy⟩ := lget_some B j (by rw [HB.out]; exact hjm)
                obtain ⟨yb, oy, a2, n2, e2, m2, rfl, hv2, hu2, q0, q1⟩ := rowsD_at (HSB.out.below HB2.out) hy
                have hv1 := HV1.out.below HB2.out
                have hu1 := HU1.out.below HB2.out
                have HLS := fun W (h : Below wo.heap.size wo W) => Lib.hid (less_any y x _ _ _ _ W (hv2.below h).free (hu2.below h).free (hv1.below h).free (hu1.below h).free)
                have HQ : Hid (T (!decide (cmpRow y x < 0))) := by
                  show T _
                  rw [HT.out]
                  by_cases hc : cmpRow y x < 0
                  · simp only [hc, decide_true, Bool.not_true, Bool.false_eq_true, if_false]
                    refine ⟨y, hy, ?_⟩
                    rw [← HACC.out, drop_get hx, drop_get hy, mrg_lt _ _ hc, List.append_assoc]
                    rfl
                  · simp only [hc, decide_false, Bool.not_false, if_true]
                    rw [← HACC.out, drop_get hx, drop_get hy, mrg_ge _ _ hc, List.append_assoc]
                    rfl
                obtain ⟨z, hz⟩ : ∃ z, z = decide (cmpRow y x < 0) := ⟨_, rfl⟩
                rw [← hz] at HLS HQ
                have hne : ((j : Int) == (m : Int)) = false := by rw [beq_eq_false_iff_ne]; omega
                have hbo : Below wo.heap.size wo wo := .refl _ _
                have hik' : (i : Int) < k := by omega
                have hjm' : (j : Int) < m := by omega
                clear hx hy hv1 hu1 hv2 hu2 hz
                go_region_held3 (fun W => Below wo.heap.size wo W ∧ W.cell? ⟨bx, ox + i * 2, none⟩ = some (.slice a1 x.vals.length n1) ∧ W.cell? ⟨bx, ox + i * 2 + 1, none⟩ = some (.slice e1 x.lin.length m1) ∧ W.cell? ⟨yb, oy + j * 2, none⟩ = some (.slice a2 y.vals.length n2) ∧ W.cell? ⟨yb, oy + j * 2 + 1, none⟩ = some (.slice e2 y.lin.length m2))
                  ((go_split_ands; refine ⟨?_, ?_, ?_, ?_, ?_⟩ <;> (first | with_reducible assumption | with_reducible exact Below.drew (by assumption) | with_reducible exact cell_drew (by assumption) | with_reducible exact cell_keep (by assumption) (by assumption) | with_reducible exact below_keep (by assumption) (by assumption))))
                  (first | (go_at_call 78; go_split_ands; refine (HLS _ (by first | assumption | exact Below.drew (by assumption))).out.mono ?_; rintro e' wS ⟨rfl, hbS⟩))
                all_goals (
                  go_split_ands
                  go_wp2_with fail
                  go_meet
                  exact ⟨_, rfl, HQ, Lib.hid (by assumption)⟩)
              · have hjm' : j = m := by omega
                subst hjm'
                have HQ : Hid (T true) := by
                  show T _
                  rw [HT.out]
                  show (if true = true then _ else _)
                  rw [if_pos rfl, ← HACC.out, List.drop_of_length_le (l := B) (by rw [HB.out]; exact Nat.le_refl _), mrg_nil, mrg_nil, drop_get hx, List.append_assoc]
                  rfl
                go_region
                all_goals (
                  go_wp2_with fail
                  go_meet
                  first
                    | exact ⟨_, rfl, HQ, Lib.hid (.refl _ _)⟩
                    | exact ⟨_, rfl, HQ, Lib.hid (Below.refl _ _).drew⟩
                    | exact ⟨_, rfl, HQ, Lib.hid (below_drewN (Below.refl _ _) _)⟩)
            case rest =>
              obtain ⟨q, rfl, HTQ, HBW⟩ := hcut
              have HOX := Lib.hid (HO.out.below HBW.out)
              have HBX : Hid (Below wB.heap.size wB wc) := Lib.hid (HB2.out.trans (HBW.out.mono HB2.out.size))
              cases q
              · have hT := HTQ.out
                rw [HT.out] at hT
                replace hT : ∃ y, B[j]? = some y ∧ (acc ++ [y]) ++ mrg (A.drop i) (B.drop (j + 1)) = R := hT
                obtain ⟨y, hy, hnx⟩ := hT
                have HNX := Lib.hid hnx
                clear hnx hx p0 p1 HV1 HU1 HX HTQ HT
                obtain ⟨yb, oy, a2, n2, e2, m2, rfl, hv2, hu2, q0, q1⟩ := rowsD_at (HSB.out.old (Nat.le_refl _)) hy
                replace q0 := cell_keep HBX.out q0
                replace q1 := cell_keep HBX.out q1
                have hjm : (j : Int) < m := by have := (List.getElem?_eq_some_iff.1 hy).1; rw [HB.out] at this; omega
                have hjm2 : j < m := by omega
                have HIS : Hid (Els (rowE.avoid D) wc (fun jj => some jj = (Value.slice ao acc.length co).ownBlock) [y] [.slice a2 y.vals.length n2, .slice e2 y.lin.length m2]) := Lib.hid (Els.one ⟨_, _, rfl, (hv2.below HBX.out).mono (fun jj _ hh => hh.imp (fun hh => (HOX.out.lt jj hh.symm).1) id), (hu2.below HBX.out).mono (fun jj _ hh => hh.imp (fun hh => (HOX.out.lt jj hh.symm).1) id)⟩)
                clear hv2 hu2 hy
                go_wp2_with (at_builtin; refine wpList_push rfl (.tmp 66) (.tmp 71) 89 rfl (rowE.avoid D) Try.underlying89 wB.heap.size (.slice ao acc.length co) acc rfl HOX.out [y] #[.slice a2 y.vals.length n2, .slice e2 y.lin.length m2] HIS.out 1 1 rfl rfl (by decide) (by unfold maxLen; omega) (by show _ * 48 ≤ _; omega) HBX.out.size ?_; intro g cap w5 hP hPa)
                go_roundw
                case rel => exact ⟨i, j + 1, acc ++ [y], by omega, by omega, rfl, by go_num, hP.own' (by simp), HNX, Lib.hid (HBX.out.trans hP.below)⟩
                case measure => simp [intOf]; omega
              · have hT := HTQ.out
                rw [HT.out] at hT
                replace hT : (acc ++ [x]) ++ mrg (A.drop (i + 1)) (B.drop j) = R := hT
                have HNX := Lib.hid hT
                replace p0 := cell_keep HBW.out p0
                replace p1 := cell_keep HBW.out p1
                have hik' : (i : Int) < k := by omega
                have HIS : Hid (Els (rowE.avoid D) wc (fun jj => some jj = (Value.slice ao acc.length co).ownBlock) [x] [.slice a1 x.vals.length n1, .slice e1 x.lin.length m1]) := Lib.hid (Els.one ⟨_, _, rfl, (HV1.out.below HBX.out).mono (fun jj _ hh => hh.imp (fun hh => (HOX.out.lt jj hh.symm).1) id), (HU1.out.below HBX.out).mono (fun jj _ hh => hh.imp (fun hh => (HOX.out.lt jj hh.symm).1) id)⟩)
                clear hT hx HX HTQ HT
                go_wp2_with (at_builtin; refine wpList_push rfl (.tmp 57) (.tmp 62) 89 rfl (rowE.avoid D) Try.underlying89 wB.heap.size (.slice ao acc.length co) acc rfl HOX.out [x] #[.slice a1 x.vals.length n1, .slice e1 x.lin.length m1] HIS.out 1 1 rfl rfl (by decide) (by unfold maxLen; omega) (by show _ * 48 ≤ _; omega) HBX.out.size ?_; intro g cap w5 hP hPa)
                go_roundw
                case rel => exact ⟨i + 1, j, acc ++ [x], by omega, hj, by go_num, rfl, hP.own' (by simp), HNX, Lib.hid (HBX.out.trans hP.below)⟩
                case measure => simp [intOf]; omega
          · have hik0 : i = k := by omega
            subst hik0
            by_cases hjm0 : j < m
            · obtain ⟨y, hy⟩ := lget_some B j (by rw [HB.out]; exact hjm0)
              have HNX : Hid ((acc ++ [y]) ++ mrg (A.drop i) (B.drop (j + 1)) = R) := by
                show _ = _
                rw [← HACC.out, List.drop_of_length_le (l := A) (by rw [HA.out]; exact Nat.le_refl _), mrg_nil', mrg_nil', drop_get hy, List.append_assoc]
                rfl
              have hne : ((j : Int) == (m : Int)) = false := by rw [beq_eq_false_iff_ne]; omega
              have hjm1 : (j : Int) < m := by omega
              go_upto_region 7 with fail
              go_cut [56] from 35 to 56 (fun s56 wx => s56 = .bool false ∧ Hid (Below wo.heap.size wo wx))
              case first =>
                go_region
                all_goals (
                  go_wp2_with fail
                  go_meet
                  first
                    | exact ⟨rfl, Lib.hid (.refl _ _)⟩
                    | exact ⟨rfl, Lib.hid (Below.refl _ _).drew⟩
                    | exact ⟨rfl, Lib.hid (below_drewN (Below.refl _ _) _)⟩)
              case rest =>
                obtain ⟨rfl, HBW⟩ := hcut
                have HOX := Lib.hid (HO.out.below HBW.out)
                have HBX : Hid (Below wB.heap.size wB wc) := Lib.hid (HB2.out.trans (HBW.out.mono HB2.out.size))
                obtain ⟨yb, oy, a2, n2, e2, m2, rfl, hv2, hu2, q0, q1⟩ := rowsD_at (HSB.out.old (Nat.le_refl _)) hy
                replace q0 := cell_keep HBX.out q0
                replace q1 := cell_keep HBX.out q1
                have hjm : (j : Int) < m := by have := (List.getElem?_eq_some_iff.1 hy).1; rw [HB.out] at this; omega
                have hjm2 : j < m := by omega
                have HIS : Hid (Els (rowE.avoid D) wc (fun jj => some jj = (Value.slice ao acc.length co).ownBlock) [y] [.slice a2 y.vals.length n2, .slice e2 y.lin.length m2]) := Lib.hid (Els.one ⟨_, _, rfl, (hv2.below HBX.out).mono (fun jj _ hh => hh.imp (fun hh => (HOX.out.lt jj hh.symm).1) id), (hu2.below HBX.out).mono (fun jj _ hh => hh.imp (fun hh => (HOX.out.lt jj hh.symm).1) id)⟩)
                clear hv2 hu2 hy
                go_wp2_with (at_builtin; refine wpList_push rfl (.tmp 66) (.tmp 71) 89 rfl (rowE.avoid D) Try.underlying89 wB.heap.size (.slice ao acc.length co) acc rfl HOX.out [y] #[.slice a2 y.vals.length n2, .slice e2 y.lin.length m2] HIS.out 1 1 rfl rfl (by decide) (by unfold maxLen; omega) (by show _ * 48 ≤ _; omega) HBX.out.size ?_; intro g cap w5 hP hPa)
                go_roundw
                case rel => exact ⟨i, j + 1, acc ++ [y], by omega, by omega, rfl, by go_num, hP.own' (by simp), HNX, Lib.hid (HBX.out.trans hP.below)⟩
                case measure => simp [intOf]; omega
            · have hjm1 : j = m := by omega
              subst hjm1
              have HE : Hid (acc = R) := by
                show _ = _
                rw [← HACC.out, List.drop_of_length_le (l := A) (by rw [HA.out]; exact Nat.le_refl _), List.drop_of_length_le (l := B) (by rw [HB.out]; exact Nat.le_refl _), mrg_nil', List.append_nil]
              go_wp2_with fail
              go_ret
              exact ⟨_, rfl, HE.out ▸ HO.out.mono HBB.out.size, HBB.out.trans (HB2.out.mono HBB.out.size)⟩)
theorem refSort_all (n : Nat) (hn : n ≤ 100000) (v : Value) (l : List GRow) (w : World) (hl : l.length = n) (hv : Sl rowE w free v l) : Calls Try.prog 62 #[v] w (RetOwn rowE w (sortR l)) :=
  (refSort_g n hn v l w hl hv.toD).mono fun _ _ h => h.forget
end Go.Proofs.Ytfmbbfidjcgeiaa

namespace Go.Proofs.Ytfmbbfidjcgeiaa
open Go.RowKit Go.Lib

set_option maxHeartbeats 1000000 in
theorem rincl_any (lo hi t : Int) (w : World) : Calls Try.prog 61 #[.agg #[.int .i64 lo, .int .i64 hi], .int .i64 t] w fun e w' => e = .returned (.bool (pincl lo hi t)) ∧ Below w.heap.size w w' := by
  have HR : Hid (pincl lo hi t = (pvalid lo hi && (decide (lo ≤ t) && decide (t < hi)))) := Lib.hid rfl
  have HV := fun W => Lib.hid (rprd_valid lo hi W)
  generalize pvalid lo hi = q at HR HV
  generalize pincl lo hi t = r at HR ⊢
  have hg := World.alloc_heap_new w (.cells #[.int .i64 lo, .int .i64 hi] 48)
  go_enter Try.func61, Try.ntmps61
  go_wp2_with fail
  refine (HV _).out.mono ?_
  rintro _ w2 ⟨rfl, hb⟩
  have hk := box_kept hg hb
  obtain ⟨d0, d1, _, _⟩ := box_two hk
  have HB := Lib.hid (below_alloc2' hb)
  clear hb hk hg
  cases q
  · go_wp2_with fail
    go_ret
    exact ⟨ret_bool (by rw [HR.out]; rfl), HB.out⟩
  · by_cases h1 : lo ≤ t
    · by_cases h2 : t < hi
      · go_wp2_with fail
        go_ret
        exact ⟨ret_bool (by rw [HR.out]; simp; omega), HB.out⟩
      · go_wp2_with fail
        go_ret
        exact ⟨ret_bool (by rw [HR.out]; simp; omega), HB.out⟩
    · go_wp2_with fail
      go_ret
      exact ⟨ret_bool (by rw [HR.out]; simp; omega), HB.out⟩
set_option maxHeartbeats 4000000 in
set_option maxRecDepth 100000 in
theorem rtimeslice_g {D : Nat → Prop} (v : Value) (l : List Tup) (t : Int) (w : World) (hv : Sl (tupE.avoid D) w free v l) (hl : l.length ≤ 100000) (hs : ∀ x ∈ l, x.vals.length ≤ 1000 ∧ x.lin.length ≤ 1000) :
    Calls Try.prog 40 #[v, .int .i64 t] w (RetOwn (rowE.avoid D) w (sortR (atDay l t))) := by
  obtain ⟨a, c, rfl⟩ := hv.shape
  have h63 := hv.1
  have HV := Lib.hid hv
  have HS := Lib.hid (atDay_small hs t)
  obtain ⟨n, hn⟩ : ∃ n, n = l.length := ⟨_, rfl⟩
  have HN := Lib.hid hn
  rw [← hn] at HV h63 hl ⊢
  clear hv hn hs
  go_enter Try.func40, Try.ntmps40
  go_wp2_with fail
  go_loopw [10, 5] (fun i o wr => ∃ k : Nat, k ≤ n ∧ i = .int .i64 k ∧ Own (rowE.avoid D) wr w.heap.size o (atDay (l.take k) t) ∧ Hid (Below w.heap.size w wr)) (fun i _ _ => n - (RowKit.intOf i).toNat)
  case atStart => exact ⟨0, Nat.zero_le _, rfl, Own.nil _ _ _, Lib.hid (.refl _ _)⟩
  case round =>
    obtain ⟨k, hk, rfl, hO, HB⟩ := hrel
    obtain ⟨wo, rfl⟩ : ∃ wo : World, wo = wr := ⟨_, rfl⟩
    by_cases hlt : k < n
    · obtain ⟨x, hx⟩ := lget_some l k (by rw [← HN.out]; exact hlt)
      obtain ⟨b, o, a1, n1, e1, m1, rfl, hvv, hll, p0, p1, p2, p3⟩ := tupsD_at (HV.out.old (Nat.le_refl _)) hx
      replace p0 := cell_keep HB.out p0
      replace p1 := cell_keep HB.out p1
      replace p2 := cell_keep HB.out p2
      replace p3 := cell_keep HB.out p3
      have HT : Hid (atDay (l.take (k + 1)) t = atDay (l.take k) t ++ if pincl x.lo x.hi t = true then [⟨x.vals, x.lin⟩] else []) := by show _ = _; rw [take_get hx, atDay_snoc]
      obtain ⟨lk, hlke⟩ : ∃ lk, lk = atDay (l.take k) t := ⟨_, rfl⟩
      have hlk : lk.length ≤ 100000 := by rw [hlke]; exact Nat.le_trans (atDay_len _ _) (by rw [List.length_take]; omega)
      rw [← hlke] at hO HT
      obtain ⟨ao, co, rfl⟩ := hO.shape
      obtain ⟨xv, xlo, xhi, xl⟩ := x
      dsimp only at p0 p1 p2 p3 hvv hll HT
      obtain ⟨q, hq⟩ : ∃ q, q = pincl xlo xhi t := ⟨_, rfl⟩
      have HI := fun W => Lib.hid (rincl_any xlo xhi t W)
      rw [← hq] at HT HI
      have HVV := Lib.hid hvv
      have HLL := Lib.hid hll
      have hg := World.alloc_heap_new wo (.cells #[.slice a1 xv.length n1, .int .i64 xlo, .int .i64 xhi, .slice e1 xl.length m1] 51)
      have HB1 : Hid (Below w.heap.size w (wo.alloc (.cells #[.slice a1 xv.length n1, .int .i64 xlo, .int .i64 xhi, .slice e1 xl.length m1] 51))) := Lib.hid (below_alloc_keep HB.out)
      have HO1 := Lib.hid (hO.below (below_alloc wo (.cells #[.slice a1 xv.length n1, .int .i64 xlo, .int .i64 xhi, .slice e1 xl.length m1] 51)))
      have HG := Lib.hid hg
      clear hx hvv hll hO hlke hq hg
      go_wp2_with fail
      refine (HI _).out.mono ?_
      rintro _ w3 ⟨rfl, hb3⟩
      obtain ⟨⟨d0, d1, d2, d3⟩, _, _, _, _⟩ := box_four (box_kept HG.out hb3)
      have HB3 : Hid (Below w.heap.size w w3) := Lib.hid (below_keep HB1.out hb3)
      have HO3 := Lib.hid (HO1.out.below hb3)
      clear hb3 HG HB1 HO1 HI
      cases q
      · have HT' : Hid (atDay (l.take (k + 1)) t = lk) := by show _ = _; rw [HT.out, if_neg (by decide), List.append_nil]
        go_wp2_with fail
        go_roundw
        case rel => exact ⟨k + 1, by omega, by go_num, by rw [HT'.out]; exact HO3.out, HB3⟩
        case measure => simp [RowKit.intOf]; omega
      · have HT' : Hid (atDay (l.take (k + 1)) t = lk ++ [⟨xv, xl⟩]) := by show _ = _; rw [HT.out, if_pos rfl]
        have HIS : Hid (Els (rowE.avoid D) w3 (fun j => some j = (Value.slice ao lk.length co).ownBlock) [⟨xv, xl⟩] [.slice a1 xv.length n1, .slice e1 xl.length m1]) := Lib.hid (Els.one ⟨_, _, rfl, (HVV.out.below HB3.out).mono (fun j _ hj => hj.imp (fun hj => (HO3.out.lt j hj.symm).1) id), (HLL.out.below HB3.out).mono (fun j _ hj => hj.imp (fun hj => (HO3.out.lt j hj.symm).1) id)⟩)
        go_wp2_with (at_builtin; refine wpList_push rfl (.tmp 18) (.tmp 24) 89 rfl (rowE.avoid D) Try.underlying89 w.heap.size (.slice ao lk.length co) lk rfl HO3.out [⟨xv, xl⟩] #[.slice a1 xv.length n1, .slice e1 xl.length m1] HIS.out 1 1 rfl rfl (by decide) (by unfold maxLen; omega) (by show _ * 48 ≤ _; omega) HB3.out.size ?_; intro g cap w5 hP hPa)
        go_roundw
        case rel => exact ⟨k + 1, by omega, by go_num, by rw [HT'.out]; exact hP.own' (by simp), Lib.hid (HB3.out.trans hP.below)⟩
        case measure => simp [RowKit.intOf]; omega
    · have hkk : l.take k = l := List.take_of_length_le (by rw [← HN.out]; omega)
      rw [hkk] at hO
      obtain ⟨ao, co, rfl⟩ := hO.shape
      have HSR := Lib.hid (refSort_g _ (Nat.le_trans (atDay_len _ _) (by rw [← HN.out]; exact hl)) _ (atDay l t) wo rfl hO.sl)
      clear hO hkk
      go_wp2_with fail
      refine HSR.out.mono ?_
      rintro _ w2 ⟨vo, rfl, hO2, hb2⟩
      obtain ⟨ao2, co2, rfl⟩ := hO2.shape
      have HO2 := Lib.hid (hO2.mono HB.out.size)
      have HB2 := Lib.hid (below_keep HB.out hb2)
      clear hO2 hb2
      go_wp2_with fail
      go_ret
      exact ⟨_, rfl, HO2.out, HB2.out⟩
theorem rtimeslice_any (v : Value) (l : List Tup) (t : Int) (w : World) (hv : Tups w v l) (hl : l.length ≤ 100000) (hs : ∀ x ∈ l, x.vals.length ≤ 1000 ∧ x.lin.length ≤ 1000) :
    Calls Try.prog 40 #[v, .int .i64 t] w (RetOwn rowE w (sortR (atDay l t))) :=
  (rtimeslice_g v l t w hv.toD hl hs).mono fun _ _ h => h.forget
end Go.Proofs.Ytfmbbfidjcgeiaa
