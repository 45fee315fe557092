/- A part of the proofs: TrQ, TrR, Aw8, Wtp, Open8, Wtc. No condition beside sizes and tables that read as laid. -/
import Derived.Test.YtfmbbfidjcgeiaaMgAe
import Derived.Test.YtfmbbfidjcgeiaaMgAa
import Derived.Test.YtfmbbfidjcgeiaaMgAb
namespace Go.Proofs.Ytfmbbfidjcgeiaa
open Go.RowKit Go.Lib Go.Shelf

/-- A node in a box of its own. -/
def BoxN (W : World) (b : Nat) (d : Nd) : Prop := W.heap[b]? = some (.cells #[.int .i64 (hiW d.s), .int .u64 (loW d.s), .int .i64 d.mn, .int .i64 d.mx] 74)
theorem BoxN.cells {W : World} {b : Nat} {d : Nd} (h : BoxN W b d) :
    (W.cell? ⟨b, 0, none⟩ = some (.int .i64 (hiW d.s)) ∧ W.cell? ⟨b, 1, none⟩ = some (.int .u64 (loW d.s)) ∧ W.cell? ⟨b, 2, none⟩ = some (.int .i64 d.mn) ∧ W.cell? ⟨b, 3, none⟩ = some (.int .i64 d.mx)) ∧
    W.frozen? ⟨b, 0, none⟩ = false ∧ W.frozen? ⟨b, 1, none⟩ = false ∧ W.frozen? ⟨b, 2, none⟩ = false ∧ W.frozen? ⟨b, 3, none⟩ = false := box4 h
theorem BoxN.below {W W' : World} {b : Nat} {d : Nd} (h : BoxN W b d) (hb : Below W.heap.size W W') : BoxN W' b d := box_kept h hb
theorem BoxN.set {W : World} {b : Nat} {d : Nd} (h : BoxN W b d) (y : Nd) :
    BoxN ((((W.setCell ⟨b, 0, none⟩ (.int .i64 (hiW y.s))).setCell ⟨b, 1, none⟩ (.int .u64 (loW y.s))).setCell ⟨b, 2, none⟩ (.int .i64 y.mn)).setCell ⟨b, 3, none⟩ (.int .i64 y.mx)) b y := by
  have h1 := heap_setCell_same W b 0 _ _ (.int .i64 (hiW y.s)) h
  have h2 := heap_setCell_same _ b 1 _ _ (.int .u64 (loW y.s)) h1
  have h3 := heap_setCell_same _ b 2 _ _ (.int .i64 y.mn) h2
  have h4 := heap_setCell_same _ b 3 _ _ (.int .i64 y.mx) h3
  exact h4
theorem BoxN.other {W : World} {b c : Nat} {d : Nd} (h : BoxN W b d) (hc : b ≠ c) (v0 v1 v2 v3 : Value) :
    BoxN ((((W.setCell ⟨c, 0, none⟩ v0).setCell ⟨c, 1, none⟩ v1).setCell ⟨c, 2, none⟩ v2).setCell ⟨c, 3, none⟩ v3) b d := by
  unfold BoxN
  rw [heap_setCell_other _ _ _ _ hc, heap_setCell_other _ _ _ _ hc, heap_setCell_other _ _ _ _ hc, heap_setCell_other _ _ _ _ hc]
  exact h
theorem heap_set4 {W : World} {k c : Nat} {o : Obj} (h : W.heap[k]? = some o) (hc : k ≠ c) (v0 v1 v2 v3 : Value) : ((((W.setCell ⟨c, 0, none⟩ v0).setCell ⟨c, 1, none⟩ v1).setCell ⟨c, 2, none⟩ v2).setCell ⟨c, 3, none⟩ v3).heap[k]? = some o := by
  rw [heap_setCell_other _ _ _ _ hc, heap_setCell_other _ _ _ _ hc, heap_setCell_other _ _ _ _ hc, heap_setCell_other _ _ _ _ hc]
  exact h
/-- While a box grows by a node: what stays. -/
structure QS (w : World) (B p g n bx : Nat) (nd : List Nd) (W : World) : Prop where
  below : Below w.heap.size w W
  tree : TreeAt W B p g nd n
  box : ∃ d, BoxN W bx d
section
variable {w W W' : World} {B p g n bx : Nat} {nd : List Nd}
theorem QS.keep (h : QS w B p g n bx nd W) (hb : Below W.heap.size W W') : QS w B p g n bx nd W' := by
  obtain ⟨d, hd⟩ := h.box
  exact ⟨below_keep h.below hb, h.tree.below hb, d, hd.below hb⟩
theorem QS.drew (h : QS w B p g n bx nd W) : QS w B p g n bx nd W.drew := h.keep (Below.refl _ _).drew
theorem QS.set (h : QS w B p g n bx nd W) (hb : w.heap.size ≤ bx) (hp : p < w.heap.size) (hg : g < w.heap.size) (y : Nd) :
    QS w B p g n bx nd ((((W.setCell ⟨bx, 0, none⟩ (.int .i64 (hiW y.s))).setCell ⟨bx, 1, none⟩ (.int .u64 (loW y.s))).setCell ⟨bx, 2, none⟩ (.int .i64 y.mn)).setCell ⟨bx, 3, none⟩ (.int .i64 y.mx)) := by
  obtain ⟨d, hd⟩ := h.box
  exact ⟨below_set4 h.below hb hb hb hb, h.tree.kept (kept_set4 (G := fun m => m = bx) rfl rfl rfl rfl) (by omega) (by omega), y, hd.set y⟩
theorem QS.facts (h : QS w B p g n bx nd W) {k : Nat} {x : Nd} (hx : nd[k]? = some x) :
    W.cell? ⟨p, 0, none⟩ = some (.int .i64 (n : Int)) ∧ W.cell? ⟨p, 1, none⟩ = some (.slice (some ⟨g, 0, none⟩) (2 * n) (2 * n)) ∧
    W.cell? ⟨g, k * 4, none⟩ = some (.int .i64 (hiW x.s)) ∧ W.cell? ⟨g, k * 4 + 1, none⟩ = some (.int .u64 (loW x.s)) ∧ W.cell? ⟨g, k * 4 + 2, none⟩ = some (.int .i64 x.mn) ∧ W.cell? ⟨g, k * 4 + 3, none⟩ = some (.int .i64 x.mx) :=
  ⟨h.tree.c0, h.tree.c1, h.tree.node hx⟩
end
def NodeRet (w : World) (ok : Bool) (P : Nd → Prop) (e : Ending) (w' : World) : Prop := ∃ d, e = .returned (.tuple #[nodeV d, .bool ok]) ∧ P d ∧ Below w.heap.size w w'
set_option maxHeartbeats 4000000 in
theorem query_no {B p g n : Nat} {nd : List Nd} (f t : Int) (w : World) (hT : TreeAt w B p g nd n) (h : f < 0 ∨ t ≤ f ∨ (n : Int) < t) :
    Calls Try.prog 30 #[.pointer (some ⟨p, 0, none⟩), .int .i64 f, .int .i64 t] w (NodeRet w false fun d => d.mn = 0 ∧ d.mx = 0) := by
  have HL := fun W (hb : Below w.heap.size w W) => Lib.hid (len_tree W (hT.below hb))
  have hn : Hid (nodeV nd0 = .agg #[.int .i64 0, .int .u64 0, .int .i64 0, .int .i64 0]) := Lib.hid (by unfold nodeV nd0 hiW loW; simp)
  have HB0 := Lib.hid (below_alloc w (.cells #[.int .i64 0, .int .u64 0, .int .i64 0, .int .i64 0] 74))
  by_cases h1 : f < 0
  · go_enter Try.func30, Try.ntmps30
    go_wp2_with fail
    exact bodyPost_ret (v := .tuple #[.agg #[.int .i64 0, .int .u64 0, .int .i64 0, .int .i64 0], .bool false]) (by simp [results, Try.results30, go_sem]) rfl ⟨nd0, by rw [hn.out], ⟨rfl, rfl⟩, HB0.out⟩
  · by_cases h2 : t ≤ f
    · go_enter Try.func30, Try.ntmps30
      go_wp2_with fail
      exact bodyPost_ret (v := .tuple #[.agg #[.int .i64 0, .int .u64 0, .int .i64 0, .int .i64 0], .bool false]) (by simp [results, Try.results30, go_sem]) rfl ⟨nd0, by rw [hn.out], ⟨rfl, rfl⟩, HB0.out⟩
    · have h3 : (n : Int) < t := by omega
      have h4 : f < t := by omega
      clear h
      go_enter Try.func30, Try.ntmps30
      go_wp2_with (refine (HL _ HB0.out).out.mono ?_; rintro _ _ ⟨rfl, rfl⟩)
      exact bodyPost_ret (v := .tuple #[.agg #[.int .i64 0, .int .u64 0, .int .i64 0, .int .i64 0], .bool false]) (by simp [results, Try.results30, go_sem]) rfl ⟨nd0, by rw [hn.out], ⟨rfl, rfl⟩, HB0.out⟩
theorem sm_wok {a : List Int} {L : List Nat} {d : Nd} (h : Sm (L.map (elt a)) d) (hq : Num64 a) (hl : L.length ≤ 200) : Wok d.s := by
  have hb := sumI_bound (q := 9223372036854775808) (l := L.map (elt a)) fun x hx => by
    obtain ⟨k, _, rfl⟩ := List.mem_map.1 hx
    exact elt_bound (by omega) (fun x hx => by have := hq x hx; omega) k
  rw [← h.s, List.length_map] at hb
  have hl' : (L.length : Int) ≤ 400 := by omega
  have hb2 : 9223372036854775808 * (L.length : Int) ≤ 9223372036854775808 * 400 := Int.mul_le_mul_of_nonneg_left hl' (by omega)
  unfold Wok
  omega
def QIs (n f t : Nat) (a : List Int) (d : Nd) (lo hi : Nat) : Prop := ∃ L, QI n f t L lo hi ∧ Sm (L.map (elt a)) d
theorem QIs.left {n f t lo hi : Nat} {a : List Int} {nd : List Nd} {d e : Nd} (h : QIs n f t a d lo hi) (hn : a.length = n) (hN : TreeN a nd) (hlt : lo < hi) (he : nd[lo]? = some e) (hl : lo < 2 * n) (hq : Num64 a) (hl2 : n ≤ 200) (ht : t ≤ n) : QIs n f t a (mergeN d e) (lo + 1) hi ∧ Wok d.s ∧ Wok e.s := by
  obtain ⟨L, h1, h2⟩ := h
  obtain ⟨e', he', se⟩ := hN.2 lo h1.2.1 (by omega)
  rw [he] at he'
  cases he'
  have ok : NdOk a nd lo := ⟨e, he, se⟩
  refine ⟨⟨_, h1.left hlt, ?_⟩, sm_wok h2 hq (by have := h1.len; omega), ok.wok he hq (by omega) h1.2.1 (by omega)⟩
  rw [List.map_append]
  rw [hn] at se
  exact h2.merge se
theorem QIs.right {n f t lo hi : Nat} {a : List Int} {nd : List Nd} {d e : Nd} (h : QIs n f t a d lo hi) (hn : a.length = n) (hN : TreeN a nd) (hlt : lo < hi) (he : nd[hi - 1]? = some e) (hq : Num64 a) (hl2 : n ≤ 200) (ht : t ≤ n) : QIs n f t a (mergeN d e) lo (hi - 1) ∧ Wok d.s ∧ Wok e.s := by
  obtain ⟨L, h1, h2⟩ := h
  have h4 := h1.2.2.2
  have h5 := h1.2.1
  obtain ⟨e', he', se⟩ := hN.2 (hi - 1) (by omega) (by omega)
  rw [he] at he'
  cases he'
  have ok : NdOk a nd (hi - 1) := ⟨e, he, se⟩
  refine ⟨⟨_, h1.right hlt, ?_⟩, sm_wok h2 hq (by have := h1.len; omega), ok.wok he hq (by omega) (by omega) (by omega)⟩
  rw [List.map_append]
  rw [hn] at se
  exact h2.merge se
theorem QIs.half {n f t x y : Nat} {a : List Int} {d : Nd} (h : QIs n f t a d (2 * x) (2 * y)) : QIs n f t a d x y := by
  obtain ⟨L, h1, h2⟩ := h
  exact ⟨L, h1.half, h2⟩
theorem QIs.done {n f t lo hi : Nat} {a : List Int} {d : Nd} (h : QIs n f t a d lo hi) (hl : hi ≤ lo) : Sm (elts a f t) d := by
  obtain ⟨L, h1, h2⟩ := h
  exact h2.perm ((h1.done hl).map _)
theorem QIs.start {n f t : Nat} {a : List Int} {nd : List Nd} {d : Nd} (hn : a.length = n) (hN : TreeN a nd) (h : f < t) (ht : t ≤ n) (hd : nd[n + f]? = some d) : QIs n f t a d (n + f + 1) (n + t) := by
  refine ⟨[f], QI.start h ht, ?_⟩
  obtain ⟨e', he', se⟩ := hN.2 (n + f) (by omega) (by omega)
  rw [hd] at he'
  cases he'
  rw [lvs_leaf (by omega), show n + f - a.length = f by omega] at se
  exact se
theorem QIs.bound {n f t lo hi : Nat} {a : List Int} {d : Nd} (h : QIs n f t a d lo hi) : 1 ≤ lo ∧ hi ≤ 2 * n := by
  obtain ⟨L, h1, h2⟩ := h
  exact ⟨h1.2.1, h1.2.2.2⟩
set_option maxHeartbeats 8000000 in
set_option maxRecDepth 100000 in
theorem query_yes {B p g n : Nat} {a : List Int} {nd : List Nd} (f t : Nat) (w : World) (hT : TreeAt w B p g nd n) (hN : TreeN a nd) (hn : a.length = n) (hq : Num64 a) (hl : n ≤ 200) (h : f < t) (ht : t ≤ n) :
    Calls Try.prog 30 #[.pointer (some ⟨p, 0, none⟩), .int .i64 (f : Int), .int .i64 (t : Int)] w (NodeRet w true fun d => Sm (elts a f t) d) := by
  have HL := fun W (hb : Below w.heap.size w W) => Lib.hid (len_tree W (hT.below hb))
  obtain ⟨m, hm⟩ : ∃ m, m = n + f := ⟨_, rfl⟩
  obtain ⟨d0, hd0⟩ := lget_some nd m (by rw [hT.len]; omega)
  have HD0 := Lib.hid hd0
  have HQ0 : Hid (QIs n f t a d0 (m + 1) (n + t)) := Lib.hid (by rw [hm] at hd0 ⊢; exact QIs.start hn hN h ht hd0)
  have hpl := hT.lt
  have hgl := hT.baseg.2
  have HT := Lib.hid hT
  have HN := Lib.hid hN
  have HNL := Lib.hid hn
  have HNQ := Lib.hid hq
  have hm3 : (m : Int) < 2 * (n : Int) := by omega
  have hw1 : IntKind.i64.wrap ((n : Int) + (f : Int)) = (m : Int) := by rw [IntWalk.i64_in _ (by omega)]; omega
  clear hT hN hn hq hd0 hm
  go_enter Try.func30, Try.ntmps30
  have HB0 := Lib.hid (below_alloc w (.cells #[.int .i64 0, .int .u64 0, .int .i64 0, .int .i64 0] 74))
  have hbx0 := World.alloc_heap_new w (.cells #[.int .i64 0, .int .u64 0, .int .i64 0, .int .i64 0] 74)
  obtain ⟨wb, hwb⟩ : ∃ wb, wb = w.alloc (.cells #[.int .i64 0, .int .u64 0, .int .i64 0, .int .i64 0] 74) := ⟨_, rfl⟩
  go_upto_region 3 with (refine (HL _ HB0.out).out.mono ?_; rintro _ _ ⟨rfl, rfl⟩)
  rw [← hwb] at HB0 hbx0 ⊢
  have hzb : wb.heap.size = w.heap.size + 1 := by rw [hwb]; simp
  have HZB := Lib.hid hzb
  have HTB := Lib.hid (HT.out.below HB0.out)
  have HBX0 := Lib.hid hbx0
  clear hwb hzb hbx0 HL
  refine wp_region_held_drew (S := fun W => Below w.heap.size w W ∧ TreeAt W B p g nd n) (by kernel_rfl) ⟨HB0.out.drew, HTB.out.below (Below.refl _ _).drew⟩ (fun hHeld => ?_)
  refine take_y (i := 0) (d := some 25) (v := ?_) rfl rfl (by kernel_rfl) (by kernel_rfl) (by kernel_rfl) (fun _ _ _ h => h) (by assumption) ?_ ?_
  rotate_left
  · intro oi ho
    simp only [List.getElem?_toArray, List.getElem?_cons_zero, Option.some.injEq] at ho
    subst ho
    intro w hSw
    obtain ⟨e2, e3, e4, e5⟩ := hSw.2.node HD0.out
    have e0 := hSw.2.c0
    have e1 := hSw.2.c1
    go_simp
    (try with_reducible rfl)
  (try simp only [Act.put, List.setIfInBounds_toArray, List.set_cons_zero, List.set_cons_succ])
  refine take_y (i := 1) (d := some 26) (v := ?_) rfl rfl (by kernel_rfl) (by kernel_rfl) (by kernel_rfl) (fun _ _ _ h => h) (by assumption) ?_ ?_
  rotate_left
  · intro oi ho
    simp only [List.getElem?_toArray, List.getElem?_cons_succ, List.getElem?_cons_zero, Option.some.injEq] at ho
    subst ho
    intro w hSw
    obtain ⟨e2, e3, e4, e5⟩ := hSw.2.node HD0.out
    have e0 := hSw.2.c0
    have e1 := hSw.2.c1
    go_simp
    (try with_reducible rfl)
  (try simp only [Act.put, List.setIfInBounds_toArray, List.set_cons_zero, List.set_cons_succ])
  refine take_y (i := 2) (d := some 27) (v := ?_) rfl rfl (by kernel_rfl) (by kernel_rfl) (by kernel_rfl) (fun _ _ _ h => h) (by assumption) ?_ ?_
  rotate_left
  · intro oi ho
    simp only [List.getElem?_toArray, List.getElem?_cons_succ, List.getElem?_cons_zero, Option.some.injEq] at ho
    subst ho
    intro w hSw
    obtain ⟨e2, e3, e4, e5⟩ := hSw.2.node HD0.out
    have e0 := hSw.2.c0
    have e1 := hSw.2.c1
    go_simp
    (try with_reducible rfl)
  (try simp only [Act.put, List.setIfInBounds_toArray, List.set_cons_zero, List.set_cons_succ])
  refine take_y (i := 3) (d := some 28) (v := ?_) rfl rfl (by kernel_rfl) (by kernel_rfl) (by kernel_rfl) (fun _ _ _ h => h) (by assumption) ?_ ?_
  rotate_left
  · intro oi ho
    simp only [List.getElem?_toArray, List.getElem?_cons_succ, List.getElem?_cons_zero, Option.some.injEq] at ho
    subst ho
    intro w hSw
    obtain ⟨e2, e3, e4, e5⟩ := hSw.2.node HD0.out
    have e0 := hSw.2.c0
    have e1 := hSw.2.c1
    go_simp
    (try with_reducible rfl)
  (try simp only [Act.put, List.setIfInBounds_toArray, List.set_cons_zero, List.set_cons_succ])
  refine take_y (i := 4) (d := some 29) (v := ?_) rfl rfl (by kernel_rfl) (by kernel_rfl) (by kernel_rfl) (fun _ _ _ h => h) (by assumption) ?_ ?_
  rotate_left
  · intro oi ho
    simp only [List.getElem?_toArray, List.getElem?_cons_succ, List.getElem?_cons_zero, Option.some.injEq] at ho
    subst ho
    intro w hSw
    obtain ⟨e2, e3, e4, e5⟩ := hSw.2.node HD0.out
    have e0 := hSw.2.c0
    have e1 := hSw.2.c1
    go_simp
    (try with_reducible rfl)
  (try simp only [Act.put, List.setIfInBounds_toArray, List.set_cons_zero, List.set_cons_succ])
  refine take_y (i := 5) (d := some 30) (v := ?_) rfl rfl (by kernel_rfl) (by kernel_rfl) (by kernel_rfl) (fun _ _ _ h => h) (by assumption) ?_ ?_
  rotate_left
  · intro oi ho
    simp only [List.getElem?_toArray, List.getElem?_cons_succ, List.getElem?_cons_zero, Option.some.injEq] at ho
    subst ho
    intro w hSw
    obtain ⟨e2, e3, e4, e5⟩ := hSw.2.node HD0.out
    have e0 := hSw.2.c0
    have e1 := hSw.2.c1
    go_simp
    (try with_reducible rfl)
  (try simp only [Act.put, List.setIfInBounds_toArray, List.set_cons_zero, List.set_cons_succ])
  refine take_y (i := 6) (d := some 31) (v := ?_) rfl rfl (by kernel_rfl) (by kernel_rfl) (by kernel_rfl) (fun _ _ _ h => h) (by assumption) ?_ ?_
  rotate_left
  · intro oi ho
    simp only [List.getElem?_toArray, List.getElem?_cons_succ, List.getElem?_cons_zero, Option.some.injEq] at ho
    subst ho
    intro w hSw
    obtain ⟨e2, e3, e4, e5⟩ := hSw.2.node HD0.out
    have e0 := hSw.2.c0
    have e1 := hSw.2.c1
    go_simp
    (try with_reducible rfl)
  (try simp only [Act.put, List.setIfInBounds_toArray, List.set_cons_zero, List.set_cons_succ])
  refine take_y (i := 7) (d := some 32) (v := ?_) rfl rfl (by kernel_rfl) (by kernel_rfl) (by kernel_rfl) (fun _ _ _ h => h) (by assumption) ?_ ?_
  rotate_left
  · intro oi ho
    simp only [List.getElem?_toArray, List.getElem?_cons_succ, List.getElem?_cons_zero, Option.some.injEq] at ho
    subst ho
    intro w hSw
    obtain ⟨e2, e3, e4, e5⟩ := hSw.2.node HD0.out
    have e0 := hSw.2.c0
    have e1 := hSw.2.c1
    go_simp
    (try with_reducible rfl)
  (try simp only [Act.put, List.setIfInBounds_toArray, List.set_cons_zero, List.set_cons_succ])
  refine take_y (i := 8) (d := some 33) (v := ?_) rfl rfl (by kernel_rfl) (by kernel_rfl) (by kernel_rfl) (fun _ _ _ h => h) (by assumption) ?_ ?_
  rotate_left
  · intro oi ho
    simp only [List.getElem?_toArray, List.getElem?_cons_succ, List.getElem?_cons_zero, Option.some.injEq] at ho
    subst ho
    intro w hSw
    obtain ⟨e2, e3, e4, e5⟩ := hSw.2.node HD0.out
    have e0 := hSw.2.c0
    have e1 := hSw.2.c1
    go_simp
    (try with_reducible rfl)
  (try simp only [Act.put, List.setIfInBounds_toArray, List.set_cons_zero, List.set_cons_succ])
  refine take_y (i := 9) (d := some 34) (v := ?_) rfl rfl (by kernel_rfl) (by kernel_rfl) (by kernel_rfl) (fun _ _ _ h => h) (by assumption) ?_ ?_
  rotate_left
  · intro oi ho
    simp only [List.getElem?_toArray, List.getElem?_cons_succ, List.getElem?_cons_zero, Option.some.injEq] at ho
    subst ho
    intro w hSw
    obtain ⟨e2, e3, e4, e5⟩ := hSw.2.node HD0.out
    have e0 := hSw.2.c0
    have e1 := hSw.2.c1
    go_simp
    (try with_reducible rfl)
  (try simp only [Act.put, List.setIfInBounds_toArray, List.set_cons_zero, List.set_cons_succ])
  refine take_y (i := 10) (d := some 35) (v := ?_) rfl rfl (by kernel_rfl) (by kernel_rfl) (by kernel_rfl) (fun _ _ _ h => h) (by assumption) ?_ ?_
  rotate_left
  · intro oi ho
    simp only [List.getElem?_toArray, List.getElem?_cons_succ, List.getElem?_cons_zero, Option.some.injEq] at ho
    subst ho
    intro w hSw
    obtain ⟨e2, e3, e4, e5⟩ := hSw.2.node HD0.out
    have e0 := hSw.2.c0
    have e1 := hSw.2.c1
    go_simp
    (try with_reducible rfl)
  (try simp only [Act.put, List.setIfInBounds_toArray, List.set_cons_zero, List.set_cons_succ])
  refine take_y (i := 11) (d := some 36) (v := ?_) rfl rfl (by kernel_rfl) (by kernel_rfl) (by kernel_rfl) (fun _ _ _ h => h) (by assumption) ?_ ?_
  rotate_left
  · intro oi ho
    simp only [List.getElem?_toArray, List.getElem?_cons_succ, List.getElem?_cons_zero, Option.some.injEq] at ho
    subst ho
    intro w hSw
    obtain ⟨e2, e3, e4, e5⟩ := hSw.2.node HD0.out
    have e0 := hSw.2.c0
    have e1 := hSw.2.c1
    go_simp
    (try with_reducible rfl)
  (try simp only [Act.put, List.setIfInBounds_toArray, List.set_cons_zero, List.set_cons_succ])
  refine wpAnyH_ready (rs := [12]) (by kernel_rfl) (by simp) ?_
  refine AllReadyH.cons rfl (fun K hK => ?_) AllReadyH.nil
  go_simp
  refine hK.out _ _ ?_ (fun hHeld => ?_)
  · exact ⟨below_alloc_keep hHeld.1, hHeld.2.below (below_alloc _ _)⟩
  clear hK K
  (try simp only [Act.put, List.setIfInBounds_toArray, List.set_cons_zero, List.set_cons_succ])
  refine wpAnyH_ready (rs := [13]) (by kernel_rfl) (by simp) ?_
  refine AllReadyH.cons rfl (fun K hK => ?_) AllReadyH.nil
  go_simp
  refine hK.out _ _ ?_ (fun hHeld => ?_)
  · exact ⟨below_alloc_keep (HB0.out.drew), (HTB.out.below (Below.refl _ _).drew).below (below_alloc _ _)⟩
  clear hK K
  (try simp only [Act.put, List.setIfInBounds_toArray, List.set_cons_zero, List.set_cons_succ])
  refine wpAnyH_done (by kernel_rfl) ?_ _
  have hbn := World.alloc_heap_new wb (.cells #[.int .i64 (hiW d0.s), .int .u64 (loW d0.s), .int .i64 d0.mn, .int .i64 d0.mx] 74)
  obtain ⟨w1, hw1'⟩ : ∃ w1, w1 = (wb.alloc (.cells #[.int .i64 (hiW d0.s), .int .u64 (loW d0.s), .int .i64 d0.mn, .int .i64 d0.mx] 74)).drew := ⟨_, rfl⟩
  have hB1 : Below wb.heap.size wb w1 := by rw [hw1']; exact (below_alloc _ _).drew
  have hBX1 : BoxN w1 wb.heap.size d0 := by rw [hw1']; exact hbn
  rw [← hw1']
  have HB1 := Lib.hid (below_keep HB0.out hB1)
  have HX1 := Lib.hid (box_kept HBX0.out hB1)
  have HT1 := Lib.hid (HTB.out.below hB1)
  have HBX1 := Lib.hid hBX1
  have c0 := HT1.out.c0
  obtain ⟨bx, hbx⟩ : ∃ bx, bx = wb.heap.size := ⟨_, rfl⟩
  rw [← hbx] at HBX1 HZB ⊢
  have hbxw : w.heap.size < bx := by have := HZB.out; omega
  have hw2 : IntKind.i64.wrap ((m : Int) + 1) = ((m + 1 : Nat) : Int) := by rw [IntWalk.i64_in _ (by omega)]; omega
  have hw3 : IntKind.i64.wrap ((n : Int) + (t : Int)) = ((n + t : Nat) : Int) := by rw [IntWalk.i64_in _ (by omega)]; omega
  obtain ⟨m1, hm1⟩ : ∃ m1, m1 = m + 1 := ⟨_, rfl⟩
  obtain ⟨m2, hm2⟩ : ∃ m2, m2 = n + t := ⟨_, rfl⟩
  rw [← hm1] at HQ0 hw2
  rw [← hm2] at HQ0 hw3
  clear hHeld hbn hw1' hB1 hBX1 hbx HB0 HBX0 HTB hm1 hm2 hm3
  go_upto_region 4 with fail
  go_region
  go_wp2_with fail
  have HB1d : Hid (Below w.heap.size w w1.drew) := Lib.hid HB1.out.drew
  have HT1d : Hid (TreeAt w1.drew B p g nd n) := Lib.hid (HT1.out.below (Below.refl _ _).drew)
  have HBX1d : Hid (BoxN w1.drew bx d0) := Lib.hid (HBX1.out.below (Below.refl _ _).drew)
  have HX1d : Hid (w1.drew.heap[w.heap.size]? = some (.cells #[.int .i64 0, .int .u64 0, .int .i64 0, .int .i64 0] 74)) := Lib.hid HX1.out
  clear hw1 hw2 hw3 c0 HB1 HT1 HBX1 HX1 HT HD0
  go_loopw [9, 10] (fun x y wr => ∃ (lo hi : Nat) (d : Nd), x = .int .i64 (lo : Int) ∧ y = .int .i64 (hi : Int) ∧ Hid (QIs n f t a d lo hi) ∧ Hid (Below w.heap.size w wr) ∧ Hid (TreeAt wr B p g nd n) ∧ Hid (BoxN wr bx d) ∧ Hid (wr.heap[w.heap.size]? = some (.cells #[.int .i64 0, .int .u64 0, .int .i64 0, .int .i64 0] 74))) (fun _ y _ => (intOf y).toNat)
  case atStart => exact ⟨m1, m2, d0, rfl, rfl, HQ0, HB1d, HT1d, HBX1d, HX1d⟩
  case round =>
    obtain ⟨lo, hi, d, rfl, rfl, HQ, HB, HT, HBX, HX⟩ := hrel
    obtain ⟨wo, rfl⟩ : ∃ wo : World, wo = wr := ⟨_, rfl⟩
    obtain ⟨hlo1, hhi1⟩ := HQ.out.bound
    by_cases hlt : lo < hi
    · have hlI : (lo : Int) < (hi : Int) := by omega
      have hl0 : 0 ≤ (lo : Int) := by omega
      have hl4 : (lo : Int) ≤ 400 := by omega
      have hh0 : 0 ≤ (hi : Int) := by omega
      have hh4 : (hi : Int) ≤ 400 := by omega
      go_upto_if 59 with fail
      go_cut [9] (fun s9 wx => ∃ (lo2 : Nat) (d2 : Nd), s9 = .int .i64 (lo2 : Int) ∧ Hid (lo2 % 2 = 0 ∧ (lo2 = lo ∨ lo2 = lo + 1)) ∧ Hid (QIs n f t a d2 lo2 hi) ∧ Hid (Below w.heap.size w wx) ∧ Hid (TreeAt wx B p g nd n) ∧ Hid (BoxN wx bx d2) ∧ Hid (wx.heap[w.heap.size]? = some (.cells #[.int .i64 0, .int .u64 0, .int .i64 0, .int .i64 0] 74)))
      case first =>
        by_cases hodd : (lo : Int) % 2 = 1
        · have hodn : lo % 2 = 1 := by omega
          obtain ⟨e, he⟩ := lget_some nd lo (by rw [HT.out.len]; omega)
          obtain ⟨hQ2, hW1, hW2⟩ := HQ.out.left HNL.out HN.out hlt he (by omega) HNQ.out hl ht
          have HMG := fun W => Lib.hid (merge_node d e hW1 hW2 W)
          have HE := Lib.hid he
          have HQ2 := Lib.hid hQ2
          have hm3 : (lo : Int) < 2 * (n : Int) := by omega
          have HS0 : Hid (QS w B p g n bx nd wo) := Lib.hid ⟨HB.out, HT.out, d, HBX.out⟩
          have HB1 : Hid (lo + 1 ≤ hi) := Lib.hid hlt
          clear he hQ2 hW1 hW2 HQ HB HT
          go_upto_region 8 with fail
          refine wp_region_held_drew (S := QS w B p g n bx nd) (by kernel_rfl) HS0.out.drew (fun hHeld => ?_)
          refine take_y (i := 1) (d := some 61) (v := ?_) rfl rfl (by kernel_rfl) (by kernel_rfl) (by kernel_rfl) (fun _ _ _ h => h) (by assumption) ?_ ?_
          rotate_left
          · intro oi ho
            simp only [List.getElem?_toArray, List.getElem?_cons_succ, List.getElem?_cons_zero, Option.some.injEq] at ho
            subst ho
            intro w hSw
            obtain ⟨e0, e1, e2, e3, e4, e5⟩ := hSw.facts HE.out
            go_simp
            (try with_reducible rfl)
          (try simp only [Act.put, List.setIfInBounds_toArray, List.set_cons_zero, List.set_cons_succ])
          refine take_y (i := 2) (d := some 62) (v := ?_) rfl rfl (by kernel_rfl) (by kernel_rfl) (by kernel_rfl) (fun _ _ _ h => h) (by assumption) ?_ ?_
          rotate_left
          · intro oi ho
            simp only [List.getElem?_toArray, List.getElem?_cons_succ, List.getElem?_cons_zero, Option.some.injEq] at ho
            subst ho
            intro w hSw
            obtain ⟨e0, e1, e2, e3, e4, e5⟩ := hSw.facts HE.out
            go_simp
            (try with_reducible rfl)
          (try simp only [Act.put, List.setIfInBounds_toArray, List.set_cons_zero, List.set_cons_succ])
          refine take_y (i := 3) (d := some 63) (v := ?_) rfl rfl (by kernel_rfl) (by kernel_rfl) (by kernel_rfl) (fun _ _ _ h => h) (by assumption) ?_ ?_
          rotate_left
          · intro oi ho
            simp only [List.getElem?_toArray, List.getElem?_cons_succ, List.getElem?_cons_zero, Option.some.injEq] at ho
            subst ho
            intro w hSw
            obtain ⟨e0, e1, e2, e3, e4, e5⟩ := hSw.facts HE.out
            go_simp
            (try with_reducible rfl)
          (try simp only [Act.put, List.setIfInBounds_toArray, List.set_cons_zero, List.set_cons_succ])
          refine take_y (i := 4) (d := some 64) (v := ?_) rfl rfl (by kernel_rfl) (by kernel_rfl) (by kernel_rfl) (fun _ _ _ h => h) (by assumption) ?_ ?_
          rotate_left
          · intro oi ho
            simp only [List.getElem?_toArray, List.getElem?_cons_succ, List.getElem?_cons_zero, Option.some.injEq] at ho
            subst ho
            intro w hSw
            obtain ⟨e0, e1, e2, e3, e4, e5⟩ := hSw.facts HE.out
            go_simp
            (try with_reducible rfl)
          (try simp only [Act.put, List.setIfInBounds_toArray, List.set_cons_zero, List.set_cons_succ])
          refine take_y (i := 5) (d := some 65) (v := ?_) rfl rfl (by kernel_rfl) (by kernel_rfl) (by kernel_rfl) (fun _ _ _ h => h) (by assumption) ?_ ?_
          rotate_left
          · intro oi ho
            simp only [List.getElem?_toArray, List.getElem?_cons_succ, List.getElem?_cons_zero, Option.some.injEq] at ho
            subst ho
            intro w hSw
            obtain ⟨e0, e1, e2, e3, e4, e5⟩ := hSw.facts HE.out
            go_simp
            (try with_reducible rfl)
          (try simp only [Act.put, List.setIfInBounds_toArray, List.set_cons_zero, List.set_cons_succ])
          refine take_y (i := 6) (d := some 66) (v := ?_) rfl rfl (by kernel_rfl) (by kernel_rfl) (by kernel_rfl) (fun _ _ _ h => h) (by assumption) ?_ ?_
          rotate_left
          · intro oi ho
            simp only [List.getElem?_toArray, List.getElem?_cons_succ, List.getElem?_cons_zero, Option.some.injEq] at ho
            subst ho
            intro w hSw
            obtain ⟨e0, e1, e2, e3, e4, e5⟩ := hSw.facts HE.out
            go_simp
            (try with_reducible rfl)
          (try simp only [Act.put, List.setIfInBounds_toArray, List.set_cons_zero, List.set_cons_succ])
          refine take_y (i := 7) (d := some 67) (v := ?_) rfl rfl (by kernel_rfl) (by kernel_rfl) (by kernel_rfl) (fun _ _ _ h => h) (by assumption) ?_ ?_
          rotate_left
          · intro oi ho
            simp only [List.getElem?_toArray, List.getElem?_cons_succ, List.getElem?_cons_zero, Option.some.injEq] at ho
            subst ho
            intro w hSw
            obtain ⟨e0, e1, e2, e3, e4, e5⟩ := hSw.facts HE.out
            go_simp
            (try with_reducible rfl)
          (try simp only [Act.put, List.setIfInBounds_toArray, List.set_cons_zero, List.set_cons_succ])
          have hbxd : BoxN wo.drew bx d := HBX.out.below (Below.refl _ _).drew
          obtain ⟨⟨b0, b1, b2, b3⟩, _⟩ := hbxd.cells
          refine wpAnyH_ready (rs := [0]) (by kernel_rfl) (by simp) ?_
          refine AllReadyH.cons rfl (fun K hK => ?_) AllReadyH.nil
          go_simp
          refine hK.out _ _ ?_ (fun hHeld => ?_)
          · exact HS0.out.drew
          clear hK K
          (try simp only [Act.put, List.setIfInBounds_toArray, List.set_cons_zero, List.set_cons_succ])
          clear b0 b1 b2 b3 hbxd
          refine wpAnyH_ready (rs := [8]) (by kernel_rfl) (by simp) ?_
          refine AllReadyH.cons rfl (fun K hK => ?_) AllReadyH.nil
          go_simp
          refine (HMG _).out.mono ?_
          rintro _ wm ⟨rfl, hbm⟩
          refine hK.out _ _ ?_ (fun hHeld => ?_)
          · exact hHeld.keep hbm
          clear hK K
          (try simp only [Act.put, List.setIfInBounds_toArray, List.set_cons_zero, List.set_cons_succ])
          unfold nodeV
          refine wpAnyH_ready (rs := [9]) (by kernel_rfl) (by simp) ?_
          refine AllReadyH.cons rfl (fun K hK => ?_) AllReadyH.nil
          obtain ⟨⟨k0, k1, k2, k3⟩, k4, k5, k6, k7⟩ := ((HBX.out.below (Below.refl _ _).drew).below hbm).cells
          go_simp
          refine hK.out _ _ ?_ (fun hHeld => ?_)
          · exact hHeld.set (by omega) hpl hgl (mergeN d e)
          clear hK K
          (try simp only [Act.put, List.setIfInBounds_toArray, List.set_cons_zero, List.set_cons_succ])
          refine wpAnyH_done (by kernel_rfl) ?_ _
          have hqm := (by assumption : QS w B p g n bx nd wm)
          have hq2 := hqm.set (by omega) hpl hgl (mergeN d e)
          have hbx2 := ((HBX.out.below (Below.refl _ _).drew).below hbm).set (mergeN d e)
          have hx2 := heap_set4 (box_kept (w := wo.drew) HX.out hbm) (show w.heap.size ≠ bx by omega) (.int .i64 (hiW (mergeN d e).s)) (.int .u64 (loW (mergeN d e).s)) (.int .i64 (mergeN d e).mn) (.int .i64 (mergeN d e).mx)
          obtain ⟨w2, hw2'⟩ : ∃ w2, w2 = ((((wm.setCell ⟨bx, 0, none⟩ (.int .i64 (hiW (mergeN d e).s))).setCell ⟨bx, 1, none⟩ (.int .u64 (loW (mergeN d e).s))).setCell ⟨bx, 2, none⟩ (.int .i64 (mergeN d e).mn)).setCell ⟨bx, 3, none⟩ (.int .i64 (mergeN d e).mx)) := ⟨_, rfl⟩
          rw [← hw2'] at hq2 hbx2 hx2 ⊢
          have HA1 := Lib.hid hq2.below
          have HA2 := Lib.hid hq2.tree
          have HA3 := Lib.hid hbx2
          have HA4 := Lib.hid hx2
          clear hw2' hHeld k0 k1 k2 k3 k4 k5 k6 k7 hbm HMG HS0 hqm hq2 hbx2 hx2 HBX HX HE hm3
          go_wp2_with fail
          go_meet
          exact ⟨lo + 1, mergeN d e, by go_num, Lib.hid (by omega), HQ2, HA1, HA2, HA3, HA4⟩
        · have hodn : Hid (lo % 2 = 0) := Lib.hid (by omega)
          go_wp2_with fail
          go_meet
          exact ⟨lo, d, rfl, Lib.hid ⟨hodn.out, .inl rfl⟩, HQ, HB, HT, HBX, HX⟩
      case rest =>
        obtain ⟨lo2, d2, rfl, HP, HQ2, HB2, HT2, HBX2, HX2⟩ := hcut
        clear HQ HB HT HBX HX
        obtain ⟨wp, rfl⟩ : ∃ wp : World, wp = wc := ⟨_, rfl⟩
        have hlo2 : (lo2 : Int) ≤ 401 := by have := HP.out; omega
        have hlo3 : 0 ≤ (lo2 : Int) := by omega
        have HZ2 : Hid ((lo2 : Int) / 2 = ((lo2 / 2 : Nat) : Int)) := Lib.hid (by omega)
        by_cases hodd : (hi : Int) % 2 = 1
        · obtain ⟨d, rfl⟩ : ∃ d, d = d2 := ⟨_, rfl⟩
          obtain ⟨wo, rfl⟩ : ∃ wo : World, wo = wp := ⟨_, rfl⟩
          obtain ⟨h1, hh1⟩ : ∃ h1 : Nat, hi = h1 + 1 := ⟨hi - 1, by omega⟩
          have hllt : lo2 < hi := by have := HP.out; omega
          obtain ⟨e, he⟩ := lget_some nd (hi - 1) (by rw [HT2.out.len]; omega)
          obtain ⟨hQ2, hW1, hW2⟩ := HQ2.out.right HNL.out HN.out hllt he HNQ.out hl ht
          rw [show hi - 1 = h1 by omega] at he hQ2
          have HMG := fun W => Lib.hid (merge_node d e hW1 hW2 W)
          have HE := Lib.hid he
          have hp2 : Hid (∃ x y, lo2 = 2 * x ∧ h1 = 2 * y) := Lib.hid ⟨lo2 / 2, h1 / 2, by have := HP.out; omega, by omega⟩
          have HQ3 : Hid (QIs n f t a (mergeN d e) (lo2 / 2) (h1 / 2)) := Lib.hid (by
            obtain ⟨x, y, hx, hy⟩ := hp2.out
            have : QIs n f t a (mergeN d e) (2 * x) (2 * y) := by rw [← hx, ← hy]; exact hQ2
            rw [show lo2 / 2 = x by omega, show h1 / 2 = y by omega]
            exact this.half)
          have hm3 : (h1 : Int) < 2 * (n : Int) := by omega
          have hi1 : (hi : Int) - 1 = (h1 : Int) := by omega
          have HS0 : Hid (QS w B p g n bx nd wo) := Lib.hid ⟨HB2.out, HT2.out, d, HBX2.out⟩
          have HBX := HBX2
          have HX := HX2
          clear he hQ2 hW1 hW2 HQ2 HB2 HT2 HBX2 HX2 hp2 hh1
          go_upto_region 12 with fail
          refine wp_region_held_drew (S := QS w B p g n bx nd) (by kernel_rfl) HS0.out.drew (fun hHeld => ?_)
          refine take_y (i := 1) (d := some 77) (v := ?_) rfl rfl (by kernel_rfl) (by kernel_rfl) (by kernel_rfl) (fun _ _ _ h => h) (by assumption) ?_ ?_
          rotate_left
          · intro oi ho
            simp only [List.getElem?_toArray, List.getElem?_cons_succ, List.getElem?_cons_zero, Option.some.injEq] at ho
            subst ho
            intro w hSw
            obtain ⟨e0, e1, e2, e3, e4, e5⟩ := hSw.facts HE.out
            go_simp
            (try with_reducible rfl)
          (try simp only [Act.put, List.setIfInBounds_toArray, List.set_cons_zero, List.set_cons_succ])
          refine take_y (i := 2) (d := some 78) (v := ?_) rfl rfl (by kernel_rfl) (by kernel_rfl) (by kernel_rfl) (fun _ _ _ h => h) (by assumption) ?_ ?_
          rotate_left
          · intro oi ho
            simp only [List.getElem?_toArray, List.getElem?_cons_succ, List.getElem?_cons_zero, Option.some.injEq] at ho
            subst ho
            intro w hSw
            obtain ⟨e0, e1, e2, e3, e4, e5⟩ := hSw.facts HE.out
            go_simp
            (try with_reducible rfl)
          (try simp only [Act.put, List.setIfInBounds_toArray, List.set_cons_zero, List.set_cons_succ])
          refine take_y (i := 3) (d := some 79) (v := ?_) rfl rfl (by kernel_rfl) (by kernel_rfl) (by kernel_rfl) (fun _ _ _ h => h) (by assumption) ?_ ?_
          rotate_left
          · intro oi ho
            simp only [List.getElem?_toArray, List.getElem?_cons_succ, List.getElem?_cons_zero, Option.some.injEq] at ho
            subst ho
            intro w hSw
            obtain ⟨e0, e1, e2, e3, e4, e5⟩ := hSw.facts HE.out
            go_simp
            (try with_reducible rfl)
          (try simp only [Act.put, List.setIfInBounds_toArray, List.set_cons_zero, List.set_cons_succ])
          refine take_y (i := 4) (d := some 80) (v := ?_) rfl rfl (by kernel_rfl) (by kernel_rfl) (by kernel_rfl) (fun _ _ _ h => h) (by assumption) ?_ ?_
          rotate_left
          · intro oi ho
            simp only [List.getElem?_toArray, List.getElem?_cons_succ, List.getElem?_cons_zero, Option.some.injEq] at ho
            subst ho
            intro w hSw
            obtain ⟨e0, e1, e2, e3, e4, e5⟩ := hSw.facts HE.out
            go_simp
            (try with_reducible rfl)
          (try simp only [Act.put, List.setIfInBounds_toArray, List.set_cons_zero, List.set_cons_succ])
          refine take_y (i := 5) (d := some 81) (v := ?_) rfl rfl (by kernel_rfl) (by kernel_rfl) (by kernel_rfl) (fun _ _ _ h => h) (by assumption) ?_ ?_
          rotate_left
          · intro oi ho
            simp only [List.getElem?_toArray, List.getElem?_cons_succ, List.getElem?_cons_zero, Option.some.injEq] at ho
            subst ho
            intro w hSw
            obtain ⟨e0, e1, e2, e3, e4, e5⟩ := hSw.facts HE.out
            go_simp
            (try with_reducible rfl)
          (try simp only [Act.put, List.setIfInBounds_toArray, List.set_cons_zero, List.set_cons_succ])
          refine take_y (i := 6) (d := some 82) (v := ?_) rfl rfl (by kernel_rfl) (by kernel_rfl) (by kernel_rfl) (fun _ _ _ h => h) (by assumption) ?_ ?_
          rotate_left
          · intro oi ho
            simp only [List.getElem?_toArray, List.getElem?_cons_succ, List.getElem?_cons_zero, Option.some.injEq] at ho
            subst ho
            intro w hSw
            obtain ⟨e0, e1, e2, e3, e4, e5⟩ := hSw.facts HE.out
            go_simp
            (try with_reducible rfl)
          (try simp only [Act.put, List.setIfInBounds_toArray, List.set_cons_zero, List.set_cons_succ])
          refine take_y (i := 7) (d := some 83) (v := ?_) rfl rfl (by kernel_rfl) (by kernel_rfl) (by kernel_rfl) (fun _ _ _ h => h) (by assumption) ?_ ?_
          rotate_left
          · intro oi ho
            simp only [List.getElem?_toArray, List.getElem?_cons_succ, List.getElem?_cons_zero, Option.some.injEq] at ho
            subst ho
            intro w hSw
            obtain ⟨e0, e1, e2, e3, e4, e5⟩ := hSw.facts HE.out
            go_simp
            (try with_reducible rfl)
          (try simp only [Act.put, List.setIfInBounds_toArray, List.set_cons_zero, List.set_cons_succ])
          have hbxd : BoxN wo.drew bx d := HBX.out.below (Below.refl _ _).drew
          obtain ⟨⟨b0, b1, b2, b3⟩, _⟩ := hbxd.cells
          refine wpAnyH_ready (rs := [0]) (by kernel_rfl) (by simp) ?_
          refine AllReadyH.cons rfl (fun K hK => ?_) AllReadyH.nil
          go_simp
          refine hK.out _ _ ?_ (fun hHeld => ?_)
          · exact HS0.out.drew
          clear hK K
          (try simp only [Act.put, List.setIfInBounds_toArray, List.set_cons_zero, List.set_cons_succ])
          clear b0 b1 b2 b3 hbxd
          refine wpAnyH_ready (rs := [8]) (by kernel_rfl) (by simp) ?_
          refine AllReadyH.cons rfl (fun K hK => ?_) AllReadyH.nil
          go_simp
          refine (HMG _).out.mono ?_
          rintro _ wm ⟨rfl, hbm⟩
          refine hK.out _ _ ?_ (fun hHeld => ?_)
          · exact hHeld.keep hbm
          clear hK K
          (try simp only [Act.put, List.setIfInBounds_toArray, List.set_cons_zero, List.set_cons_succ])
          unfold nodeV
          refine wpAnyH_ready (rs := [9]) (by kernel_rfl) (by simp) ?_
          refine AllReadyH.cons rfl (fun K hK => ?_) AllReadyH.nil
          obtain ⟨⟨k0, k1, k2, k3⟩, k4, k5, k6, k7⟩ := ((HBX.out.below (Below.refl _ _).drew).below hbm).cells
          go_simp
          refine hK.out _ _ ?_ (fun hHeld => ?_)
          · exact hHeld.set (by omega) hpl hgl (mergeN d e)
          clear hK K
          (try simp only [Act.put, List.setIfInBounds_toArray, List.set_cons_zero, List.set_cons_succ])
          refine wpAnyH_done (by kernel_rfl) ?_ _
          have hqm := (by assumption : QS w B p g n bx nd wm)
          have hq2 := hqm.set (by omega) hpl hgl (mergeN d e)
          have hbx2 := ((HBX.out.below (Below.refl _ _).drew).below hbm).set (mergeN d e)
          have hx2 := heap_set4 (box_kept (w := wo.drew) HX.out hbm) (show w.heap.size ≠ bx by omega) (.int .i64 (hiW (mergeN d e).s)) (.int .u64 (loW (mergeN d e).s)) (.int .i64 (mergeN d e).mn) (.int .i64 (mergeN d e).mx)
          obtain ⟨w2, hw2'⟩ : ∃ w2, w2 = ((((wm.setCell ⟨bx, 0, none⟩ (.int .i64 (hiW (mergeN d e).s))).setCell ⟨bx, 1, none⟩ (.int .u64 (loW (mergeN d e).s))).setCell ⟨bx, 2, none⟩ (.int .i64 (mergeN d e).mn)).setCell ⟨bx, 3, none⟩ (.int .i64 (mergeN d e).mx)) := ⟨_, rfl⟩
          rw [← hw2'] at hq2 hbx2 hx2 ⊢
          have HA1 := Lib.hid hq2.below
          have HA2 := Lib.hid hq2.tree
          have HA3 := Lib.hid hbx2
          have HA4 := Lib.hid hx2
          clear hw2' hHeld k0 k1 k2 k3 k4 k5 k6 k7 hbm HMG HS0 hqm hq2 hbx2 hx2 HBX HX HE hm3
          have HZ3 : Hid ((h1 : Int) / 2 = ((h1 / 2 : Nat) : Int)) := Lib.hid (by omega)
          have hh9 : 0 ≤ (h1 : Int) := by omega
          have hh8 : (h1 : Int) ≤ 400 := by omega
          have hhm : h1 / 2 < hi := by omega
          clear hi1
          go_wp2_with fail
          go_roundw
          case rel => exact ⟨lo2 / 2, h1 / 2, mergeN d e, by rw [HZ2.out], by rw [HZ3.out], HQ3, HA1, HA2, HA3, HA4⟩
          case measure => simp [intOf]; omega
        · have HZ3 : Hid ((hi : Int) / 2 = ((hi / 2 : Nat) : Int)) := Lib.hid (by omega)
          have hp2 : Hid (∃ x y, lo2 = 2 * x ∧ hi = 2 * y) := Lib.hid ⟨lo2 / 2, hi / 2, by have := HP.out; omega, by omega⟩
          have HQ3 : Hid (QIs n f t a d2 (lo2 / 2) (hi / 2)) := Lib.hid (by
            obtain ⟨x, y, hx, hy⟩ := hp2.out
            have h2 := HQ2.out
            rw [hx, hy] at h2
            rw [show lo2 / 2 = x by omega, show hi / 2 = y by omega]
            exact h2.half)
          clear hp2
          go_wp2_with fail
          go_roundw
          case rel => exact ⟨lo2 / 2, hi / 2, d2, by rw [HZ2.out], by rw [HZ3.out], HQ3, HB2, HT2, HBX2, HX2⟩
          case measure => simp [intOf]; omega
    · have HF := Lib.hid (HQ.out.done (by omega))
      obtain ⟨⟨b0, b1, b2, b3⟩, _⟩ := HBX.out.cells
      obtain ⟨⟨x0, x1, x2, x3⟩, x4, x5, x6, x7⟩ := box4 HX.out
      have hlI : ¬ ((lo : Int) < (hi : Int)) := by omega
      clear HQ HT HBX HX hlo1 hhi1
      have hzw : w.heap.size < wo.heap.size := World.block_lt_of_cell? _ _ x0
      go_wp2_with fail
      refine bodyPost_ret (v := .tuple #[nodeV d, .bool true]) (by simp [nodeV, results, Try.results30, go_sem, x0, x1, x2, x3]) rfl ⟨d, rfl, HF.out, ?_⟩
      exact below_set4 HB.out (Nat.le_refl _) (Nat.le_refl _) (Nat.le_refl _) (Nat.le_refl _)
end Go.Proofs.Ytfmbbfidjcgeiaa

namespace Go.Proofs.Ytfmbbfidjcgeiaa
open Go.RowKit Go.Lib Go.Shelf

def sumR (a : List Int) (f t : Int) : Int × Bool := if 0 ≤ f ∧ f ≤ t ∧ t ≤ (a.length : Int) ∧ In64B (sumI (elts a f.toNat t.toNat)) = true then (sumI (elts a f.toNat t.toNat), true) else (0, false)
def PairRet (w : World) (r : Int × Bool) (e : Ending) (w' : World) : Prop := e = .returned (.tuple #[.int .i64 r.1, .bool r.2]) ∧ Below w.heap.size w w'
def SmRet (w : World) (l : List Int) (f : Nd → Int) (e : Ending) (w' : World) : Prop := ∃ d, Sm l d ∧ PairRet w (f d, true) e w'
theorem pair_ret {w w' : World} {x : Int} {b : Bool} {r : Int × Bool} (h : r = (x, b)) (hb : Below w.heap.size w w') : PairRet w r (.returned (.tuple #[.int .i64 x, .bool b])) w' := by subst h; exact ⟨rfl, hb⟩
section
variable {B p g n : Nat} {a : List Int} {nd : List Nd}
set_option maxHeartbeats 4000000 in
set_option maxRecDepth 100000 in
theorem sum_no (f t : Int) (w : World) (hT : TreeAt w B p g nd n) (h : f < 0 ∨ t < f ∨ (n : Int) < t) :
    Calls Try.prog 12 #[.pointer (some ⟨p, 0, none⟩), .int .i64 f, .int .i64 t] w (PairRet w (0, false)) := by
  have HQ := Lib.hid (query_no f t w hT (by omega))
  have c0 := hT.c0
  clear hT
  by_cases he : f = t
  · subst he
    by_cases h1 : f < 0
    · have h2 : ¬ 0 ≤ f := by omega
      clear h
      go_enter Try.func12, Try.ntmps12
      go_wp2_with fail
      refine HQ.out.mono ?_
      rintro _ w1 ⟨d, rfl, _, hb⟩
      unfold nodeV
      go_wp2_with fail
      go_ret2
      exact pair_ret rfl (below_alloc_keep hb)
    · have h2 : 0 ≤ f := by omega
      have h3 : ¬ f ≤ (n : Int) := by omega
      clear h
      go_enter Try.func12, Try.ntmps12
      go_wp2_with fail
      refine HQ.out.mono ?_
      rintro _ w1 ⟨d, rfl, _, hb⟩
      unfold nodeV
      go_wp2_with fail
      go_ret2
      exact pair_ret rfl (below_alloc_keep hb)
  · clear h
    go_enter Try.func12, Try.ntmps12
    go_wp2_with fail
    refine HQ.out.mono ?_
    rintro _ w1 ⟨d, rfl, _, hb⟩
    unfold nodeV
    go_wp2_with fail
    go_ret2
    exact pair_ret rfl (below_alloc_keep hb)
set_option maxHeartbeats 4000000 in
set_option maxRecDepth 100000 in
theorem sum_zero (f : Nat) (w : World) (hT : TreeAt w B p g nd n) (h : f ≤ n) :
    Calls Try.prog 12 #[.pointer (some ⟨p, 0, none⟩), .int .i64 (f : Int), .int .i64 (f : Int)] w (PairRet w (0, true)) := by
  have c0 := hT.c0
  clear hT
  go_enter Try.func12, Try.ntmps12
  go_wp2_with fail
  go_ret2
  exact pair_ret rfl (Below.refl _ _)
set_option maxHeartbeats 4000000 in
set_option maxRecDepth 100000 in
theorem sum_yes (f t : Nat) (w : World) (hT : TreeAt w B p g nd n) (hN : TreeN a nd) (hn : a.length = n) (hq : Num64 a) (hl : n ≤ 200) (h : f < t) (ht : t ≤ n) :
    Calls Try.prog 12 #[.pointer (some ⟨p, 0, none⟩), .int .i64 (f : Int), .int .i64 (t : Int)] w (PairRet w (if In64B (sumI (elts a f t)) = true then (sumI (elts a f t), true) else (0, false))) := by
  have HQ := Lib.hid (query_yes f t w hT hN hn hq hl h ht)
  have hft : ¬ f = t := by omega
  generalize hr : (if In64B (sumI (elts a f t)) = true then (sumI (elts a f t), true) else (0, false)) = r
  have HR := Lib.hid hr
  clear hT hN hq hr
  go_enter Try.func12, Try.ntmps12
  go_wp2_with fail
  refine HQ.out.mono ?_
  rintro _ w1 ⟨d, rfl, hs, hb⟩
  have hI := fun W => int64_any d.s W
  have HB := Lib.hid (below_alloc_keep (o := .cells #[.int .i64 (hiW d.s), .int .u64 (loW d.s), .int .i64 d.mn, .int .i64 d.mx] 74) hb)
  have hds := hs.s
  unfold nodeV
  unfold wideV at hI
  obtain ⟨ds, mn, mx⟩ := d
  dsimp only at *
  rw [← hds] at HR
  generalize hiW ds = A at *
  generalize loW ds = C at *
  have HI := fun W => Lib.hid (hI W)
  clear hs hb hds HQ hI
  cases hq : In64B ds
  all_goals rw [hq] at HI HR
  all_goals clear hq
  · go_wp2_with fail
    refine (HI _).out.mono ?_
    rintro _ w2 ⟨x, rfl, _, hb2⟩
    go_wp2_with fail
    go_ret2
    exact pair_ret (by rw [← HR.out]; rfl) (below_keep HB.out hb2)
  · go_wp2_with fail
    refine (HI _).out.mono ?_
    rintro _ w2 ⟨x, rfl, hx, hb2⟩
    have HX := Lib.hid hx
    clear hx
    go_wp2_with fail
    go_ret2
    exact pair_ret (by rw [← HR.out, HX.out trivial]; rfl) (below_keep HB.out hb2)
set_option maxHeartbeats 4000000 in
set_option maxRecDepth 100000 in
theorem min_no (f t : Int) (w : World) (hT : TreeAt w B p g nd n) (h : f < 0 ∨ t ≤ f ∨ (n : Int) < t) :
    Calls Try.prog 13 #[.pointer (some ⟨p, 0, none⟩), .int .i64 f, .int .i64 t] w (PairRet w (0, false)) := by
  have HQ := Lib.hid (query_no f t w hT h)
  clear hT h
  go_enter Try.func13, Try.ntmps13
  go_wp2_with fail
  refine HQ.out.mono ?_
  rintro _ w1 ⟨d, rfl, hd, hb⟩
  have HD := Lib.hid hd.1
  have HB := Lib.hid (below_alloc_keep (o := .cells #[.int .i64 (hiW d.s), .int .u64 (loW d.s), .int .i64 d.mn, .int .i64 d.mx] 74) hb)
  clear hd hb HQ
  unfold nodeV
  go_wp2_with fail
  go_ret2
  exact pair_ret (by rw [HD.out]) HB.out
set_option maxHeartbeats 4000000 in
set_option maxRecDepth 100000 in
theorem min_yes (f t : Nat) (w : World) (hT : TreeAt w B p g nd n) (hN : TreeN a nd) (hn : a.length = n) (hq : Num64 a) (hl : n ≤ 200) (h : f < t) (ht : t ≤ n) :
    Calls Try.prog 13 #[.pointer (some ⟨p, 0, none⟩), .int .i64 (f : Int), .int .i64 (t : Int)] w (SmRet w (elts a f t) Nd.mn) := by
  have HQ := Lib.hid (query_yes f t w hT hN hn hq hl h ht)
  clear hT hN hq
  go_enter Try.func13, Try.ntmps13
  go_wp2_with fail
  refine HQ.out.mono ?_
  rintro _ w1 ⟨d, rfl, hd, hb⟩
  have HD := Lib.hid hd
  have HB := Lib.hid (below_alloc_keep (o := .cells #[.int .i64 (hiW d.s), .int .u64 (loW d.s), .int .i64 d.mn, .int .i64 d.mx] 74) hb)
  clear hd hb HQ
  unfold nodeV
  go_wp2_with fail
  go_ret2
  exact ⟨d, HD.out, pair_ret rfl HB.out⟩
set_option maxHeartbeats 4000000 in
set_option maxRecDepth 100000 in
theorem max_no (f t : Int) (w : World) (hT : TreeAt w B p g nd n) (h : f < 0 ∨ t ≤ f ∨ (n : Int) < t) :
    Calls Try.prog 14 #[.pointer (some ⟨p, 0, none⟩), .int .i64 f, .int .i64 t] w (PairRet w (0, false)) := by
  have HQ := Lib.hid (query_no f t w hT h)
  clear hT h
  go_enter Try.func14, Try.ntmps14
  go_wp2_with fail
  refine HQ.out.mono ?_
  rintro _ w1 ⟨d, rfl, hd, hb⟩
  have HD := Lib.hid hd.2
  have HB := Lib.hid (below_alloc_keep (o := .cells #[.int .i64 (hiW d.s), .int .u64 (loW d.s), .int .i64 d.mn, .int .i64 d.mx] 74) hb)
  clear hd hb HQ
  unfold nodeV
  go_wp2_with fail
  go_ret2
  exact pair_ret (by rw [HD.out]) HB.out
set_option maxHeartbeats 4000000 in
set_option maxRecDepth 100000 in
theorem max_yes (f t : Nat) (w : World) (hT : TreeAt w B p g nd n) (hN : TreeN a nd) (hn : a.length = n) (hq : Num64 a) (hl : n ≤ 200) (h : f < t) (ht : t ≤ n) :
    Calls Try.prog 14 #[.pointer (some ⟨p, 0, none⟩), .int .i64 (f : Int), .int .i64 (t : Int)] w (SmRet w (elts a f t) Nd.mx) := by
  have HQ := Lib.hid (query_yes f t w hT hN hn hq hl h ht)
  clear hT hN hq
  go_enter Try.func14, Try.ntmps14
  go_wp2_with fail
  refine HQ.out.mono ?_
  rintro _ w1 ⟨d, rfl, hd, hb⟩
  have HD := Lib.hid hd
  have HB := Lib.hid (below_alloc_keep (o := .cells #[.int .i64 (hiW d.s), .int .u64 (loW d.s), .int .i64 d.mn, .int .i64 d.mx] 74) hb)
  clear hd hb HQ
  unfold nodeV
  go_wp2_with fail
  go_ret2
  exact ⟨d, HD.out, pair_ret rfl HB.out⟩
end
end Go.Proofs.Ytfmbbfidjcgeiaa

namespace Go.Proofs.Ytfmbbfidjcgeiaa
open Go.RowKit Go.Lib

def awk8 : Tup := ⟨[], 5, 6, []⟩
theorem awk8_ext : extL (clampD 3) [awk8] = [⟨[], 5, 8, []⟩] := by
  have h : pvalid awk8.lo awk8.hi = true ∧ awk8.lo < 1000000 := by decide
  unfold extL
  rw [List.flatMap_cons, List.flatMap_nil, List.append_nil]
  unfold extT
  rw [if_pos h]
  rfl
theorem gint_ne {a b : Int} (h : a ≠ b) : cmpG (gint a) (gint b) ≠ 0 := fun e => h (by
  have := congrArg GVal.n (cmpG_zero.1 e)
  exact this)
theorem awk8_pts : mvPts [⟨[], 5, 8, []⟩] = [0, 5, 8, 1000000] := by
  refine asc_unique (mvPts_asc _) (by decide) fun x => ?_
  rw [mvPts_mem, show allEnds [⟨[], 5, 8, []⟩] = [5, 8] by decide +kernel]
  simp
  omega
theorem awk8_mov : movL [awk8] [] 0 3 1 = [⟨0, 5, gint 0⟩, ⟨5, 8, gint 1⟩, ⟨8, 1000000, gint 0⟩] := by
  unfold movL
  rw [awk8_ext, awk8_pts]
  have h : ∀ p, aggT [] 0 1 (holdL [⟨[], 5, 8, []⟩] p) = gint (holdL [⟨[], 5, 8, []⟩] p).length := fun p => by unfold aggT aggP; rw [if_pos rfl, List.length_map]
  simp only [h]
  have h0 : (holdL [⟨[], 5, 8, []⟩] 0).length = 0 := by decide +kernel
  have h1 : (holdL [⟨[], 5, 8, []⟩] 5).length = 1 := by decide +kernel
  have h2 : (holdL [⟨[], 5, 8, []⟩] 8).length = 0 := by decide +kernel
  simp only [stepsL, stepsTo, List.length_cons, List.length_nil, Nat.add_one_sub_one, List.getElem?_cons_zero, List.getElem?_cons_succ, Option.getD_some, h0, h1, h2, putStep_nil]
  show putStep (putStep [⟨0, 5, gint 0⟩] ⟨5, 8, gint 1⟩) ⟨8, 1000000, gint 0⟩ = _
  rw [putStep_new (out := [⟨0, 5, gint 0⟩]) (z := ⟨0, 5, gint 0⟩) rfl (gint_ne (by decide)), putStep_new (z := ⟨5, 8, gint 1⟩) rfl (gint_ne (by decide))]
  rfl
theorem awk8_num : Num64 [3, -1, 4] := by
  intro x hx
  simp at hx
  omega
theorem awk8_sum : sumI (elts [3, -1, 4] 0 2) = 2 := by decide +kernel
theorem awk8_max {d : Nd} (h : Sm (elts [3, -1, 4] 0 3) d) : d.mx = 4 := by
  have e : elts [3, -1, 4] 0 3 = [3, -1, 4] := by decide +kernel
  rw [e] at h
  have h1 := h.mx
  have h2 := h.high 4 (by simp)
  simp at h1
  omega
def QuietW (w : World) (e : Ending) (w' : World) : Prop := e = .returned (.bool true) ∧ Below w.heap.size w w'
set_option maxHeartbeats 8000000 in
set_option maxRecDepth 100000 in
theorem awake18_any (w : World) : Calls Try.prog 10 #[] w (QuietW w) := by
  have hl : Sl i64E (w.alloc (.cells #[.int .i64 3, .int .i64 (-1), .int .i64 4] 2)) free (.slice (some ⟨w.heap.size, 0, none⟩) 3 3) [3, -1, 4] :=
    Sl.of_block (World.alloc_heap_new _ _) ⟨rfl, fun i x hx => by
      rcases i with _ | _ | _ | i
      · cases hx; rfl
      · cases hx; rfl
      · cases hx; rfl
      · simp at hx⟩ id rfl (by decide) (by decide)
  have HN := Lib.hid (new_tree _ [3, -1, 4] _ hl awk8_num (by decide))
  clear hl
  go_enter Try.func10, Try.ntmps10
  go_wp2_with fail
  refine HN.out.mono ?_
  rintro _ w1 ⟨p, nd, rfl, hT, hTN, hb1⟩
  have hb1' : Below w.heap.size w w1 := below_alloc2' hb1
  have HB1 := Lib.hid hb1'
  have HT1 := Lib.hid hT
  have HTN := Lib.hid hTN
  have HS := Lib.hid (sum_yes 0 2 w1 hT hTN rfl awk8_num (by decide) (by decide) (by decide))
  rw [awk8_sum, if_pos (by decide)] at HS
  clear hb1 hb1' hT hTN HN
  go_wp2_with fail
  refine HS.out.mono ?_
  rintro _ w2 ⟨rfl, hb2⟩
  have HB2 := Lib.hid (below_keep HB1.out hb2)
  have HT2 := Lib.hid (HT1.out.below hb2)
  have HS := Lib.hid (max_yes 0 3 w2 HT2.out HTN.out rfl awk8_num (by decide) (by decide) (by decide))
  clear hb2 HT1 HB1
  go_wp2_with fail
  refine HS.out.mono ?_
  rintro _ w3 ⟨d, hd, rfl, hb3⟩
  rw [awk8_max hd]
  have HB3 := Lib.hid (below_keep HB2.out hb3)
  have HT3 := Lib.hid (HT2.out.below hb3)
  have HS := Lib.hid (min_no 1 1 w3 HT3.out (by omega))
  clear hb3 HT2 HB2 hd
  go_wp2_with fail
  refine HS.out.mono ?_
  rintro _ w4 ⟨rfl, hb4⟩
  have HB4 := Lib.hid (below_keep HB3.out hb4)
  have HT4 := Lib.hid (HT3.out.below hb4)
  have HL : Hid (Sl tupE (w4.alloc (.cells #[.slice none 0 0, .int .i64 5, .int .i64 6, .slice none 0 0] 51)) free (.slice (some ⟨w4.heap.size, 0, none⟩) 1 1) [awk8]) := Lib.hid ((own_lit (E := tupE) (Els.one ⟨_, _, rfl, Sl.nil _ _ _ _ _, Sl.nil _ _ _ _ _⟩) rfl (by decide)).sl)
  have HM := Lib.hid (moving_any _ (.slice none 0 0) [awk8] [] 0 3 1 _ HL.out (Sl.nil _ _ _ _ _) (by decide) (by decide) (by simp) (by simp [awk8]))
  rw [awk8_mov] at HM
  clear hb4 HT3 HB3 HL
  go_wp2_with fail
  refine HM.out.mono ?_
  rintro _ w5 ⟨vs, rfl, hO, hb5⟩
  obtain ⟨g, c, rfl⟩ := hO.shape_pos (by decide)
  have HB5 := Lib.hid (below_keep HB4.out (below_alloc2' hb5))
  have HT5 := Lib.hid (HT4.out.below (below_alloc2' hb5))
  obtain ⟨s0, s1, _, _, _⟩ := stp_at (k := 1) hO rfl
  have HS := Lib.hid (len_tree w5 HT5.out)
  clear hb5 HT4 HB4 hO HM
  go_wp2_with fail
  refine HS.out.mono ?_
  rintro _ _ ⟨rfl, rfl⟩
  go_wp2_with fail
  go_ret
  exact ⟨rfl, HB5.out⟩
end Go.Proofs.Ytfmbbfidjcgeiaa

namespace Go.Proofs.Ytfmbbfidjcgeiaa
open Go.RowKit Go.Lib

theorem i32_info : (Try.prog.info? 21).map (fun i => (i.zero, i.size, i.bytes)) = some (some (.int .i32 0), 1, 4) := by kernel_rfl
def i32E : El Try.prog Int := El.flat 21 1 4 (by decide) (info_mk i32_info rfl) (fun x => [.int .i32 x]) (fun _ => rfl) (by intro x u hu; simp at hu; subst hu; rfl)
theorem i32_at {w : World} {G : Nat → Prop} {a : Option Addr} {n c k : Nat} {l : List Int} {x : Int} (h : Sl i32E w G (.slice a n c) l) (hk : l[k]? = some x) : ∃ b o, a = some ⟨b, o, none⟩ ∧ w.cell? ⟨b, o + k, none⟩ = some (.int .i32 x) := by
  obtain ⟨b, o, cs, ha, rfl, hc⟩ := h.at hk
  have := hc 0 _ rfl
  rw [show i32E.size = 1 from rfl, Nat.mul_one, Nat.add_zero] at this
  exact ⟨b, o, ha, this⟩
def Num32 (a : List Int) : Prop := ∀ x ∈ a, -2147483648 ≤ x ∧ x ≤ 2147483647
section
variable {B p g n : Nat} {a : List Int} {nd : List Nd}
theorem sum32 (hq : Num32 a) (hl : a.length ≤ 200) (f t : Nat) (ht : t ≤ a.length) : In64B (sumI (elts a f t)) = true := by
  have hb := sumI_bound (q := 2147483648) (l := elts a f t) fun x hx => by
    unfold elts at hx
    obtain ⟨k, _, rfl⟩ := List.mem_map.1 hx
    exact elt_bound (by omega) (fun x hx => by have := hq x hx; omega) k
  have hl2 : (elts a f t).length ≤ 200 := by unfold elts; rw [List.length_map, List.length_range']; omega
  rw [In64B_iff]
  have hl' : ((elts a f t).length : Int) ≤ 200 := by omega
  omega
theorem elts_empty (f : Nat) : elts a f f = [] := by unfold elts; rw [Nat.sub_self]; rfl
theorem sum_le (f t : Nat) (w : World) (hT : TreeAt w B p g nd n) (hN : TreeN a nd) (hn : a.length = n) (hq : Num32 a) (hl : n ≤ 200) (h : f ≤ t) (ht : t ≤ n) :
    Calls Try.prog 12 #[.pointer (some ⟨p, 0, none⟩), .int .i64 (f : Int), .int .i64 (t : Int)] w (PairRet w (sumI (elts a f t), true)) := by
  rcases Nat.lt_or_eq_of_le h with h | rfl
  · have := sum_yes f t w hT hN hn (fun x hx => by have := hq x hx; omega) hl h ht
    rw [if_pos (sum32 hq (by omega) f t (by omega))] at this
    exact this
  · rw [elts_empty]
    exact sum_zero f w hT (by omega)
/-- Max of a range that may be empty. -/
def MaxRet (w : World) (l : List Int) (e : Ending) (w' : World) : Prop := ∃ (x : Int) (q : Bool), (q = true ↔ l ≠ []) ∧ (q = true → ∃ d, Sm l d ∧ x = d.mx) ∧ PairRet w (x, q) e w'
theorem max_le (f t : Nat) (w : World) (hT : TreeAt w B p g nd n) (hN : TreeN a nd) (hn : a.length = n) (hq : Num64 a) (hl : n ≤ 200) (h : f ≤ t) (ht : t ≤ n) :
    Calls Try.prog 14 #[.pointer (some ⟨p, 0, none⟩), .int .i64 (f : Int), .int .i64 (t : Int)] w (MaxRet w (elts a f t)) := by
  rcases Nat.lt_or_eq_of_le h with h | rfl
  · refine (max_yes f t w hT hN hn hq hl h ht).mono ?_
    rintro e w' ⟨d, hd, hp⟩
    refine ⟨d.mx, true, ⟨fun _ e => ?_, fun _ => rfl⟩, fun _ => ⟨d, hd, rfl⟩, hp⟩
    have := hd.mx
    rw [e] at this
    cases this
  · refine (max_no (f : Int) (f : Int) w hT (by omega)).mono ?_
    rintro e w' hp
    rw [elts_empty]
    exact ⟨0, false, by simp, (fun h => by cases h), hp⟩
end
/-- What the law's numbers are to each other. -/
theorem split_law {l m : List Int} {dm dl dh dr : Nd} {x : Int} {q : Bool} (hm : Sm m dm) (hl : Sm (l ++ m) dl) (hh : Sm (l ++ m) dh) (hr : Sm m dr) (hq1 : q = true ↔ l ≠ []) (hq2 : q = true → ∃ d, Sm l d ∧ x = d.mx) :
    dl.mn ≤ dm.mn ∧ dh.mx = (if q = true ∧ dr.mx < x then x else dr.mx) ∧ sumI (l ++ m) = sumI l + sumI m := by
  refine ⟨hl.low _ (List.mem_append.2 (.inr hm.mn)), ?_, sumI_append _ _⟩
  have h1 := hh.mx
  have h2 := hh.high _ (List.mem_append.2 (.inr hr.mx))
  by_cases h : q = true
  · obtain ⟨d, hd, rfl⟩ := hq2 h
    have h3 := hh.high _ (List.mem_append.2 (.inl hd.mx))
    by_cases hlt : dr.mx < d.mx
    · rw [if_pos ⟨h, hlt⟩]
      rcases List.mem_append.1 h1 with h4 | h4
      · have := hd.high _ h4
        omega
      · have := hr.high _ h4
        omega
    · rw [if_neg (fun e => hlt e.2)]
      rcases List.mem_append.1 h1 with h4 | h4
      · have := hd.high _ h4
        omega
      · have := hr.high _ h4
        omega
  · have he : l = [] := Classical.byContradiction fun e => h (hq1.2 e)
    subst he
    rw [if_neg (fun e => h e.1)]
    have := hr.high _ h1
    omega
set_option maxHeartbeats 16000000 in
set_option maxRecDepth 100000 in
theorem split_walk18 (v : Value) (a : List Int) (i j k : Nat) (w : World) (hv : Sl i32E w free v a) (hq : Num32 a) (hi : i < 256) (hj : j < 256) (hk : k < 256) :
    Calls Try.prog 3 #[v, .int .u8 (i : Int), .int .u8 (j : Int), .int .u8 (k : Int)] w (QuietW w) := by
  obtain ⟨sa, sc, rfl⟩ := hv.shape
  have h63 := hv.1
  have HV := Lib.hid hv
  obtain ⟨n, hn⟩ : ∃ n, n = a.length := ⟨_, rfl⟩
  have HN := Lib.hid hn
  have HQ := Lib.hid hq
  rw [← hn] at HV h63 ⊢
  clear hv hn hq
  by_cases hc : n = 0 ∨ 200 < n
  · have HA := Lib.hid (awake18_any w)
    rcases hc with rfl | hc
    · go_enter Try.func3, Try.ntmps3
      go_wp2_with fail
      refine HA.out.mono ?_
      rintro _ w1 ⟨rfl, hb⟩
      go_wp2_with fail
      go_ret
      exact ⟨rfl, hb⟩
    · have h0 : ¬ n = 0 := by omega
      have h1 : (200 : Int) < (n : Int) := by omega
      go_enter Try.func3, Try.ntmps3
      go_wp2_with fail
      refine HA.out.mono ?_
      rintro _ w1 ⟨rfl, hb⟩
      go_wp2_with fail
      go_ret
      exact ⟨rfl, hb⟩
  · have hn0 : 0 < n := by omega
    have hn2 : n ≤ 200 := by omega
    have h0 : ¬ n = 0 := by omega
    have h1 : ¬ (200 : Int) < (n : Int) := by omega
    clear hc
    go_enter Try.func3, Try.ntmps3
    go_wp2_with fail
    go_loopw [43, 9] (fun i o wr => ∃ m : Nat, m ≤ n ∧ i = .int .i64 (m : Int) ∧ Own i64E wr w.heap.size o (a.take m) ∧ Hid (Below w.heap.size w wr)) (fun i _ _ => n - (intOf i).toNat)
    case atStart => exact ⟨0, Nat.zero_le _, rfl, Own.nil _ _ _, Lib.hid (.refl _ _)⟩
    case round =>
      obtain ⟨m, hm, rfl, hO, HB⟩ := hrel
      obtain ⟨wo, rfl⟩ : ∃ wo : World, wo = wr := ⟨_, rfl⟩
      by_cases hlt : m < n
      · obtain ⟨x, hx⟩ := lget_some a m (by rw [← HN.out]; exact hlt)
        obtain ⟨b, o, rfl, cx⟩ := i32_at (HV.out.below HB.out) hx
        obtain ⟨hx1, hx2⟩ := HQ.out x (List.mem_of_getElem? hx)
        have HT := Lib.hid (take_get hx)
        have hml : (a.take m).length = m := by rw [List.length_take, ← HN.out]; omega
        obtain ⟨lk, hlk⟩ : ∃ lk, lk = a.take m := ⟨_, rfl⟩
        rw [← hlk] at hO HT hml
        obtain ⟨ao, co, rfl⟩ := hO.shape
        have HO := Lib.hid hO
        have hll : lk.length ≤ 200 := by omega
        clear hx hO hlk hml
        go_wp2_with (at_builtin; refine wpList_push rfl (.tmp 47) (.tmp 50) 24 rfl i64E Try.underlying24 w.heap.size (.slice ao lk.length co) lk rfl HO.out [x] #[.int .i64 x] (Els.one rfl) 1 1 rfl rfl (by decide) (by unfold maxLen; omega) (by show _ * 8 ≤ _; omega) HB.out.size ?_; intro g cap w5 hP hPa)
        go_roundw
        case rel => exact ⟨m + 1, by omega, by go_num, by rw [HT.out]; exact hP.own' (by simp), Lib.hid (HB.out.trans hP.below)⟩
        case measure => simp [intOf]; omega
      · have hmk : a.take m = a := List.take_of_length_le (by rw [← HN.out]; omega)
        rw [hmk] at hO
        obtain ⟨ao, co, rfl⟩ := hO.shape
        have HNT := Lib.hid (new_tree _ a wo hO.sl (fun x hx => by have := HQ.out x hx; omega) (by rw [← HN.out]; exact hn2))
        rw [← HN.out] at HNT ⊢
        clear hO hmk
        go_wp2_with fail
        refine HNT.out.mono ?_
        rintro _ w1 ⟨p, nd, rfl, hT, hTN, hb1⟩
        have HB1 := Lib.hid (below_keep HB.out hb1)
        have HT1 := Lib.hid hT
        have HTN := Lib.hid hTN
        obtain ⟨f, hf⟩ : ∃ f : Nat, f = i % n := ⟨_, rfl⟩
        have hfn : f < n := by rw [hf]; exact Nat.mod_lt _ hn0
        have e1 : (i : Int) % (n : Int) = (f : Int) := by omega
        obtain ⟨nf, hnf⟩ : ∃ nf : Nat, nf = n - f := ⟨_, rfl⟩
        have e2 : (n : Int) - (f : Int) = (nf : Int) := by omega
        obtain ⟨jr, hjr⟩ : ∃ jr : Nat, jr = j % nf := ⟨_, rfl⟩
        have hjn : jr < nf := by rw [hjr]; exact Nat.mod_lt _ (by omega)
        have e3 : (j : Int) % (nf : Int) = (jr : Int) := by omega
        obtain ⟨t, ht⟩ : ∃ t : Nat, t = f + jr + 1 := ⟨_, rfl⟩
        have e4 : (f : Int) + (jr : Int) + 1 = (t : Int) := by omega
        obtain ⟨tf, htf⟩ : ∃ tf : Nat, tf = t - f := ⟨_, rfl⟩
        have e5 : (t : Int) - (f : Int) = (tf : Int) := by omega
        obtain ⟨kr, hkr⟩ : ∃ kr : Nat, kr = k % tf := ⟨_, rfl⟩
        have hkn : kr < tf := by rw [hkr]; exact Nat.mod_lt _ (by omega)
        have e6 : (k : Int) % (tf : Int) = (kr : Int) := by omega
        obtain ⟨mid, hmid⟩ : ∃ mid : Nat, mid = f + kr := ⟨_, rfl⟩
        have e7 : (f : Int) + (kr : Int) = (mid : Int) := by omega
        have z1 : ¬ (nf : Int) = 0 := by omega
        have z2 : ¬ (tf : Int) = 0 := by omega
        have z3 : ¬ nf = 0 := by omega
        have z4 : ¬ tf = 0 := by omega
        have b1 : f ≤ 200 := by omega
        have b2 : nf ≤ 200 := by omega
        have b3 : jr ≤ 200 := by omega
        have b4 : t ≤ n := by omega
        have b5 : tf ≤ 200 := by omega
        have b6 : kr ≤ 200 := by omega
        have b7 : mid ≤ 200 := by omega
        have b8 : f ≤ mid := by omega
        have b9 : mid < t := by omega
        have b10 : f < t := by omega
        have HQ64 : Hid (Num64 a) := Lib.hid (fun x hx => by have := HQ.out x hx; omega)
        have HS1 := Lib.hid (sum_le f t w1 HT1.out HTN.out HN.out.symm HQ.out hn2 (by omega) b4)
        have HSP := Lib.hid (elts_split (a := a) b8 (Nat.le_of_lt b9))
        clear hf hnf hjr ht htf hkr hmid hb1 hT hTN HNT
        go_upto_region 11 with fail
        rw [e1]
        clear e1
        go_wp2_with fail
        refine HS1.out.mono ?_
        rintro _ w2 ⟨rfl, hb⟩
        have HB2 := Lib.hid (below_keep HB1.out hb)
        have HT2 := Lib.hid (HT1.out.below hb)
        have HS2 := Lib.hid (sum_le f mid w2 HT2.out HTN.out HN.out.symm HQ.out hn2 b8 (by omega))
        clear e2 e3 e4 e5 e6 e7 z1 z2 z3 z4 hb HS1 HB1 HT1
        go_wp2_with fail
        refine HS2.out.mono ?_
        rintro _ w3 ⟨rfl, hb⟩
        have HB3 := Lib.hid (below_keep HB2.out hb)
        have HT3 := Lib.hid (HT2.out.below hb)
        have HS3 := Lib.hid (sum_le mid t w3 HT3.out HTN.out HN.out.symm HQ.out hn2 (by omega) b4)
        clear hb HS2 HB2 HT2
        go_wp2_with fail
        refine HS3.out.mono ?_
        rintro _ w4 ⟨rfl, hb⟩
        have HB4 := Lib.hid (below_keep HB3.out hb)
        have HT4 := Lib.hid (HT3.out.below hb)
        have HS4 := Lib.hid (min_yes mid t w4 HT4.out HTN.out HN.out.symm HQ64.out hn2 b9 b4)
        clear hb HS3 HB3 HT3
        go_wp2_with fail
        refine HS4.out.mono ?_
        rintro _ w5 ⟨dm, hdm, rfl, hb⟩
        have HB5 := Lib.hid (below_keep HB4.out hb)
        have HT5 := Lib.hid (HT4.out.below hb)
        have HDM := Lib.hid hdm
        have HS5 := Lib.hid (min_yes f t w5 HT5.out HTN.out HN.out.symm HQ64.out hn2 b10 b4)
        clear hb HS4 HB4 HT4 hdm
        go_wp2_with fail
        refine HS5.out.mono ?_
        rintro _ w6 ⟨dl, hdl, rfl, hb⟩
        have HB6 := Lib.hid (below_keep HB5.out hb)
        have HT6 := Lib.hid (HT5.out.below hb)
        have HDL := Lib.hid hdl
        have HS6 := Lib.hid (max_yes f t w6 HT6.out HTN.out HN.out.symm HQ64.out hn2 b10 b4)
        clear hb HS5 HB5 HT5 hdl
        go_wp2_with fail
        refine HS6.out.mono ?_
        rintro _ w7 ⟨dh, hdh, rfl, hb⟩
        have HB7 := Lib.hid (below_keep HB6.out hb)
        have HT7 := Lib.hid (HT6.out.below hb)
        have HDH := Lib.hid hdh
        have HS7 := Lib.hid (max_le f mid w7 HT7.out HTN.out HN.out.symm HQ64.out hn2 b8 (by omega))
        clear hb HS6 HB6 HT6 hdh
        go_wp2_with fail
        refine HS7.out.mono ?_
        rintro _ w8 ⟨x, q, hq1, hq2, rfl, hb⟩
        have HB8 := Lib.hid (below_keep HB7.out hb)
        have HT8 := Lib.hid (HT7.out.below hb)
        have HX1 := Lib.hid hq1
        have HX2 := Lib.hid hq2
        have HS8 := Lib.hid (max_yes mid t w8 HT8.out HTN.out HN.out.symm HQ64.out hn2 b9 b4)
        clear hb HS7 HB7 HT7 hq1 hq2
        go_wp2_with fail
        refine HS8.out.mono ?_
        rintro _ w9 ⟨dr, hdr, rfl, hb⟩
        have HB9 := Lib.hid (below_keep HB8.out hb)
        have hd := HDL.out
        have hh := HDH.out
        rw [HSP.out] at hd hh
        obtain ⟨r1, r2, r3⟩ := split_law HDM.out hd hh hdr HX1.out HX2.out
        rw [← HSP.out] at r3
        have HA := Lib.hid (awake18_any w9)
        have s64 : In64B (sumI (elts a f mid) + sumI (elts a mid t)) = true := by
          rw [← r3]
          exact sum32 HQ.out (by rw [← HN.out]; exact hn2) f t (by rw [← HN.out]; exact b4)
        rw [In64B_iff] at s64
        obtain ⟨s641, s642⟩ := s64
        rw [r3]
        generalize sumI (elts a f mid) = A at *
        generalize sumI (elts a mid t) = C at *
        generalize dl.mn = lo at *
        generalize dm.mn = mm at *
        generalize dh.mx = hi' at *
        generalize dr.mx = right at *
        clear hb HS8 HB8 HT8 hdr hd hh r3
        subst r2
        by_cases hqx : q = true ∧ right < x
        · obtain ⟨rfl, hlx⟩ := hqx
          rw [if_pos ⟨rfl, hlx⟩]
          go_wp2_with fail
          refine HA.out.mono ?_
          rintro _ w10 ⟨rfl, hb⟩
          have HB10 := Lib.hid (below_keep HB9.out hb)
          clear hb
          go_wp2_with fail
          go_ret
          exact ⟨rfl, HB10.out⟩
        · rw [if_neg hqx]
          cases q
          · go_wp2_with fail
            refine HA.out.mono ?_
            rintro _ w10 ⟨rfl, hb⟩
            have HB10 := Lib.hid (below_keep HB9.out hb)
            clear hb
            go_wp2_with fail
            go_ret
            exact ⟨rfl, HB10.out⟩
          · have hlx : ¬ right < x := fun h => hqx ⟨rfl, h⟩
            go_wp2_with fail
            refine HA.out.mono ?_
            rintro _ w10 ⟨rfl, hb⟩
            have HB10 := Lib.hid (below_keep HB9.out hb)
            clear hb
            go_wp2_with fail
            go_ret
            exact ⟨rfl, HB10.out⟩
end Go.Proofs.Ytfmbbfidjcgeiaa

namespace Go.Proofs.Ytfmbbfidjcgeiaa
open Go.ChangeShapes Go.WideShapes Go.ChangeAt Go.RowKit

theorem cells_i64' : Try.prog.cellsOf 2 = 1 := by kernel_rfl
theorem cells_i32' : Try.prog.cellsOf 21 = 1 := by kernel_rfl
section
variable {H : Type} {enc : TypeId × Value → H} {w : World} {spare : Nat → Bool}
theorem open_i64_el (n : Nat) (cs : List Value) (y : DataW H × List MemPlace) (h : DataW.trod enc Try.prog w 0 spare true n 2 cs = some y) (hl : cs.length = 1) : ∃ x, i64E.is w free x cs ∧ Is64 x := by
  match cs, hl with
  | [c0], _ =>
    obtain ⟨k0, e0, _, hw⟩ := DataW.trod_int Try.underlying2 h
    simp at e0
    subst e0
    exact ⟨k0, rfl, is64_of hw⟩
def Is32 (x : Int) : Prop := -2147483648 ≤ x ∧ x ≤ 2147483647
theorem open_i32_el (n : Nat) (cs : List Value) (y : DataW H × List MemPlace) (h : DataW.trod enc Try.prog w 0 spare true n 21 cs = some y) (hl : cs.length = 1) : ∃ x, i32E.is w free x cs ∧ Is32 x := by
  match cs, hl with
  | [c0], _ =>
    obtain ⟨k0, e0, _, hw⟩ := DataW.trod_int Try.underlying21 h
    simp at e0
    subst e0
    refine ⟨k0, rfl, ?_⟩
    simp [Lit.wf, IntKind.min, IntKind.max, IntKind.signed, IntKind.bits] at hw
    unfold Is32
    omega
set_option maxRecDepth 10000 in
theorem open_u8a {base : Nat} {v : Value} {d : DataW H} {ps : List MemPlace}
    (hv : Value.okWide Try.prog w .any base 5 v) (h : DataW.Trod enc Try.prog w 0 spare true 5 v d ps) : ∃ x : Nat, v = .int .u8 (x : Int) ∧ x < 256 := by
  obtain ⟨n, rfl, _, _, hw⟩ := open_int Try.underlying5 hv h
  simp [Lit.wf, IntKind.min, IntKind.max, IntKind.signed, IntKind.bits] at hw
  obtain ⟨k, rfl⟩ := Int.eq_ofNat_of_zero_le hw.1
  exact ⟨k, rfl, by omega⟩
set_option maxRecDepth 10000 in
theorem open_u16a {base : Nat} {v : Value} {d : DataW H} {ps : List MemPlace}
    (hv : Value.okWide Try.prog w .any base 38 v) (h : DataW.Trod enc Try.prog w 0 spare true 38 v d ps) : ∃ x : Nat, v = .int .u16 (x : Int) ∧ x < 65536 := by
  obtain ⟨n, rfl, _, _, hw⟩ := open_int Try.underlying38 hv h
  simp [Lit.wf, IntKind.min, IntKind.max, IntKind.signed, IntKind.bits] at hw
  obtain ⟨k, rfl⟩ := Int.eq_ofNat_of_zero_le hw.1
  exact ⟨k, rfl, by omega⟩
set_option maxRecDepth 10000 in
theorem open_i64a {base : Nat} {v : Value} {d : DataW H} {ps : List MemPlace}
    (hv : Value.okWide Try.prog w .any base 2 v) (h : DataW.Trod enc Try.prog w 0 spare true 2 v d ps) : ∃ x : Int, v = .int .i64 x ∧ Is64 x := by
  obtain ⟨n, rfl, _, _, hw⟩ := open_int Try.underlying2 hv h
  exact ⟨n, rfl, is64_of hw⟩
set_option maxRecDepth 10000 in
theorem open_inta {base : Nat} {v : Value} {d : DataW H} {ps : List MemPlace}
    (hv : Value.okWide Try.prog w .any base 3 v) (h : DataW.Trod enc Try.prog w 0 spare true 3 v d ps) : ∃ x : Int, v = .int .i64 x ∧ Is64 x := by
  obtain ⟨n, rfl, _, _, hw⟩ := open_int Try.underlying3 hv h
  exact ⟨n, rfl, is64_of hw⟩
end
end Go.Proofs.Ytfmbbfidjcgeiaa

namespace Go.Proofs.Ytfmbbfidjcgeiaa
open Go.RowKit Go.Lib

theorem sm_one {a : List Int} {k : Nat} {x : Int} {d : Nd} (hk : a[k]? = some x) (h : Sm (elts a k (k + 1)) d) : d.mn = x ∧ d.mx = x := by
  rw [elts_one] at h
  have e : elt a k = x := by unfold elt; rw [hk]; rfl
  rw [e] at h
  have h1 := h.mn
  have h2 := h.mx
  simp at h1 h2
  exact ⟨h1, h2⟩
set_option maxHeartbeats 16000000 in
set_option maxRecDepth 100000 in
theorem copies_walk (v : Value) (a : List Int) (x : Int) (i : Nat) (w : World) (hv : Sl i64E w free v a) (hq : Num64 a) (hx : -9223372036854775808 ≤ x ∧ x ≤ 9223372036854775807) (hi : i < 256) :
    Calls Try.prog 8 #[v, .int .i64 x, .int .u8 (i : Int)] w (QuietW w) := by
  obtain ⟨sa, sc, rfl⟩ := hv.shape
  have h63 := hv.1
  have HV := Lib.hid hv
  obtain ⟨n, hn⟩ : ∃ n, n = a.length := ⟨_, rfl⟩
  have HN := Lib.hid hn
  have HQ := Lib.hid hq
  have HXX := Lib.hid hx
  rw [← hn] at HV h63 ⊢
  clear hv hn hq hx
  by_cases hc : n = 0 ∨ 200 < n
  · have HA := Lib.hid (awake18_any w)
    rcases hc with rfl | hc
    · go_enter Try.func8, Try.ntmps8
      go_wp2_with fail
      refine HA.out.mono ?_
      rintro _ w1 ⟨rfl, hb⟩
      go_wp2_with fail
      go_ret
      exact ⟨rfl, hb⟩
    · have h0 : ¬ n = 0 := by omega
      have h1 : (200 : Int) < (n : Int) := by omega
      go_enter Try.func8, Try.ntmps8
      go_wp2_with fail
      refine HA.out.mono ?_
      rintro _ w1 ⟨rfl, hb⟩
      go_wp2_with fail
      go_ret
      exact ⟨rfl, hb⟩
  · have hn0 : 0 < n := by omega
    have hn2 : n ≤ 200 := by omega
    have h0 : ¬ n = 0 := by omega
    have h1 : ¬ (200 : Int) < (n : Int) := by omega
    clear hc
    go_enter Try.func8, Try.ntmps8
    go_wp2_with (at_builtin; refine wpList_join rfl (.const (.slice none 0 0)) (.tmp 24) 24 rfl i64E Try.underlying24 w.heap.size (.slice none 0 0) (.slice sa n sc) [] a rfl rfl (Own.nil _ _ _) (HV.out.mono (fun _ _ h => by simp [Value.ownBlock] at h)) (by rw [← HN.out]; unfold maxLen; simp; omega) (by rw [← HN.out]; show _ * 8 ≤ _; simp; omega) (Nat.le_refl _) n (by rw [← HN.out]; simp) ?_; intro aj cj w1 hJ)
    have hO1 : Own i64E w1 w.heap.size (.slice aj n cj) a := hJ.own
    have hb1 : Below w.heap.size w w1 := hJ.below
    have HNT := Lib.hid (new_tree _ a w1 hO1.sl HQ.out (by rw [← HN.out]; exact hn2))
    rw [← HN.out] at HNT
    have HB1 := Lib.hid hb1
    have HO1 := Lib.hid hO1
    have HOL := Lib.hid hO1.lt
    clear hJ hO1 hb1
    go_wp2_with fail
    refine HNT.out.mono ?_
    rintro _ w2 ⟨p, nd, rfl, hT, hTN, hb⟩
    have HB2 := Lib.hid (below_keep HB1.out hb)
    have HT2 := Lib.hid hT
    have HTN := Lib.hid hTN
    have HO2 := Lib.hid (HO1.out.below hb)
    obtain ⟨k, hk⟩ : ∃ k : Nat, k = i % n := ⟨_, rfl⟩
    have hkn : k < n := by rw [hk]; exact Nat.mod_lt _ hn0
    have e1 : (i : Int) % (n : Int) = (k : Int) := by omega
    obtain ⟨y, hy⟩ := lget_some a k (by rw [← HN.out]; exact hkn)
    have hp := HT2.out.baseg
    clear hk hb hT hTN HNT HO1
    obtain ⟨gq, cq, hsh⟩ := HO2.out.shape_pos (by rw [← HN.out]; exact hn0)
    rw [← HN.out] at hsh
    cases hsh
    have hyc : w2.cell? ⟨gq, k, none⟩ = some (.int .i64 y) := by
      obtain ⟨b, o, e, hc⟩ := i64_at HO2.out.sl hy
      cases e
      simpa using hc
    have hput := (HO2.out.put (E := i64E) (k := k) (x := x) (cs := [.int .i64 x]) HN.out.symm hkn rfl).1
    have hput2 : Own i64E (w2.setCell ⟨gq, k * 1, none⟩ (.int .i64 x)) w.heap.size (.slice (some ⟨gq, 0, none⟩) n cj) (a.set k x) := hput
    rw [Nat.mul_one] at hput2
    have hfz : w2.frozen? ⟨gq, k, none⟩ = false := HO2.out.frozen HN.out.symm _
    have hgw : w.heap.size ≤ gq := (HOL.out gq rfl).1
    have hg1 : gq < w1.heap.size := (HOL.out gq rfl).2
    have HB3 : Hid (Below w.heap.size w (w2.setCell ⟨gq, k, none⟩ (.int .i64 x))) := Lib.hid (HB2.out.setCell hgw _)
    have HT3 : Hid (TreeAt (w2.setCell ⟨gq, k, none⟩ (.int .i64 x)) w1.heap.size p w1.heap.size nd n) := Lib.hid (HT2.out.kept (kept_set (G := fun m => m = gq) (q := ⟨gq, k, none⟩) rfl) (by have := HT2.out.base; omega) (by omega))
    have hkI : (k : Int) < (n : Int) := by omega
    have HE2 : Hid ((k : Int) + 1 = ((k + 1 : Nat) : Int)) := Lib.hid (by omega)
    have hgz : gq < w2.heap.size := World.block_lt_of_cell? _ _ hyc
    clear hput hput2
    go_upto_region 6 with fail
    rw [e1]
    clear e1
    go_upto_region 7 with fail
    obtain ⟨w3, hw3⟩ : ∃ w3, w3 = w2.setCell ⟨gq, k, none⟩ (.int .i64 x) := ⟨_, rfl⟩
    rw [← hw3] at HB3 HT3 ⊢
    have HMN := Lib.hid (min_yes k (k + 1) w3 HT3.out HTN.out HN.out.symm HQ.out hn2 (Nat.lt_succ_self _) hkn)
    have HY := Lib.hid hy
    clear hw3 hyc hfz HB2 HT2 HO2 hy
    rw [← HE2.out] at HMN
    go_wp2_with fail
    refine HMN.out.mono ?_
    rintro _ w4 ⟨d, hd, rfl, hb⟩
    obtain ⟨hd1, _⟩ := sm_one HY.out hd
    rw [hd1]
    have HB4 := Lib.hid (below_keep HB3.out hb)
    have HT4 := Lib.hid (HT3.out.below hb)
    have HST := Lib.hid (set_yes a nd k x w4 HT4.out HTN.out HN.out.symm HQ.out hn2 hkn HXX.out)
    clear hd hd1 hb HMN HB3 HT3
    go_wp2_with fail
    refine HST.out.mono ?_
    rintro _ w5 ⟨nd2, rfl, hT, hTN, hg⟩
    have HB5 : Hid (Below w.heap.size w w5) := Lib.hid (HB4.out.grown hg HB4.out.size (fun j hj => by cases hj; exact HB1.out.size))
    have HT5 := Lib.hid hT
    have HTN5 := Lib.hid hTN
    have HMX := Lib.hid (max_yes k (k + 1) w5 HT5.out HTN5.out (by rw [List.length_set]; exact HN.out.symm) (fun z hz => by
      rcases List.mem_or_eq_of_mem_set hz with h | h
      · exact HQ.out z h
      · rw [h]; exact HXX.out) hn2 (Nat.lt_succ_self _) hkn)
    rw [← HE2.out] at HMX
    clear hT hTN hg HST HB4 HT4 HTN
    go_wp2_with fail
    refine HMX.out.mono ?_
    rintro _ w6 ⟨d2, hd2, rfl, hb⟩
    obtain ⟨_, hd3⟩ := sm_one (List.getElem?_set_self (by rw [← HN.out]; exact hkn)) hd2
    rw [hd3]
    have HB6 := Lib.hid (below_keep HB5.out hb)
    have HA := Lib.hid (awake18_any w6)
    clear hd2 hd3 hb HMX HB5 HT5 HTN5
    go_wp2_with fail
    refine HA.out.mono ?_
    rintro _ w7 ⟨rfl, hb⟩
    have HB7 := Lib.hid (below_keep HB6.out hb)
    obtain ⟨b, o, rfl, hc⟩ := i64_at (HV.out.below HB7.out) HY.out
    clear hb HB6 HA
    go_wp2_with fail
    go_ret
    exact ⟨rfl, HB7.out⟩
end Go.Proofs.Ytfmbbfidjcgeiaa
