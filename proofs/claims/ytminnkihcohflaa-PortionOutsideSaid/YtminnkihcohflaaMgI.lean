/- A part of the proofs of the laws of chapter 19: Edt, Edp, Edv, Edu. No condition beside sizes. -/
import Derived.Test.YtminnkihcohflaaMgH
import Derived.Test.YtminnkihcohflaaMgD
namespace Go.Proofs.Ytminnkihcohflaa
open Go.RowKit Go.Lib Go.Shelf

theorem Own.shift {P : Program} {α : Type} {E : El P α} {D D' K : Nat → Prop} {w w' : World} {B : Nat} {v : Value} {l : List α} (h : Own (E.avoid D) w B v l) (hk : Kept K w w') (hs : ∀ k, k < w.heap.size → K k → D k) (hD : ∀ k, v.ownBlock = some k → ¬ K k) (hd : ∀ k, k < w.heap.size → D' k → D k ∨ some k = v.ownBlock) : Own (E.avoid D') w' B v l := by
  obtain ⟨xs, h1, h2⟩ := h
  refine ⟨xs, ⟨h1.1, h1.2.imp id ?_⟩, fun i x hx => ?_⟩
  · rintro ⟨g, cap, cur, rfl, hg, hh, r⟩
    exact ⟨g, cap, cur, rfl, hg, (hk.2 g (Array.getElem?_eq_some_iff.1 hh).1 (hD g rfl)).trans hh, r⟩
  · have h3 : E.is w (fun k => (some k = v.ownBlock ∨ D k) ∨ D' k) x ((xs.drop (i * E.size)).take E.size) := E.mono (h2 i x hx) (fun k hk h => by
      rcases h with h | h
      · exact h
      · exact (hd k hk h).symm)
    have h4 := E.kept h3 ⟨hk.1, fun k h5 h6 => hk.2 k h5 (fun h7 => h6 (.inl (.inr (hs k h5 h7))))⟩
    exact E.mono h4 (fun k _ h => h.imp .inl id)
set_option maxHeartbeats 4000000 in
set_option maxRecDepth 100000 in
theorem add_yes {D : Nat → Prop} (av : Option Addr) (nv cv : Nat) (vc va : Value) (vals : List GVal) (lo hi id : Int) (l : List Tup) (gd gv B : Nat) (w : World) (hd : w.heap[gd]? = some (.cells #[vc, va] 38 (0, 0))) (hid : w.cell? ⟨gv, 0, none⟩ = some (.int .i64 id)) (ho : Own (tupE.avoid D) w B va l)
    (hvv : Sl valE w (fun k => some k = va.ownBlock ∨ D k) (.slice av nv cv) vals) (hgD : D gd) (hDl : ∀ k, D k → k < w.heap.size) (hne : some gd ≠ va.ownBlock) (hB : B ≤ w.heap.size) (hll : l.length ≤ 1000) (hlt : lo < hi) :
    Calls Try.prog 85 #[.slice av nv cv, .int .i64 lo, .int .i64 hi, .pointer (some ⟨gd, 0, none⟩), .pointer (some ⟨gv, 0, none⟩)] w fun e w' =>
      e = .returned (.tuple #[]) ∧ ∃ va', Own (tupE.avoid D) w' B va' (l ++ [⟨vals, lo, hi, [id]⟩]) ∧ w'.heap[gd]? = some (.cells #[vc, va'] 38 (0, 0)) ∧ (va'.ownBlock = va.ownBlock ∨ ∃ m, va'.ownBlock = some m ∧ w.heap.size ≤ m) ∧ Kept (fun k => k = gd ∨ some k = va.ownBlock) w w' ∧ (∀ m, m ≤ B → m ≤ gd → Below m w w') := by
  obtain ⟨a1, c1, rfl⟩ := ho.shape
  obtain ⟨d0, d1, d2, d3⟩ := box_two hd
  have hgd : gd < w.heap.size := World.block_lt_of_cell? w _ d0
  have HO := Lib.hid (ho.below (below_alloc w (.cells #[.int .i64 id] 3)))
  have HD := Lib.hid hd
  have hnw : ¬ (some w.heap.size = (Value.slice a1 l.length c1).ownBlock ∨ D w.heap.size) := by
    rintro (h | h)
    · have := (ho.lt _ h.symm).2; omega
    · exact absurd (hDl _ h) (by omega)
  have hS : Sl intE (w.alloc (.cells #[.int .i64 id] 3)) (fun k => some k = (Value.slice a1 l.length c1).ownBlock ∨ D k) (.slice (some ⟨w.heap.size, 0, none⟩) 1 1) [id] :=
    Sl.of_block (World.alloc_heap_new w _) (Els.one (cs := [.int .i64 id]) rfl) hnw rfl (by simp) (by simp)
  have HIS : Hid (Els (tupE.avoid D) (w.alloc (.cells #[.int .i64 id] 3)) (fun k => some k = (Value.slice a1 l.length c1).ownBlock) [⟨vals, lo, hi, [id]⟩] [.slice av nv cv, .int .i64 lo, .int .i64 hi, .slice (some ⟨w.heap.size, 0, none⟩) 1 1]) :=
    Els.one ⟨_, _, rfl, hvv.below (below_alloc _ _), hS⟩
  have hB1 : B ≤ (w.alloc (.cells #[.int .i64 id] 3)).heap.size := by simp; omega
  clear ho hd hS hvv
  go_enter Try.func85, Try.ntmps85
  go_wp2_with (at_builtin; refine wpList_push rfl (.tmp 12) (.tmp 21) 22 rfl (tupE.avoid D) Try.underlying22 B (.slice a1 l.length c1) l rfl HO.out [⟨vals, lo, hi, [id]⟩] #[.slice av nv cv, .int .i64 lo, .int .i64 hi, .slice (some ⟨w.heap.size, 0, none⟩) 1 1] HIS.out 1 1 rfl (show Value.slice (some ⟨w.heap.size + 1, 0, none⟩) 1 1 = .slice (some ⟨(w.alloc (.cells #[.int .i64 id] 3)).heap.size, 0, none⟩) 1 1 by simp) (by decide) (by unfold maxLen; omega) (by show _ * 64 ≤ _; omega) hB1 ?_; intro g cap w5 hP hPa; have hd5 := hP.block hne (box_kept HD.out (below_alloc w _)); obtain ⟨k0, k1, k2, k3⟩ := box_two hd5)
  go_end0
  have hK : Kept (fun k => some k = (Value.slice a1 l.length c1).ownBlock) w w5 := ⟨Nat.le_trans (by simp) hP.kept.1, fun k hk hn => (hP.kept.2 k (by simp; omega) hn).trans ((below_alloc w _).block k hk)⟩
  have hgg : gd ≠ g := hP.ne hne (by simp; omega)
  have hKd : Kept (fun k => k = gd) w5 (w5.setCell ⟨gd, 1, none⟩ (.slice (some ⟨g, 0, none⟩) (l.length + 1) cap)) := ⟨by simp, fun k _ hn => heap_setCell_other _ _ _ _ hn⟩
  refine ⟨rfl, _, (hP.own' (n := l.length + 1) (by simp)).shift hKd (fun k _ h => h ▸ hgD) (fun k hk h => by cases hk; exact hgg h.symm) (fun k _ h => .inl h), ?_, ?_, ?_, ?_⟩
  · rw [heap_setCell_same _ _ _ _ _ _ hd5]
    rfl
  · exact hP.place.imp (fun h => Eq.symm h) (fun h => ⟨g, rfl, by simp at h; omega⟩)
  · exact ⟨by have := hK.1; simpa using this, fun k hk hn => (heap_setCell_other _ _ _ _ (fun e => hn (.inl e))).trans (hK.2 k hk (fun e => hn (.inr e)))⟩
  · intro m h1 h2
    exact ((below_alloc_from w _ (by omega)).trans (hP.below.mono h1)).setCell h2 _
set_option maxHeartbeats 1000000 in
theorem add_no (vv p1 p2 : Value) (lo hi : Int) (w : World) (hlt : ¬ lo < hi) :
    Calls Try.prog 85 #[vv, .int .i64 lo, .int .i64 hi, p1, p2] w fun e w' => e = .returned (.tuple #[]) ∧ w = w' := by
  go_enter Try.func85, Try.ntmps85
  go_wp2_with fail
  go_end0
  exact ⟨rfl, rfl⟩
theorem add_any {D : Nat → Prop} (av : Option Addr) (nv cv : Nat) (vc va : Value) (vals : List GVal) (lo hi id : Int) (l : List Tup) (gd gv B : Nat) (w : World) (hd : w.heap[gd]? = some (.cells #[vc, va] 38 (0, 0))) (hid : w.cell? ⟨gv, 0, none⟩ = some (.int .i64 id)) (ho : Own (tupE.avoid D) w B va l)
    (hvv : Sl valE w (fun k => some k = va.ownBlock ∨ D k) (.slice av nv cv) vals) (hgD : D gd) (hDl : ∀ k, D k → k < w.heap.size) (hne : some gd ≠ va.ownBlock) (hB : B ≤ w.heap.size) (hll : l.length ≤ 1000) :
    Calls Try.prog 85 #[.slice av nv cv, .int .i64 lo, .int .i64 hi, .pointer (some ⟨gd, 0, none⟩), .pointer (some ⟨gv, 0, none⟩)] w fun e w' =>
      e = .returned (.tuple #[]) ∧ ∃ va', Own (tupE.avoid D) w' B va' (l ++ if lo < hi then [⟨vals, lo, hi, [id]⟩] else []) ∧ w'.heap[gd]? = some (.cells #[vc, va'] 38 (0, 0)) ∧ (va'.ownBlock = va.ownBlock ∨ ∃ m, va'.ownBlock = some m ∧ w.heap.size ≤ m) ∧ Kept (fun k => k = gd ∨ some k = va.ownBlock) w w' ∧ (∀ m, m ≤ B → m ≤ gd → Below m w w') := by
  by_cases hlt : lo < hi
  · refine (add_yes av nv cv vc va vals lo hi id l gd gv B w hd hid ho hvv hgD hDl hne hB hll hlt).mono ?_
    rw [if_pos hlt]
    exact fun _ _ h => h
  · refine (add_no (.slice av nv cv) (.pointer (some ⟨gd, 0, none⟩)) (.pointer (some ⟨gv, 0, none⟩)) lo hi w hlt).mono ?_
    rintro _ w' ⟨rfl, rfl⟩
    rw [if_neg hlt, List.append_nil]
    exact ⟨rfl, va, ho, hd, .inl rfl, ⟨Nat.le_refl _, fun _ _ _ => rfl⟩, fun m _ _ => Below.refl _ _⟩
end Go.Proofs.Ytminnkihcohflaa

namespace Go.Proofs.Ytminnkihcohflaa
open Go.RowKit Go.Lib

/-- The parts of an affected version: outside of the period, and, where values are changed, inside. -/
def partL (plo phi : Int) (v : Ver) : List Tup := if v.lo < isLo v.lo v.hi plo phi then [⟨v.vals, v.lo, isLo v.lo v.hi plo phi, [v.id]⟩] else []
def partM (plo phi : Int) (chg : Option (List GVal → List GVal)) (v : Ver) : List Tup :=
  match chg with
  | none => []
  | some f => if isLo v.lo v.hi plo phi < isHi v.lo v.hi plo phi then [⟨f v.vals, isLo v.lo v.hi plo phi, isHi v.lo v.hi plo phi, [v.id]⟩] else []
def partR (plo phi : Int) (v : Ver) : List Tup := if isHi v.lo v.hi plo phi < v.hi then [⟨v.vals, isHi v.lo v.hi plo phi, v.hi, [v.id]⟩] else []
def partsV (plo phi : Int) (chg : Option (List GVal → List GVal)) (v : Ver) : List Tup := partL plo phi v ++ partM plo phi chg v ++ partR plo phi v
theorem partsV_length (plo phi : Int) (chg : Option (List GVal → List GVal)) (v : Ver) : (partsV plo phi chg v).length ≤ 3 := by
  unfold partsV partL partM partR
  simp only [List.length_append]
  split <;> split <;> (try split) <;> (try split) <;> simp
theorem mem_insRev (x y : Ver) (s : List Ver) : y ∈ insRev x s → y = x ∨ y ∈ s := by
  induction s with
  | nil => intro h; simp [insRev] at h; exact .inl h
  | cons z zs ih =>
    intro h
    unfold insRev at h
    split at h
    · rcases List.mem_cons.1 h with h | h
      · exact .inr (by simp [h])
      · exact (ih h).imp id (fun h => List.mem_cons_of_mem _ h)
    · rcases List.mem_cons.1 h with h | h
      · exact .inl h
      · exact .inr h
theorem mem_sortV (y : Ver) (l : List Ver) : y ∈ sortV l → y ∈ l := by
  suffices h : ∀ s, y ∈ l.foldl (fun s x => insV x s) s → y ∈ s ∨ y ∈ l from fun hy => (h [] hy).elim (fun h => by cases h) id
  induction l with
  | nil => intro s h; exact .inl h
  | cons x l ih =>
    intro s h
    rcases ih _ h with h | h
    · unfold insV at h
      rcases mem_insRev x y _ (List.mem_reverse.1 h) with h | h
      · exact .inr (by simp [h])
      · exact .inl (List.mem_reverse.1 h)
    · exact .inr (List.mem_cons_of_mem _ h)
theorem aff_ok (plo phi : Int) (e : List GExp) (pred : Int) (l : List Ver) (v : Ver) (h : v ∈ affV plo phi e pred l) : v ∈ l ∧ keepV plo phi e pred v = true := by
  have h1 := mem_sortV v _ h
  exact List.mem_filter.1 h1
theorem aff_mid (plo phi : Int) (e : List GExp) (pred : Int) (v : Ver) (h : keepV plo phi e pred v = true) : isLo v.lo v.hi plo phi < isHi v.lo v.hi plo phi := by
  unfold keepV at h
  simp only [Bool.and_eq_true] at h
  have h2 := h.1.2
  unfold isLo isHi
  rw [if_pos h2, if_pos h2]
  unfold isOk at h2
  simp only [Bool.and_eq_true, decide_eq_true_eq] at h2
  exact h2.2
end Go.Proofs.Ytminnkihcohflaa

namespace Go.Proofs.Ytminnkihcohflaa
open Go.RowKit Go.Lib Go.Shelf

theorem own_vals_from {w : World} {B : Nat} {v : Value} {l : List GVal} (h : Own valE w B v l) : Sl valE w (fun k => k < B) v l := by
  have hlt := h.lt
  obtain ⟨h1, a, c, rfl, h3, h4⟩ := h.sl
  refine ⟨h1, a, c, rfl, h3, fun hn => ?_⟩
  obtain ⟨b, o, rfl, _, h6⟩ := h4 hn
  exact ⟨b, o, rfl, fun hb => by have := (hlt b rfl).1; omega, h6⟩
theorem Sl.toAvoid {P : Program} {α : Type} {E : El P α} {D : Nat → Prop} {w : World} {v : Value} {l : List α} (h : Sl E w D v l) : Sl (E.avoid D) w Go.Proofs.Ytminnkihcohflaa.free v l := by
  obtain ⟨h1, a, c, h2, h3, h4⟩ := h
  refine ⟨h1, a, c, h2, h3, fun hn => ?_⟩
  obtain ⟨b, o, h5, hg, h6⟩ := h4 hn
  refine ⟨b, o, h5, id, fun i x hx => ?_⟩
  obtain ⟨cs, h7, h8⟩ := h6 i x hx
  exact ⟨cs, E.mono h7 (fun k _ h => h.elim (fun h => h.elim) id), h8⟩
theorem Own.slAvoid {P : Program} {α : Type} {E : El P α} {D D' : Nat → Prop} {w : World} {B : Nat} {v : Value} {l : List α} (h : Own (E.avoid D) w B v l) (hD : ∀ k, D' k → D k) (hB : ∀ k, D' k → k < B) : Sl E w D' v l := by
  have hlt := h.lt
  obtain ⟨h1, a, c, rfl, h3, h4⟩ := h.sl
  refine ⟨h1, a, c, rfl, h3, fun hn => ?_⟩
  obtain ⟨b, o, rfl, _, h6⟩ := h4 hn
  refine ⟨b, o, rfl, fun hb => by have := (hlt b rfl).1; have := hB b hb; omega, fun i x hx => ?_⟩
  obtain ⟨cs, h7, h8⟩ := h6 i x hx
  exact ⟨cs, E.mono h7 (fun k _ hk => .inr (hD k hk)), h8⟩
/-- The loop's state: what is affected, what is closed, what is added. -/
structure EdSt (B0 gd : Nat) (F : Nat → Prop) (affv : Value) (aff : List Ver) (vc va : Value) (cl : List Int) (ad : List Tup) (W : World) : Prop where
  base : B0 ≤ gd
  af : Own (verE.avoid fun k => B0 ≤ k) W (gd + 1) affv aff
  cl : Own intE W (gd + 1) vc cl
  ad : Own (tupE.avoid fun k => (B0 ≤ k ∧ k ≤ gd) ∨ some k = vc.ownBlock) W (gd + 1) va ad
  d : W.heap[gd]? = some (.cells #[vc, va] 38 (0, 0))
  n1 : ∀ k, vc.ownBlock = some k → va.ownBlock ≠ some k ∧ affv.ownBlock ≠ some k
  n2 : ∀ k, va.ownBlock = some k → affv.ownBlock ≠ some k
  bx : ∀ k, F k → k < W.heap.size ∧ k ≠ gd ∧ va.ownBlock ≠ some k ∧ vc.ownBlock ≠ some k
section
variable {B0 gd : Nat} {F : Nat → Prop} {affv : Value} {aff : List Ver} {vc va : Value} {cl : List Int} {ad : List Tup} {W : World}
theorem EdSt.gdlt (h : EdSt B0 gd F affv aff vc va cl ad W) : gd < W.heap.size := (Array.getElem?_eq_some_iff.1 h.d).1
theorem EdSt.below (h : EdSt B0 gd F affv aff vc va cl ad W) {W' : World} (hb : Below W.heap.size W W') : EdSt B0 gd F affv aff vc va cl ad W' :=
  ⟨h.base, h.af.below hb, h.cl.below hb, h.ad.below hb, (hb.block _ h.gdlt).trans h.d, h.n1, h.n2, fun k hk => ⟨Nat.lt_of_lt_of_le (h.bx k hk).1 hb.size, (h.bx k hk).2⟩⟩
theorem EdSt.box (h : EdSt B0 gd F affv aff vc va cl ad W) (o : Obj) : EdSt B0 gd (fun k => F k ∨ k = W.heap.size) affv aff vc va cl ad (W.alloc o) := by
  have h' := h.below (below_alloc W o)
  refine ⟨h'.base, h'.af, h'.cl, h'.ad, h'.d, h'.n1, h'.n2, fun k hk => ?_⟩
  rcases hk with hk | rfl
  · exact h'.bx k hk
  · refine ⟨by simp, ?_, fun e => ?_, fun e => ?_⟩
    · have := h.gdlt; omega
    · have := (h.ad.lt _ e).2; omega
    · have := (h.cl.lt _ e).2; omega
theorem EdSt.mono (h : EdSt B0 gd F affv aff vc va cl ad W) {F' : Nat → Prop} (hF : ∀ k, F' k → F k) : EdSt B0 gd F' affv aff vc va cl ad W :=
  ⟨h.base, h.af, h.cl, h.ad, h.d, h.n1, h.n2, fun k hk => h.bx k (hF k hk)⟩
/-- A version more is closed. -/
theorem EdSt.closed (h : EdSt B0 gd F affv aff vc va cl ad W) {W2 W3 : World} (hb : Below W.heap.size W W2) {cl' : List Int} {g cap n : Nat} (hP : Pushed intE (gd + 1) W2 W3 vc cl' g cap) (hn : cl'.length = n) :
    EdSt B0 gd F affv aff (.slice (some ⟨g, 0, none⟩) n cap) va cl' ad (W3.setCell ⟨gd, 0, none⟩ (.slice (some ⟨g, 0, none⟩) n cap)) ∧ (∀ k, F k → (W3.setCell ⟨gd, 0, none⟩ (.slice (some ⟨g, 0, none⟩) n cap)).heap[k]? = W2.heap[k]?) ∧ Below gd W2 (W3.setCell ⟨gd, 0, none⟩ (.slice (some ⟨g, 0, none⟩) n cap)) := by
  have h2 := h.below hb
  have hne : some gd ≠ vc.ownBlock := fun e => by have := (h2.cl.lt _ e.symm).1; omega
  have hgg : gd ≠ g := hP.ne hne h2.gdlt
  have hd3 : W3.heap[gd]? = some (.cells #[vc, va] 38 (0, 0)) := hP.block hne h2.d
  have hKd : Kept (fun k => k = gd) W3 (W3.setCell ⟨gd, 0, none⟩ (.slice (some ⟨g, 0, none⟩) n cap)) := ⟨by simp, fun k _ hn => heap_setCell_other _ _ _ _ hn⟩
  have hcl : Own (intE.avoid fun k => k = gd) W3 (gd + 1) (.slice (some ⟨g, 0, none⟩) n cap) cl' := hP.own' hn
  have hge : ∀ k, k < W2.heap.size → k = g → some k = vc.ownBlock := fun k hk e => by
    subst e
    rcases hP.place with h | h
    · exact h.symm
    · omega
  refine ⟨⟨h.base, ?_, ?_, ?_, ?_, ?_, h.n2, ?_⟩, ?_, ?_⟩
  · have a1 : Own (verE.avoid fun k => B0 ≤ k) W3 (gd + 1) affv aff := h2.af.shift hP.kept (fun k _ e => by have := (h2.cl.lt _ e.symm).1; have := h.base; omega) (fun k e e' => (h2.n1 k e'.symm).2 e) (fun k _ h => .inl h)
    exact a1.shift hKd (fun k _ e => by have := h.base; omega) (fun k e e' => by have := (a1.lt _ e).1; omega) (fun k _ h => .inl h)
  · exact hcl.shift (D' := fun k => k = gd) hKd (fun k _ e => e) (fun k e e' => by cases e; exact hgg e'.symm) (fun k _ h => .inl h)
  · have a1 : Own (tupE.avoid fun k => (B0 ≤ k ∧ k ≤ gd) ∨ some k = (Value.slice (some ⟨g, 0, none⟩) n cap).ownBlock) W3 (gd + 1) va ad := h2.ad.shift hP.kept (fun k _ e => .inr e) (fun k e e' => (h2.n1 k e'.symm).1 e) (fun k hk e => .inl (e.imp id (fun e => hge k hk (by injection e))))
    exact a1.shift hKd (fun k _ e => .inl ⟨by have := h.base; omega, by omega⟩) (fun k e e' => by have := (a1.lt _ e).1; omega) (fun k _ h => .inl h)
  · rw [heap_setCell_same _ _ _ _ _ _ hd3]
    rfl
  · intro k e
    cases e
    refine ⟨fun e => ?_, fun e => ?_⟩
    · have := (h2.ad.lt _ e).2
      exact (h2.n1 _ (hge _ this rfl).symm).1 e
    · have := (h2.af.lt _ e).2
      exact (h2.n1 _ (hge _ this rfl).symm).2 e
  · intro k hk
    obtain ⟨b1, b2, b3, b4⟩ := h2.bx k hk
    refine ⟨by have := hP.below.size; simp; omega, b2, b3, fun e => ?_⟩
    cases e
    exact b4 (hge _ b1 rfl).symm
  · intro k hk
    obtain ⟨b1, b2, b3, b4⟩ := h2.bx k hk
    exact (heap_setCell_other _ _ _ _ b2).trans (hP.kept.2 k b1 (fun e => b4 e.symm))
  · exact (hP.below.mono (Nat.le_succ _)).setCell (Nat.le_refl _) _
/-- Values of the call's own are added. -/
theorem EdSt.add (h : EdSt B0 gd F affv aff vc va cl ad W) {W1 : World} (hb : Below W.heap.size W W1) {v : Value} {vals : List GVal} (hv : Own valE W1 W.heap.size v vals) (lo hi id : Int) (gv : Nat) (hid : W1.cell? ⟨gv, 0, none⟩ = some (.int .i64 id)) (hll : ad.length ≤ 1000) :
    Calls Try.prog 85 #[v, .int .i64 lo, .int .i64 hi, .pointer (some ⟨gd, 0, none⟩), .pointer (some ⟨gv, 0, none⟩)] W1 fun e w' =>
      e = .returned (.tuple #[]) ∧ ∃ va', EdSt B0 gd F affv aff vc va' cl (ad ++ if lo < hi then [⟨vals, lo, hi, [id]⟩] else []) w' ∧ (∀ k, F k → w'.heap[k]? = W1.heap[k]?) ∧ Below gd W1 w' := by
  obtain ⟨a, c, rfl⟩ := hv.shape
  have h1 := h.below hb
  have hvv : Sl valE W1 (fun k => some k = va.ownBlock ∨ ((B0 ≤ k ∧ k ≤ gd) ∨ some k = vc.ownBlock)) (.slice a vals.length c) vals := (own_vals_from hv).mono (fun k _ hk => by
    rcases hk with e | e | e
    · exact (h.ad.lt _ e.symm).2
    · have := h.gdlt; omega
    · exact (h.cl.lt _ e.symm).2)
  have hne : some gd ≠ va.ownBlock := fun e => by have := (h.ad.lt _ e.symm).1; omega
  refine (add_any (D := fun k => (B0 ≤ k ∧ k ≤ gd) ∨ some k = vc.ownBlock) a vals.length c vc va vals lo hi id ad gd gv (gd + 1) W1 h1.d hid h1.ad hvv (.inl ⟨h.base, Nat.le_refl _⟩) ?_ hne h1.gdlt hll).mono ?_
  · rintro k (e | e)
    · exact Nat.lt_of_le_of_lt e.2 h1.gdlt
    · exact (h1.cl.lt _ e.symm).2
  rintro _ w' ⟨rfl, va', ho, hd, hpl, hk, hbb⟩
  have hne' : ∀ k, k < W1.heap.size → va'.ownBlock = some k → va.ownBlock = some k := fun k hk e => by
    rcases hpl with h | ⟨m, h, hm⟩
    · exact h ▸ e
    · rw [h] at e; cases e; omega
  refine ⟨rfl, va', ⟨h.base, ?_, ?_, ho, hd, ?_, ?_, ?_⟩, ?_, hbb gd (Nat.le_succ _) (Nat.le_refl _)⟩
  · exact h1.af.shift hk (fun k _ e => by
      have := h.base
      rcases e with e | e
      · omega
      · have := (h1.ad.lt _ e.symm).1; omega) (fun k e e' => by
      rcases e' with e' | e'
      · have := (h1.af.lt _ e).1; omega
      · exact h1.n2 k e'.symm e) (fun k _ h => .inl h)
  · have hcl : Own (intE.avoid fun k => k = gd ∨ some k = va.ownBlock) W1 (gd + 1) vc cl := h1.cl
    exact hcl.shift (D' := fun k => k = gd ∨ some k = va.ownBlock) hk (fun k _ e => e) (fun k e e' => by
      rcases e' with e' | e'
      · have := (h1.cl.lt _ e).1; omega
      · exact (h1.n1 k e).1 e'.symm) (fun k _ h => .inl h)
  · intro k e
    refine ⟨fun e' => ?_, (h1.n1 k e).2⟩
    exact (h1.n1 k e).1 (hne' k (h1.cl.lt _ e).2 e')
  · intro k e e'
    exact h1.n2 k (hne' k (h1.af.lt _ e').2 e) e'
  · intro k hk'
    obtain ⟨b1, b2, b3, b4⟩ := h1.bx k hk'
    exact ⟨Nat.lt_of_lt_of_le b1 hk.1, b2, fun e => b3 (hne' k b1 e), b4⟩
  · intro k hk'
    obtain ⟨b1, b2, b3, b4⟩ := h1.bx k hk'
    exact hk.2 k b1 (fun e => by
      rcases e with e | e
      · exact b2 e
      · exact b3 e.symm)
end
end Go.Proofs.Ytminnkihcohflaa

namespace Go.Proofs.Ytminnkihcohflaa
open Go.RowKit Go.Lib Go.Shelf

/-- What an edit returns. -/
def RetDelta (m : Nat) (w : World) (cl : List Int) (ad : List Tup) : Ending → World → Prop := fun e w' => ∃ vc va, e = .returned (.agg #[vc, va]) ∧ Sl intE w' (fun k => m ≤ k ∧ k < w.heap.size) vc cl ∧ Sl tupE w' (fun k => m ≤ k ∧ k < w.heap.size) va ad ∧ Below w.heap.size w w'
/-- What a change of values computes. -/
def ChgOf (w : World) (fv : Value) (chg : Option (List GVal → List GVal)) : Prop :=
  match chg with
  | none => fv = .nilFunc
  | some f => ∃ g1 g2, fv = .func (.func 59) #[] #[.pointer (some ⟨g1, 0, none⟩), .pointer (some ⟨g2, 0, none⟩)] ∧
      ∀ W vo old, Below w.heap.size w W → Sl valE W free vo old → old.length ≤ 1000 → (∀ g ∈ old, In64 g.n) → Calls Try.prog 59 #[vo, .pointer (some ⟨g1, 0, none⟩), .pointer (some ⟨g2, 0, none⟩)] W (RetOwn valE W (f old))
theorem sl_old {B0 : Nat} {W W' : World} {v : Value} {l : List GVal} (h : Sl valE W (fun k => free k ∨ B0 ≤ k) v l) (hb : Below B0 W W') : Sl valE W' (fun k => free k ∨ B0 ≤ k) v l := h.kept ⟨hb.size, fun k _ hn => hb.block k (Nat.lt_of_not_le (fun h => hn (.inr h)))⟩
theorem if_len {c : Prop} [Decidable c] (t : Tup) : (if c then [t] else []).length ≤ 1 := by split <;> simp
theorem nil_neq (W : World) : (binOp .neq 103 .nilFunc .nilFunc).run Try.prog W = .ok (.bool false) W := by kernel_rfl
theorem fun_neq (F : Fn) (a b : Array Value) (W : World) : (binOp .neq 103 (.func F a b) .nilFunc).run Try.prog W = .ok (.bool true) W := by kernel_rfl
theorem cell_same {w w' : World} {p : Addr} {u : Value} (h : w'.heap[p.block]? = w.heap[p.block]?) (hc : w.cell? p = some u) : w'.cell? p = some u := (World.cell?_of_block h).trans hc
set_option maxHeartbeats 4000000 in
set_option maxRecDepth 100000 in
theorem edit_any (v ve fv : Value) (l : List Ver) (plo phi : Int) (e : List GExp) (pred : Int) (chg : Option (List GVal → List GVal)) (m : Nat) (w : World) (hm : m ≤ w.heap.size) (hv : Sl verE w (fun k => m ≤ k) v l) (he : Sl expE w free ve e) (hl : l.length ≤ 20) (hel : e.length ≤ 1000) (hc : ∀ x ∈ e, In64 x.c.n) (hvn : ∀ x ∈ l, ∀ g ∈ x.vals, In64 g.n) (hvl : ∀ x ∈ l, x.vals.length ≤ 1000) (hf : ChgOf w fv chg) :
    Calls Try.prog 57 #[v, .agg #[.int .i64 plo, .int .i64 phi], ve, .int .i64 pred, fv] w (RetDelta m w ((affV plo phi e pred l).map Ver.id) ((affV plo phi e pred l).flatMap (partsV plo phi chg))) := by
  have HA : ∀ W, Below w.heap.size w W → Hid (Calls Try.prog 84 #[v, .agg #[.int .i64 plo, .int .i64 phi], ve, .int .i64 pred] W (RetOwn (verE.avoid fun k => m ≤ k) W (affV plo phi e pred l))) := fun W hW => affected_any v ve l plo phi e pred W (hv.toAvoid.below hW) (he.below hW) hl hel hc hvn
  have HAI : Hid (∀ x ∈ affV plo phi e pred l, x ∈ l ∧ isLo x.lo x.hi plo phi < isHi x.lo x.hi plo phi) := fun x hx => ⟨(aff_ok _ _ _ _ _ _ hx).1, aff_mid _ _ _ _ _ (aff_ok _ _ _ _ _ _ hx).2⟩
  have HVN := Lib.hid hvn
  have HVL := Lib.hid hvl
  have HF := Lib.hid hf
  obtain ⟨aff, haff⟩ : ∃ aff, aff = affV plo phi e pred l := ⟨_, rfl⟩
  have hal : aff.length ≤ 20 := by rw [haff]; unfold affV; rw [sortV_length]; exact Nat.le_trans (List.length_filter_le _ _) hl
  rw [← haff] at HA HAI ⊢
  have HPL : Hid (∀ k, ((aff.take k).flatMap (partsV plo phi chg)).length ≤ 60) := fun k => by
    have h1 : ∀ m : List Ver, (m.flatMap (partsV plo phi chg)).length ≤ 3 * m.length := fun m => by
      induction m with
      | nil => simp
      | cons x m ih => rw [List.flatMap_cons, List.length_append, List.length_cons]; have := partsV_length plo phi chg x; omega
    have h2 := h1 (aff.take k)
    rw [List.length_take] at h2
    omega
  obtain ⟨n, hn⟩ : ∃ n, n = aff.length := ⟨_, rfl⟩
  have HN := Lib.hid hn
  clear hv he hc hvn haff hf hvl
  go_enter Try.func57, Try.ntmps57
  go_wp2_with fail
  refine (HA _ (below_alloc_keep (below_alloc_two w _ _))).out.mono ?_
  rintro _ w1 ⟨v1, rfl, hO1, hB1⟩
  obtain ⟨a1, c1, rfl⟩ := hO1.shape
  rw [← hn] at hal ⊢
  have hS0 : EdSt m (w.heap.size + 1 + 1) (fun k => k = w.heap.size ∨ k = w.heap.size + 1) (.slice a1 n c1) aff (.slice none 0 0) (.slice none 0 0) [] [] w1 := by
    refine ⟨by omega, hn ▸ hO1.mono (by simp), Own.nil _ _ _, Own.nil _ _ _, ?_, fun k h => (by cases h), fun k h => (by cases h), fun k hk => ⟨?_, by omega, (fun h => by cases h), (fun h => by cases h)⟩⟩
    · exact (hB1.block _ (by simp)).trans (by simpa using World.alloc_heap_new ((w.alloc (.cells #[.int .i64 plo, .int .i64 phi] 31)).alloc (.cells #[.slice none 0 0, .slice none 0 0] 38)) (.cells #[.slice none 0 0, .slice none 0 0] 38))
    · have := hB1.size; simp at this; omega
  have hp0 : w1.heap[w.heap.size]? = some (.cells #[.int .i64 plo, .int .i64 phi] 31 (0, 0)) := (hB1.block _ (by simp; omega)).trans ((Below.heap_alloc _ _ _ (by simp; omega)).trans ((Below.heap_alloc _ _ _ (by simp)).trans (World.alloc_heap_new w _)))
  have hr0 : w1.heap[w.heap.size + 1]? = some (.cells #[.slice none 0 0, .slice none 0 0] 38 (0, 0)) := (hB1.block _ (by simp)).trans ((Below.heap_alloc _ _ _ (by simp)).trans (by simpa using World.alloc_heap_new (w.alloc (.cells #[.int .i64 plo, .int .i64 phi] 31)) (.cells #[.slice none 0 0, .slice none 0 0] 38)))
  have HR0 := Lib.hid hr0
  have HS0 := Lib.hid hS0
  have HP0 := Lib.hid hp0
  have HB1 : Hid (Below w.heap.size w w1) := ((below_alloc_keep (below_alloc_two w _ _))).trans (hB1.mono (by simp; omega))
  clear hS0 hp0 hr0 hB1 hO1 hn
  go_wp2_with fail
  go_loopw [23] (fun i wr => ∃ k vc va, k ≤ n ∧ i = .int .i64 (k : Nat) ∧ EdSt m (w.heap.size + 1 + 1) (fun k => k = w.heap.size ∨ k = w.heap.size + 1) (.slice a1 n c1) aff vc va ((aff.take k).map Ver.id) ((aff.take k).flatMap (partsV plo phi chg)) wr ∧ wr.heap[w.heap.size]? = some (.cells #[.int .i64 plo, .int .i64 phi] 31 (0, 0)) ∧ wr.heap[w.heap.size + 1]? = some (.cells #[.slice none 0 0, .slice none 0 0] 38 (0, 0)) ∧ Below w.heap.size w wr) (fun i _ => n - (intOf i).toNat)
  case atStart => exact ⟨0, _, _, Nat.zero_le _, rfl, HS0.out, HP0.out, HR0.out, HB1.out⟩
  case round =>
    obtain ⟨k, vc, va, hk, rfl, hS, hp, hr, hB⟩ := hrel
    obtain ⟨wo, rfl⟩ : ∃ wo : World, wo = wr := ⟨_, rfl⟩
    by_cases hlt : k < n
    · obtain ⟨x, hx⟩ := lget_some aff k (by rw [← HN.out]; exact hlt)
      obtain ⟨b, o, a2, c2v, rfl, hvv, p0, p1, p2, p3, p4, p5⟩ := vers_at hS.af.sl hx
      have HX := Lib.hid hx
      have HVV := Lib.hid hvv
      have HXI := Lib.hid (HAI.out x (List.mem_of_getElem? hx))
      obtain ⟨xid, xvals, xlo, xhi, xrlo, xrhi⟩ := x
      dsimp only at p0 p1 p2 p3 p4 p5 HVV HXI
      obtain ⟨nv, hnv⟩ : ∃ nv, nv = xvals.length := ⟨_, rfl⟩
      rw [← hnv] at p1 HVV
      have HNV := Lib.hid hnv
      obtain ⟨clk, hclk⟩ : ∃ clk, clk = (aff.take k).map Ver.id := ⟨_, rfl⟩
      obtain ⟨adk, hadk⟩ : ∃ adk, adk = (aff.take k).flatMap (partsV plo phi chg) := ⟨_, rfl⟩
      rw [← hclk, ← hadk] at hS
      have hcll : clk.length ≤ 20 := by rw [hclk, List.length_map, List.length_take]; omega
      have hadl : adk.length ≤ 60 := by rw [hadk]; exact HPL.out k
      have HCLK := Lib.hid hclk
      have HADK := Lib.hid hadk
      have HS1 := Lib.hid (hS.box (.cells #[.int .i64 xid, .slice a2 nv c2v, .int .i64 xlo, .int .i64 xhi, .int .i64 xrlo, .int .i64 xrhi] 59))
      have HP := Lib.hid hp
      have HR := Lib.hid hr
      have HB := Lib.hid hB
      obtain ⟨ac, cc, rfl⟩ := hS.cl.shape
      obtain ⟨aa, ca, rfl⟩ := hS.ad.shape
      have hgd := hS.gdlt
      have hzo := hB.size
      have hd2 : (wo.alloc (.cells #[.int .i64 xid, .slice a2 nv c2v, .int .i64 xlo, .int .i64 xhi, .int .i64 xrlo, .int .i64 xrhi] 59)).heap[w.heap.size + 1 + 1]? = some (.cells #[.slice ac clk.length cc, .slice aa adk.length ca] 38 (0, 0)) := (Below.heap_alloc _ _ _ hgd).trans hS.d
      have HD2 := Lib.hid hd2
      have e0 : (wo.alloc (.cells #[.int .i64 xid, .slice a2 nv c2v, .int .i64 xlo, .int .i64 xhi, .int .i64 xrlo, .int .i64 xrhi] 59)).cell? ⟨w.heap.size + 1 + 1, 0, none⟩ = some (.slice ac clk.length cc) := cell_of ((Below.heap_alloc _ _ _ hgd).trans hS.d) rfl
      have hne : some (w.heap.size + 1 + 1) ≠ (Value.slice ac clk.length cc).ownBlock := fun h => by have := (hS.cl.lt _ h.symm).1; omega
      have HC2 := Lib.hid (hS.cl.below (below_alloc wo (.cells #[.int .i64 xid, .slice a2 nv c2v, .int .i64 xlo, .int .i64 xhi, .int .i64 xrlo, .int .i64 xrhi] 59)))
      have HVB := Lib.hid (World.alloc_heap_new wo (.cells #[.int .i64 xid, .slice a2 nv c2v, .int .i64 xlo, .int .i64 xhi, .int .i64 xrlo, .int .i64 xrhi] 59))
      have HPB := Lib.hid ((Below.heap_alloc wo (.cells #[.int .i64 xid, .slice a2 nv c2v, .int .i64 xlo, .int .i64 xhi, .int .i64 xrlo, .int .i64 xrhi] 59) _ (by omega)).trans HP.out)
      have HRB := Lib.hid ((Below.heap_alloc wo (.cells #[.int .i64 xid, .slice a2 nv c2v, .int .i64 xlo, .int .i64 xhi, .int .i64 xrlo, .int .i64 xrhi] 59) _ (by omega)).trans HR.out)
      clear hx hvv hnv hclk hadk hS hp hr hB hd2
      go_wp2_with (at_builtin; refine wpList_push rfl (.tmp 28) (.tmp 31) 23 rfl intE Try.underlying23 (w.heap.size + 1 + 1 + 1) (.slice ac clk.length cc) clk rfl HC2.out [xid] #[.int .i64 xid] (Els.one rfl) 1 1 rfl (show Value.slice (some ⟨wo.heap.size + 1, 0, none⟩) 1 1 = .slice (some ⟨(wo.alloc (.cells #[.int .i64 xid, .slice a2 nv c2v, .int .i64 xlo, .int .i64 xhi, .int .i64 xrlo, .int .i64 xrhi] 59)).heap.size, 0, none⟩) 1 1 by simp) (by decide) (by unfold maxLen; omega) (by show _ * 8 ≤ _; omega) (by simp; omega) ?_; intro g cap w5 hP hPa; have hd5 := hP.block hne HD2.out; obtain ⟨k0, k1, k2, k3⟩ := box_two hd5; obtain ⟨hS6, hF6, hB6⟩ := HS1.out.closed (Below.refl _ _) hP (show (clk ++ [xid]).length = clk.length + 1 by simp); have hv6 := (hF6 _ (.inr rfl)).trans HVB.out; have hp6 := (hF6 _ (.inl (.inl rfl))).trans HPB.out; have hr6 := (hF6 _ (.inl (.inr rfl))).trans HRB.out; have x1 := cell_of (k := 1) hv6 rfl; have x2 := cell_of (k := 2) hv6 rfl; have x3 := cell_of (k := 3) hv6 rfl; have y0 := cell_of (k := 0) hp6 rfl; have y1 := cell_of (k := 1) hp6 rfl)
      refine (isect_any xlo xhi plo phi _).mono ?_
      rintro _ w7 ⟨rfl, hb7⟩
      have HMID := HXI.out.2
      obtain ⟨mlo, hmlo⟩ : ∃ q, q = isLo xlo xhi plo phi := ⟨_, rfl⟩
      obtain ⟨mhi, hmhi⟩ : ∃ q, q = isHi xlo xhi plo phi := ⟨_, rfl⟩
      rw [← hmlo, ← hmhi] at HMID ⊢
      have hS7 := (hS6.below hb7).box (.cells #[.int .i64 mlo, .int .i64 mhi] 31)
      have hv7 := (Below.heap_alloc w7 (.cells #[.int .i64 mlo, .int .i64 mhi] 31) _ (Nat.lt_of_lt_of_le (hS6.bx _ (.inr rfl)).1 hb7.size)).trans ((hb7.block _ (hS6.bx _ (.inr rfl)).1).trans hv6)
      have hp7 := (Below.heap_alloc w7 (.cells #[.int .i64 mlo, .int .i64 mhi] 31) _ (Nat.lt_of_lt_of_le (hS6.bx _ (.inl (.inl rfl))).1 hb7.size)).trans ((hb7.block _ (hS6.bx _ (.inl (.inl rfl))).1).trans hp6)
      have hr7 := (Below.heap_alloc w7 (.cells #[.int .i64 mlo, .int .i64 mhi] 31) _ (Nat.lt_of_lt_of_le (hS6.bx _ (.inl (.inr rfl))).1 hb7.size)).trans ((hb7.block _ (hS6.bx _ (.inl (.inr rfl))).1).trans hr6)
      have hc7 := World.alloc_heap_new w7 (.cells #[.int .i64 mlo, .int .i64 mhi] 31)
      have hB7 : Below w.heap.size wo (w7.alloc (.cells #[.int .i64 mlo, .int .i64 mhi] 31)) := Below.alloc (((below_alloc_from wo _ hzo)).trans ((hB6.mono (by omega)).trans (hb7.mono (Nat.le_trans (by simp; omega) hB6.size)))) (Nat.le_trans hzo (Nat.le_trans (by simp) (Nat.le_trans hB6.size hb7.size))) _
      have HMLO := Lib.hid hmlo
      have HMHI := Lib.hid hmhi
      have HS7 := Lib.hid hS7
      have HV7 := Lib.hid hv7
      have HP7 := Lib.hid hp7
      have HR7 := Lib.hid hr7
      have HC7 := Lib.hid hc7
      have HB7 := Lib.hid hB7
      clear hP hPa hd5 k0 k1 k2 k3 hS6 hF6 hB6 hv6 hp6 x1 x2 x3 y0 y1 hS7 hv7 hp7 hr7 hr6 hc7 hB7 hb7 hmlo hmhi
      have HCLN : ∀ W, Below w.heap.size wo W → Hid (Calls Try.prog 55 #[.slice a2 nv c2v] W (RetOwn valE W xvals)) := fun W hW => cloneVals_own _ xvals W (sl_old HVV.out (hW.mono hm)).free (HVL.out _ HXI.out.1)
      have HS7d := Lib.hid (HS7.out.below (Below.refl _ _).drew)
      have x0 : (w7.alloc (.cells #[.int .i64 mlo, .int .i64 mhi] 31)).cell? ⟨wo.heap.size, 0, none⟩ = some (.int .i64 xid) := cell_of HV7.out rfl
      have x1 : (w7.alloc (.cells #[.int .i64 mlo, .int .i64 mhi] 31)).cell? ⟨wo.heap.size, 1, none⟩ = some (.slice a2 nv c2v) := cell_of HV7.out rfl
      have x2 : (w7.alloc (.cells #[.int .i64 mlo, .int .i64 mhi] 31)).cell? ⟨wo.heap.size, 2, none⟩ = some (.int .i64 xlo) := cell_of HV7.out rfl
      have x3 : (w7.alloc (.cells #[.int .i64 mlo, .int .i64 mhi] 31)).cell? ⟨wo.heap.size, 3, none⟩ = some (.int .i64 xhi) := cell_of HV7.out rfl
      have y0 : (w7.alloc (.cells #[.int .i64 mlo, .int .i64 mhi] 31)).cell? ⟨w7.heap.size, 0, none⟩ = some (.int .i64 mlo) := cell_of HC7.out rfl
      have y1 : (w7.alloc (.cells #[.int .i64 mlo, .int .i64 mhi] 31)).cell? ⟨w7.heap.size, 1, none⟩ = some (.int .i64 mhi) := cell_of HC7.out rfl
      have hB7 := HB7.out
      have hp7 := HP7.out
      have hr7 := HR7.out
      go_wp2_with fail
      go_region_held3 (fun W => Below w.heap.size wo W ∧ W.cell? ⟨wo.heap.size, 0, none⟩ = some (.int .i64 xid) ∧ W.cell? ⟨wo.heap.size, 1, none⟩ = some (.slice a2 nv c2v) ∧ W.cell? ⟨wo.heap.size, 2, none⟩ = some (.int .i64 xlo) ∧ W.cell? ⟨wo.heap.size, 3, none⟩ = some (.int .i64 xhi) ∧ W.cell? ⟨w7.heap.size, 0, none⟩ = some (.int .i64 mlo) ∧ W.cell? ⟨w7.heap.size, 1, none⟩ = some (.int .i64 mhi) ∧ W.heap[w.heap.size]? = some (.cells #[.int .i64 plo, .int .i64 phi] 31 (0, 0)) ∧ W.heap[w.heap.size + 1]? = some (.cells #[.slice none 0 0, .slice none 0 0] 38 (0, 0)))
        ((go_split_ands; refine ⟨?_, ?_, ?_, ?_, ?_, ?_, ?_, ?_, ?_⟩ <;> first | (with_reducible assumption) | with_reducible exact Below.drew (by assumption) | with_reducible exact cell_drew (by assumption) | with_reducible exact heap_drew (by assumption) | with_reducible exact below_tr3 (by assumption) (by assumption) (by assumption) | with_reducible exact cell_keep (by assumption) (by assumption) | with_reducible exact box_kept (by assumption) (by assumption)))
        (first
          | (go_at_call 55; go_split_ands; refine (HCLN _ (by first | assumption | exact Below.drew (by assumption))).out.mono ?_; rintro e' wCa ⟨vCa, rfl, hOCa, hbCa⟩)
          | (go_at_call 85; go_split_ands; refine (HS7d.out.add hbCa hOCa _ _ xid wo.heap.size (by assumption) (by first | omega | exact hlla.out)).mono ?_; rintro e' w8a ⟨rfl, vaa, hS8a, hF8a, hB8a⟩; have qba := Below.trans (show Below w.heap.size wo _ by assumption) (hB8a.mono (show w.heap.size ≤ w.heap.size + 1 + 1 by omega)); have r0a := cell_same (hF8a _ (.inl (.inr rfl))) (show World.cell? _ ⟨wo.heap.size, 0, none⟩ = _ by assumption); have r1a := cell_same (hF8a _ (.inl (.inr rfl))) (show World.cell? _ ⟨wo.heap.size, 1, none⟩ = _ by assumption); have r2a := cell_same (hF8a _ (.inl (.inr rfl))) (show World.cell? _ ⟨wo.heap.size, 2, none⟩ = _ by assumption); have r3a := cell_same (hF8a _ (.inl (.inr rfl))) (show World.cell? _ ⟨wo.heap.size, 3, none⟩ = _ by assumption); have r4a := cell_same (hF8a _ (.inr rfl)) (show World.cell? _ ⟨w7.heap.size, 0, none⟩ = _ by assumption); have r5a := cell_same (hF8a _ (.inr rfl)) (show World.cell? _ ⟨w7.heap.size, 1, none⟩ = _ by assumption); have r6a := (hF8a _ (.inl (.inl (.inl rfl)))).trans (show _[w.heap.size]? = some (.cells #[.int .i64 plo, .int .i64 phi] 31 (0, 0)) by assumption); have r7a := (hF8a _ (.inl (.inl (.inr rfl)))).trans (show _[w.heap.size + 1]? = some (.cells #[.slice none 0 0, .slice none 0 0] 38 (0, 0)) by assumption)))
      have HS8a := Lib.hid (hS8a.below (Below.refl _ _).drew)
      clear hS8a hF8a hB8a hOCa hbCa
      have hlla : Hid ((adk ++ (if xlo < mlo then [(⟨xvals, xlo, mlo, [xid]⟩ : Tup)] else [])).length ≤ 1000) := by show _ ≤ _; rw [List.length_append]; have l1 := if_len (c := xlo < mlo) ⟨xvals, xlo, mlo, [xid]⟩; omega
      cases chg with
      | none =>
        have hfn : fv = .nilFunc := HF.out
        subst hfn
        have hq := nil_neq
        go_wp2_with fail
        go_region_held3 (fun W => Below w.heap.size wo W ∧ W.cell? ⟨wo.heap.size, 0, none⟩ = some (.int .i64 xid) ∧ W.cell? ⟨wo.heap.size, 1, none⟩ = some (.slice a2 nv c2v) ∧ W.cell? ⟨wo.heap.size, 2, none⟩ = some (.int .i64 xlo) ∧ W.cell? ⟨wo.heap.size, 3, none⟩ = some (.int .i64 xhi) ∧ W.cell? ⟨w7.heap.size, 0, none⟩ = some (.int .i64 mlo) ∧ W.cell? ⟨w7.heap.size, 1, none⟩ = some (.int .i64 mhi) ∧ W.heap[w.heap.size]? = some (.cells #[.int .i64 plo, .int .i64 phi] 31 (0, 0)) ∧ W.heap[w.heap.size + 1]? = some (.cells #[.slice none 0 0, .slice none 0 0] 38 (0, 0)))
          ((go_split_ands; refine ⟨?_, ?_, ?_, ?_, ?_, ?_, ?_, ?_, ?_⟩ <;> first | (with_reducible assumption) | with_reducible exact Below.drew (by assumption) | with_reducible exact cell_drew (by assumption) | with_reducible exact heap_drew (by assumption) | with_reducible exact below_tr3 (by assumption) (by assumption) (by assumption) | with_reducible exact cell_keep (by assumption) (by assumption) | with_reducible exact box_kept (by assumption) (by assumption)))
          (first
            | (go_at_call 55; go_split_ands; refine (HCLN _ (by first | assumption | exact Below.drew (by assumption))).out.mono ?_; rintro e' wCb ⟨vCb, rfl, hOCb, hbCb⟩)
            | (go_at_call 85; go_split_ands; refine (HS8a.out.add hbCb hOCb _ _ xid wo.heap.size (by assumption) (by first | omega | exact hlla.out)).mono ?_; rintro e' w8b ⟨rfl, vab, hS8b, hF8b, hB8b⟩; have qbb := Below.trans (show Below w.heap.size wo _ by assumption) (hB8b.mono (show w.heap.size ≤ w.heap.size + 1 + 1 by omega)); have r0b := cell_same (hF8b _ (.inl (.inr rfl))) (show World.cell? _ ⟨wo.heap.size, 0, none⟩ = _ by assumption); have r1b := cell_same (hF8b _ (.inl (.inr rfl))) (show World.cell? _ ⟨wo.heap.size, 1, none⟩ = _ by assumption); have r2b := cell_same (hF8b _ (.inl (.inr rfl))) (show World.cell? _ ⟨wo.heap.size, 2, none⟩ = _ by assumption); have r3b := cell_same (hF8b _ (.inl (.inr rfl))) (show World.cell? _ ⟨wo.heap.size, 3, none⟩ = _ by assumption); have r4b := cell_same (hF8b _ (.inr rfl)) (show World.cell? _ ⟨w7.heap.size, 0, none⟩ = _ by assumption); have r5b := cell_same (hF8b _ (.inr rfl)) (show World.cell? _ ⟨w7.heap.size, 1, none⟩ = _ by assumption); have r6b := (hF8b _ (.inl (.inl (.inl rfl)))).trans (show _[w.heap.size]? = some (.cells #[.int .i64 plo, .int .i64 phi] 31 (0, 0)) by assumption); have r7b := (hF8b _ (.inl (.inl (.inr rfl)))).trans (show _[w.heap.size + 1]? = some (.cells #[.slice none 0 0, .slice none 0 0] 38 (0, 0)) by assumption)))
        clear hF8b hB8b hOCb hbCb
        go_wp2_with fail
        go_roundw
        case rel =>
          refine ⟨k + 1, .slice (some ⟨g, 0, none⟩) (clk.length + 1) cap, vab, by omega, by go_num, ?_, r6b, r7b, HB.out.trans (qbb.mono (Nat.le_refl _))⟩
          have h := (hS8b).mono (F' := fun k => k = w.heap.size ∨ k = w.heap.size + 1) (fun k hk => .inl (.inl hk))
          rw [show (aff.take (k + 1)).map Ver.id = clk ++ [xid] by rw [take_get HX.out, List.map_append, HCLK.out]; rfl, show (aff.take (k + 1)).flatMap (partsV plo phi none) = adk ++ (if xlo < mlo then [(⟨xvals, xlo, mlo, [xid]⟩ : Tup)] else []) ++ (if mhi < xhi then [(⟨xvals, mhi, xhi, [xid]⟩ : Tup)] else []) by rw [take_get HX.out, List.flatMap_append, List.flatMap_cons, List.flatMap_nil, List.append_nil, ← HADK.out, partsV, partL, partM, partR]; dsimp only; rw [← HMLO.out, ← HMHI.out]; simp only [List.append_assoc, List.append_nil]]
          exact h
        case measure => simp [intOf]; omega
      | some f =>
        obtain ⟨g1, g2, hfn, hupd⟩ := HF.out
        subst hfn
        have HUPD : ∀ W, Below w.heap.size wo W → Hid (Calls Try.prog 59 #[.slice a2 nv c2v, .pointer (some ⟨g1, 0, none⟩), .pointer (some ⟨g2, 0, none⟩)] W (RetOwn valE W (f xvals))) := fun W hW => hupd W _ xvals (HB.out.trans hW) (sl_old HVV.out (hW.mono hm)).free (HVL.out _ HXI.out.1) (HVN.out _ HXI.out.1)
        clear hupd
        have hq := fun_neq (.func 59) #[] #[.pointer (some ⟨g1, 0, none⟩), .pointer (some ⟨g2, 0, none⟩)]
        go_wp2_with fail
        go_region_held3 (fun W => Below w.heap.size wo W ∧ W.cell? ⟨wo.heap.size, 0, none⟩ = some (.int .i64 xid) ∧ W.cell? ⟨wo.heap.size, 1, none⟩ = some (.slice a2 nv c2v) ∧ W.cell? ⟨wo.heap.size, 2, none⟩ = some (.int .i64 xlo) ∧ W.cell? ⟨wo.heap.size, 3, none⟩ = some (.int .i64 xhi) ∧ W.cell? ⟨w7.heap.size, 0, none⟩ = some (.int .i64 mlo) ∧ W.cell? ⟨w7.heap.size, 1, none⟩ = some (.int .i64 mhi) ∧ W.heap[w.heap.size]? = some (.cells #[.int .i64 plo, .int .i64 phi] 31 (0, 0)) ∧ W.heap[w.heap.size + 1]? = some (.cells #[.slice none 0 0, .slice none 0 0] 38 (0, 0)))
          ((go_split_ands; refine ⟨?_, ?_, ?_, ?_, ?_, ?_, ?_, ?_, ?_⟩ <;> first | (with_reducible assumption) | with_reducible exact Below.drew (by assumption) | with_reducible exact cell_drew (by assumption) | with_reducible exact heap_drew (by assumption) | with_reducible exact below_tr3 (by assumption) (by assumption) (by assumption) | with_reducible exact cell_keep (by assumption) (by assumption) | with_reducible exact box_kept (by assumption) (by assumption)))
          (first
            | (go_at_call 59; go_split_ands; refine (HUPD _ (by first | assumption | exact Below.drew (by assumption))).out.mono ?_; rintro e' wCb ⟨vCb, rfl, hOCb, hbCb⟩)
            | (go_at_call 85; go_split_ands; refine (HS8a.out.add hbCb hOCb _ _ xid wo.heap.size (by assumption) (by first | omega | exact hlla.out)).mono ?_; rintro e' w8b ⟨rfl, vab, hS8b, hF8b, hB8b⟩; have qbb := Below.trans (show Below w.heap.size wo _ by assumption) (hB8b.mono (show w.heap.size ≤ w.heap.size + 1 + 1 by omega)); have r0b := cell_same (hF8b _ (.inl (.inr rfl))) (show World.cell? _ ⟨wo.heap.size, 0, none⟩ = _ by assumption); have r1b := cell_same (hF8b _ (.inl (.inr rfl))) (show World.cell? _ ⟨wo.heap.size, 1, none⟩ = _ by assumption); have r2b := cell_same (hF8b _ (.inl (.inr rfl))) (show World.cell? _ ⟨wo.heap.size, 2, none⟩ = _ by assumption); have r3b := cell_same (hF8b _ (.inl (.inr rfl))) (show World.cell? _ ⟨wo.heap.size, 3, none⟩ = _ by assumption); have r4b := cell_same (hF8b _ (.inr rfl)) (show World.cell? _ ⟨w7.heap.size, 0, none⟩ = _ by assumption); have r5b := cell_same (hF8b _ (.inr rfl)) (show World.cell? _ ⟨w7.heap.size, 1, none⟩ = _ by assumption); have r6b := (hF8b _ (.inl (.inl (.inl rfl)))).trans (show _[w.heap.size]? = some (.cells #[.int .i64 plo, .int .i64 phi] 31 (0, 0)) by assumption); have r7b := (hF8b _ (.inl (.inl (.inr rfl)))).trans (show _[w.heap.size + 1]? = some (.cells #[.slice none 0 0, .slice none 0 0] 38 (0, 0)) by assumption)))
        have HS8b := Lib.hid (hS8b.below (Below.refl _ _).drew)
        clear hS8b hF8b hB8b hOCb hbCb
        have hllb : Hid ((adk ++ (if xlo < mlo then [(⟨xvals, xlo, mlo, [xid]⟩ : Tup)] else []) ++ (if mlo < mhi then [(⟨f xvals, mlo, mhi, [xid]⟩ : Tup)] else [])).length ≤ 1000) := by show _ ≤ _; rw [List.length_append, List.length_append]; have l1 := if_len (c := xlo < mlo) ⟨xvals, xlo, mlo, [xid]⟩; have l2 := if_len (c := mlo < mhi) ⟨f xvals, mlo, mhi, [xid]⟩; omega
        go_wp2_with fail
        go_region_held3 (fun W => Below w.heap.size wo W ∧ W.cell? ⟨wo.heap.size, 0, none⟩ = some (.int .i64 xid) ∧ W.cell? ⟨wo.heap.size, 1, none⟩ = some (.slice a2 nv c2v) ∧ W.cell? ⟨wo.heap.size, 2, none⟩ = some (.int .i64 xlo) ∧ W.cell? ⟨wo.heap.size, 3, none⟩ = some (.int .i64 xhi) ∧ W.cell? ⟨w7.heap.size, 0, none⟩ = some (.int .i64 mlo) ∧ W.cell? ⟨w7.heap.size, 1, none⟩ = some (.int .i64 mhi) ∧ W.heap[w.heap.size]? = some (.cells #[.int .i64 plo, .int .i64 phi] 31 (0, 0)) ∧ W.heap[w.heap.size + 1]? = some (.cells #[.slice none 0 0, .slice none 0 0] 38 (0, 0)))
          ((go_split_ands; refine ⟨?_, ?_, ?_, ?_, ?_, ?_, ?_, ?_, ?_⟩ <;> first | (with_reducible assumption) | with_reducible exact Below.drew (by assumption) | with_reducible exact cell_drew (by assumption) | with_reducible exact heap_drew (by assumption) | with_reducible exact below_tr3 (by assumption) (by assumption) (by assumption) | with_reducible exact cell_keep (by assumption) (by assumption) | with_reducible exact box_kept (by assumption) (by assumption)))
          (first
            | (go_at_call 55; go_split_ands; refine (HCLN _ (by first | assumption | exact Below.drew (by assumption))).out.mono ?_; rintro e' wCc ⟨vCc, rfl, hOCc, hbCc⟩)
            | (go_at_call 85; go_split_ands; refine (HS8b.out.add hbCc hOCc _ _ xid wo.heap.size (by assumption) (by first | omega | exact hllb.out)).mono ?_; rintro e' w8c ⟨rfl, vac, hS8c, hF8c, hB8c⟩; have qbc := Below.trans (show Below w.heap.size wo _ by assumption) (hB8c.mono (show w.heap.size ≤ w.heap.size + 1 + 1 by omega)); have r0c := cell_same (hF8c _ (.inl (.inr rfl))) (show World.cell? _ ⟨wo.heap.size, 0, none⟩ = _ by assumption); have r1c := cell_same (hF8c _ (.inl (.inr rfl))) (show World.cell? _ ⟨wo.heap.size, 1, none⟩ = _ by assumption); have r2c := cell_same (hF8c _ (.inl (.inr rfl))) (show World.cell? _ ⟨wo.heap.size, 2, none⟩ = _ by assumption); have r3c := cell_same (hF8c _ (.inl (.inr rfl))) (show World.cell? _ ⟨wo.heap.size, 3, none⟩ = _ by assumption); have r4c := cell_same (hF8c _ (.inr rfl)) (show World.cell? _ ⟨w7.heap.size, 0, none⟩ = _ by assumption); have r5c := cell_same (hF8c _ (.inr rfl)) (show World.cell? _ ⟨w7.heap.size, 1, none⟩ = _ by assumption); have r6c := (hF8c _ (.inl (.inl (.inl rfl)))).trans (show _[w.heap.size]? = some (.cells #[.int .i64 plo, .int .i64 phi] 31 (0, 0)) by assumption); have r7c := (hF8c _ (.inl (.inl (.inr rfl)))).trans (show _[w.heap.size + 1]? = some (.cells #[.slice none 0 0, .slice none 0 0] 38 (0, 0)) by assumption)))
        clear hF8c hB8c hOCc hbCc
        go_wp2_with fail
        go_roundw
        case rel =>
          refine ⟨k + 1, .slice (some ⟨g, 0, none⟩) (clk.length + 1) cap, vac, by omega, by go_num, ?_, r6c, r7c, HB.out.trans (qbc.mono (Nat.le_refl _))⟩
          have h := (hS8c).mono (F' := fun k => k = w.heap.size ∨ k = w.heap.size + 1) (fun k hk => .inl (.inl hk))
          rw [show (aff.take (k + 1)).map Ver.id = clk ++ [xid] by rw [take_get HX.out, List.map_append, HCLK.out]; rfl, show (aff.take (k + 1)).flatMap (partsV plo phi (some f)) = adk ++ (if xlo < mlo then [(⟨xvals, xlo, mlo, [xid]⟩ : Tup)] else []) ++ (if mlo < mhi then [(⟨f xvals, mlo, mhi, [xid]⟩ : Tup)] else []) ++ (if mhi < xhi then [(⟨xvals, mhi, xhi, [xid]⟩ : Tup)] else []) by rw [take_get HX.out, List.flatMap_append, List.flatMap_cons, List.flatMap_nil, List.append_nil, ← HADK.out, partsV, partL, partM, partR]; dsimp only; rw [← HMLO.out, ← HMHI.out]; simp only [List.append_assoc]]
          exact h
        case measure => simp [intOf]; omega
    · have hF : aff.take k = aff := by rw [List.take_of_length_le (by rw [← HN.out]; omega)]
      rw [hF] at hS
      obtain ⟨clk, hclk⟩ : ∃ clk, clk = aff.map Ver.id := ⟨_, rfl⟩
      obtain ⟨adk, hadk⟩ : ∃ adk, adk = aff.flatMap (partsV plo phi chg) := ⟨_, rfl⟩
      rw [← hclk, ← hadk] at hS ⊢
      obtain ⟨ac, cc, rfl⟩ := hS.cl.shape
      obtain ⟨aa, ca, rfl⟩ := hS.ad.shape
      have HS := Lib.hid hS
      have HB := Lib.hid hB
      have d0 := cell_of (k := 0) hS.d rfl
      have d1 := cell_of (k := 1) hS.d rfl
      obtain ⟨r0, r1, f0, f1⟩ := box_two hr
      have hgd := hS.gdlt
      have HCF := Lib.hid hclk
      have HAF := Lib.hid hadk
      clear hS hB hp hclk hadk
      go_wp2_with fail
      refine bodyPost_ret (v := .agg #[.slice ac clk.length cc, .slice aa adk.length ca]) (by simp [results, Try.results57, go_sem, r0, r1]) rfl ⟨_, _, rfl, ?_, ?_, (HB.out.setCell (by simp) _).setCell (by simp) _⟩
      · rw [← HCF.out]
        have a1 : Own (intE.avoid fun k => k = w.heap.size + 1) ((wo.setCell ⟨w.heap.size + 1, 0, none⟩ (.slice ac clk.length cc)).setCell ⟨w.heap.size + 1, 1, none⟩ (.slice aa adk.length ca)) (w.heap.size + 1 + 1 + 1) (.slice ac clk.length cc) clk := (show Own (intE.avoid fun k => k = w.heap.size + 1) wo (w.heap.size + 1 + 1 + 1) (.slice ac clk.length cc) clk from HS.out.cl).shift (D' := fun k => k = w.heap.size + 1) (K := fun k => k = w.heap.size + 1) ((kept_set (G := fun k => k = w.heap.size + 1) (q := ⟨w.heap.size + 1, 0, none⟩) rfl).trans (kept_set (G := fun k => k = w.heap.size + 1) (q := ⟨w.heap.size + 1, 1, none⟩) rfl)) (fun k _ e => e) (fun k e e' => by have := (HS.out.cl.lt _ e).1; omega) (fun k _ e => .inl e)
        exact (show Own (intE.avoid fun k => m ≤ k ∧ k < w.heap.size) _ _ _ _ from a1.forget).slAvoid (fun k h => h) (fun k h => by omega)
      · rw [← HAF.out]
        exact (HS.out.ad.shift (D' := fun k => m ≤ k ∧ k < w.heap.size) (K := fun k => k = w.heap.size + 1) ((kept_set (G := fun k => k = w.heap.size + 1) (q := ⟨w.heap.size + 1, 0, none⟩) rfl).trans (kept_set (G := fun k => k = w.heap.size + 1) (q := ⟨w.heap.size + 1, 1, none⟩) rfl)) (fun k _ e => .inl ⟨by omega, by omega⟩) (fun k e e' => by have := (HS.out.ad.lt _ e).1; omega) (fun k _ e => .inl (.inl ⟨e.1, by omega⟩))).slAvoid (fun k h => h) (fun k h => by omega)
end Go.Proofs.Ytminnkihcohflaa
