/- A part of the proofs: OpenB, OpenC, Rso, Rst, Rts, Frw, Frr, Rmu, Mrg, RSpl, ShCp, Bnd. No condition beside sizes and tables that read as laid. -/
import Derived.Test.YtngigmpaabmngaaGreatDoorMgAd
import Derived.Lib.Strings
import Derived.Test.YtngigmpaabmngaaGreatDoorMgAc
import Derived.Test.YtngigmpaabmngaaGreatDoorMgAb
import Derived.Test.YtngigmpaabmngaaGreatDoorMgAa
import Derived.Deep.CutRange
import Derived.Shelf.Small.Bits
import Derived.Shelf.Small.Strs
import Derived.Shelf.Strconv.Itoa0
import Derived.Shelf.Sort.Plain
import Derived.Shelf.Bits.Mul64
import Derived.Ground.Names2Prog
import Derived.Shelf.Slices.Clone
import Derived.Shelf.Slices.CompactI
import Derived.Shelf.Slices.SearchI
import Derived.Shelf.Slices.Cells
import Derived.Shelf.Slices.In.SortNone
import Derived.Shelf.Slices.Empties
import Derived.Ground.SlgnProg
import Derived.Shelf.SlicesG.SearchI
import Derived.Shelf.SlicesE.Clone
import Derived.Test.YtngigmpaabmngaaGreatDoorProg
namespace Go.Proofs.YtngigmpaabmngaaGreatDoor
open Go.ChangeShapes Go.WideShapes Go.ChangeAt Go.RowKit
open Go.ChangeMaps (open_string)

theorem open_sl_b {H : Type} {enc : TypeId × Value → H} {P : Program} {w : World} {spare : Nat → Bool} {t e : TypeId} {v : Value} {d : DataW H} {ps : List MemPlace} {α : Type} {base : Nat} (E : El P α) (Pr : α → DataW H → Prop)
    (ht : P.underlying t = some (.slice e)) (hce : P.cellsOf e = E.size) (hv : Value.okWide P w .any base t v)
    (hel : ∀ n cs y, DataW.trod enc P w 0 spare true n e cs = some y → cs.length = E.size → ∃ x, E.is w free x cs ∧ Pr x y.1)
    (h : DataW.Trod enc P w 0 spare true t v d ps) : ∃ l : List α, Sl E w free v l ∧ ∀ x ∈ l, ∃ elems sp dx, d = .slice elems sp ∧ dx ∈ elems ∧ Pr x dx := by
  obtain ⟨a0, len0, cap0, rfl⟩ := okWide_slice ht hv
  obtain ⟨fuel, hf⟩ := h
  rcases Go.Deep.open_slice ht hf with ⟨hcs, _⟩ | ⟨a, len, cap, m, n, D, Pl, hcs, _, hl, hm, hmm, hxe, hx⟩
  · simp [Value.cells] at hcs
    obtain ⟨rfl, rfl, rfl⟩ := hcs
    exact ⟨[], Sl.nil _ _ _ _ _, by simp⟩
  · simp [Value.cells] at hcs
    obtain ⟨rfl, rfl, rfl⟩ := hcs
    have hd : d = .slice ((List.range len0).map D) ((List.range (m - len0)).map fun j => D (len0 + j)) := congrArg Prod.fst hxe
    have hlm : len0 ≤ m := by rw [hmm]; split <;> omega
    have hsz := E.pos
    have each : ∀ i : Fin len0, ∃ x cs, cs.length = E.size ∧ (E.is w free x cs ∧ Pr x (D i)) ∧ ∀ j u, cs[j]? = some u → w.cell? ((a.add (i * E.size)).add j) = some u := by
      intro i
      obtain ⟨cs, h1, h2⟩ := hx i (by omega)
      rw [hce] at h1
      obtain ⟨_, hlen, hcell⟩ := World.cells?_some h1
      obtain ⟨x, hxr⟩ := hel _ _ _ h2 hlen
      refine ⟨x, cs, hlen, hxr, fun j u hu => ?_⟩
      have hj : j < E.size := by rw [← hlen]; exact (List.getElem?_eq_some_iff.1 hu).1
      rw [hcell j hj]; exact hu
    let f : Fin len0 → α := fun i => Classical.choose (each i)
    have hf' : ∀ i : Fin len0, ∃ cs, cs.length = E.size ∧ (E.is w free (f i) cs ∧ Pr (f i) (D i)) ∧ ∀ j u, cs[j]? = some u → w.cell? ((a.add (i * E.size)).add j) = some u := fun i => Classical.choose_spec (each i)
    have hlen : (List.ofFn f).length = len0 := List.length_ofFn
    refine ⟨List.ofFn f, ⟨by rw [hlen]; unfold maxLen at hm; omega, some a, cap0, by rw [hlen], by rw [hlen]; exact hl, fun hpos => ?_⟩, fun x hx' => ?_⟩
    · rw [hlen] at hpos
      obtain ⟨b, o, spot⟩ := a
      have hspot : spot = none := by
        obtain ⟨cs, h1, _⟩ := hx 0 (by omega)
        rw [hce] at h1
        obtain ⟨_, hl0, hcell⟩ := World.cells?_some h1
        have h2 := hcell 0 hsz
        rw [List.getElem?_eq_getElem (by omega)] at h2
        have h3 : w.cell? ⟨b, o, spot⟩ = some (cs[0]'(by omega)) := by simpa [Addr.add] using h2
        cases spot with
        | none => rfl
        | some s => simp [World.cell?] at h3; split at h3 <;> simp at h3
      subst hspot
      refine ⟨b, o, rfl, id, fun i x hi => ?_⟩
      have hil : i < len0 := by rw [← hlen]; exact (List.getElem?_eq_some_iff.1 hi).1
      obtain ⟨cs, h1, h2, h3⟩ := hf' ⟨i, hil⟩
      have hxe : x = f ⟨i, hil⟩ := by
        rw [List.getElem?_ofFn] at hi
        simp [hil] at hi
        exact hi.symm
      refine ⟨cs, by rw [hxe]; exact h2.1, fun j u hu => ?_⟩
      have := h3 j u hu
      rw [Go.Deep.add_add] at this
      rw [Addr.add_lit] at this
      rw [Nat.add_assoc]; exact this
    · obtain ⟨i, rfl⟩ := List.mem_ofFn.1 hx'
      exact ⟨_, _, D i, hd, List.mem_map.2 ⟨i, List.mem_range.2 i.2, rfl⟩, (hf' i).choose_spec.2.1.2⟩
theorem bulk_mem {H : Type} (l : List (DataW H)) : ∀ d ∈ l, Rows.uptoBulk d ≤ Rows.uptoBulkAll l := by
  induction l with
  | nil => intro d h; simp at h
  | cons e l ih =>
    intro d h
    rw [Rows.uptoBulkAll]
    rcases List.mem_cons.1 h with rfl | h
    · omega
    · have := ih d h; omega
/-- Its numbers are a machine's; its text is no longer than the datum's bulk. -/
def BVal {H : Type} (x : GVal) (d : DataW H) : Prop := IsVal x ∧ x.s.size ≤ Rows.uptoBulk d
section
variable {H : Type} {enc : TypeId × Value → H} {w : World} {spare : Nat → Bool}
set_option maxRecDepth 10000 in
theorem open_val_b (n : Nat) (cs : List Value) (y : DataW H × List MemPlace) (h : DataW.trod enc Tryz.prog w 0 spare true n 86 cs = some y) (hl : cs.length = 3) : ∃ x, valE.is w free x cs ∧ BVal x y.1 := by
  obtain ⟨xs, k, hk, hxy, hy2, hxl, hf⟩ := DataW.trod_struct Tryz.underlying86 h
  match cs, hl with
  | [c0, c1, c2], _ =>
    match xs, hxl with
    | [y0, y1, y2], _ =>
      have g0 := hf 0 _ rfl
      have g1 := hf 1 _ rfl
      have g2 := hf 2 _ rfl
      simp [cells_int, cells_i64, cells_string] at g0 g1 g2
      obtain ⟨k0, e0, _, w0⟩ := DataW.trod_int Tryz.underlying3 g0
      obtain ⟨k1, e1, _, w1⟩ := DataW.trod_int Tryz.underlying2 g1
      obtain ⟨s, e2, e3, hs⟩ := DataW.trod_string Tryz.underlying9 g2
      simp at e0 e1 e2
      subst e0 e1 e2
      refine ⟨⟨k0, k1, s⟩, rfl, ⟨is64_of w0, is64_of w1, hs⟩, ?_⟩
      rw [hxy, e3]
      have hz := Lib.size_eq s
      simp only [List.map_cons, List.map_nil, Rows.uptoBulk, Rows.uptoBulkAll]
      omega
set_option maxRecDepth 10000 in
/-- A slice of values whose reading's bulk is bounded. -/
theorem open_vals_b {v : Value} {d : DataW H} {ps : List MemPlace} {base n : Nat} (hv : Value.okWide Tryz.prog w .any base 37 v) (h : DataW.Trod enc Tryz.prog w 0 spare true 37 v d ps) (hb : Rows.uptoBulk d ≤ n) :
    ∃ l : List GVal, Sl valE w free v l ∧ ∀ x ∈ l, IsVal x ∧ x.s.size ≤ n := by
  obtain ⟨l, h1, h2⟩ := open_sl_b valE BVal Tryz.underlying37 cells_val hv open_val_b h
  refine ⟨l, h1, fun x hx => ?_⟩
  obtain ⟨elems, sp, dx, rfl, hm, hp, hq⟩ := h2 x hx
  refine ⟨hp, ?_⟩
  have := bulk_mem elems dx hm
  rw [Rows.uptoBulk] at hb
  omega
/-- A small argument's bulk. -/
theorem bulk_le {ds : List (DataW H)} (hk : Rows.uptoSmall H ds = true) {d : DataW H} (hd : d ∈ ds) : Rows.uptoBulk d ≤ 1048576 := by
  have h1 := bulk_mem ds d hd
  have h2 : Rows.uptoBulkAll ds ≤ 1048576 := of_decide_eq_true hk
  omega
set_option maxRecDepth 10000 in
theorem open_u8v {base : Nat} {v : Value} {d : DataW H} {ps : List MemPlace}
    (hv : Value.okWide Tryz.prog w .any base 5 v) (h : DataW.Trod enc Tryz.prog w 0 spare true 5 v d ps) : ∃ x : Nat, v = .int .u8 (x : Int) ∧ x < 256 := by
  obtain ⟨n, rfl, _, _, hw⟩ := open_int Tryz.underlying5 hv h
  simp [Lit.wf, IntKind.min, IntKind.max, IntKind.signed, IntKind.bits] at hw
  obtain ⟨k, rfl⟩ := Int.eq_ofNat_of_zero_le hw.1
  exact ⟨k, rfl, by omega⟩
end
end Go.Proofs.YtngigmpaabmngaaGreatDoor

namespace Go.Proofs.YtngigmpaabmngaaGreatDoor
open Go.ChangeShapes Go.WideShapes Go.ChangeAt Go.RowKit

theorem open_sl_trod_b {H : Type} {enc : TypeId × Value → H} {P : Program} {w : World} {spare : Nat → Bool} {t e : TypeId} {cs0 : List Value} {y0 : DataW H × List MemPlace} {n0 : Nat} {α : Type} (E : El P α) (Pr : α → DataW H → Prop)
    (ht : P.underlying t = some (.slice e)) (hce : P.cellsOf e = E.size)
    (hel : ∀ n cs y, DataW.trod enc P w 0 spare true n e cs = some y → cs.length = E.size → ∃ x, E.is w free x cs ∧ Pr x y.1)
    (h : DataW.trod enc P w 0 spare true n0 t cs0 = some y0) : ∃ (v : Value) (l : List α), cs0 = [v] ∧ Sl E w free v l ∧ ∀ x ∈ l, ∃ elems sp dx, y0.1 = .slice elems sp ∧ dx ∈ elems ∧ Pr x dx := by
  rcases Go.Deep.open_slice ht h with ⟨hcs, _⟩ | ⟨a, len, cap, m, n, D, Pl, hcs, _, hl, hm, hmm, hxe0, hx⟩
  · exact ⟨_, [], hcs, Sl.nil _ _ _ _ _, by simp⟩
  · have hd : y0.1 = .slice ((List.range len).map D) ((List.range (m - len)).map fun j => D (len + j)) := congrArg Prod.fst hxe0
    have hlm : len ≤ m := by rw [hmm]; split <;> omega
    have hsz := E.pos
    have each : ∀ i : Fin len, ∃ x cs, cs.length = E.size ∧ (E.is w free x cs ∧ Pr x (D i)) ∧ ∀ j u, cs[j]? = some u → w.cell? ((a.add (i * E.size)).add j) = some u := by
      intro i
      obtain ⟨cs, h1, h2⟩ := hx i (by omega)
      rw [hce] at h1
      obtain ⟨_, hlen, hcell⟩ := World.cells?_some h1
      obtain ⟨x, hxr⟩ := hel _ _ _ h2 hlen
      refine ⟨x, cs, hlen, hxr, fun j u hu => ?_⟩
      have hj : j < E.size := by rw [← hlen]; exact (List.getElem?_eq_some_iff.1 hu).1
      rw [hcell j hj]; exact hu
    let f : Fin len → α := fun i => Classical.choose (each i)
    have hf' : ∀ i : Fin len, ∃ cs, cs.length = E.size ∧ (E.is w free (f i) cs ∧ Pr (f i) (D i)) ∧ ∀ j u, cs[j]? = some u → w.cell? ((a.add (i * E.size)).add j) = some u := fun i => Classical.choose_spec (each i)
    have hlen : (List.ofFn f).length = len := List.length_ofFn
    refine ⟨_, List.ofFn f, hcs, ⟨by rw [hlen]; unfold maxLen at hm; omega, some a, cap, by rw [hlen], by rw [hlen]; exact hl, fun hpos => ?_⟩, fun x hx => ?_⟩
    · rw [hlen] at hpos
      obtain ⟨b, o, spot⟩ := a
      have hspot : spot = none := by
        obtain ⟨cs, h1, _⟩ := hx 0 (by omega)
        rw [hce] at h1
        obtain ⟨_, hl0, hcell⟩ := World.cells?_some h1
        have h2 := hcell 0 hsz
        rw [List.getElem?_eq_getElem (by omega)] at h2
        have h3 : w.cell? ⟨b, o, spot⟩ = some (cs[0]'(by omega)) := by simpa [Addr.add] using h2
        cases spot with
        | none => rfl
        | some s => simp [World.cell?] at h3; split at h3 <;> simp at h3
      subst hspot
      refine ⟨b, o, rfl, id, fun i x hi => ?_⟩
      have hil : i < len := by rw [← hlen]; exact (List.getElem?_eq_some_iff.1 hi).1
      obtain ⟨cs, h1, h2, h3⟩ := hf' ⟨i, hil⟩
      have hxe : x = f ⟨i, hil⟩ := by
        rw [List.getElem?_ofFn] at hi
        simp [hil] at hi
        exact hi.symm
      refine ⟨cs, by rw [hxe]; exact h2.1, fun j u hu => ?_⟩
      have := h3 j u hu
      rw [Go.Deep.add_add] at this
      rw [Addr.add_lit] at this
      rw [Nat.add_assoc]; exact this
    · obtain ⟨i, rfl⟩ := List.mem_ofFn.1 hx
      exact ⟨_, _, D i, hd, List.mem_map.2 ⟨i, List.mem_range.2 i.2, rfl⟩, (hf' i).choose_spec.2.1.2⟩
/-- A tuple whose numbers are a machine's and whose texts are no longer than the datum's bulk. -/
def BTup {H : Type} (x : Tup) (d : DataW H) : Prop := IsTup x ∧ ∀ g ∈ x.vals, g.s.size ≤ Rows.uptoBulk d
section
variable {H : Type} {enc : TypeId × Value → H} {w : World} {spare : Nat → Bool}
set_option maxRecDepth 10000 in
theorem open_tup_b (n : Nat) (cs : List Value) (y : DataW H × List MemPlace) (h : DataW.trod enc Tryz.prog w 0 spare true n 52 cs = some y) (hl : cs.length = 4) : ∃ x, tupE.is w free x cs ∧ BTup x y.1 := by
  obtain ⟨xs, k, hk, hxy, _, hxl, hf⟩ := DataW.trod_struct Tryz.underlying52 h
  match cs, hl with
  | [c0, c1, c2, c3], _ =>
    match xs, hxl with
    | [y0, y1, y2], _ =>
      have g0 := hf 0 _ rfl
      have g1 := hf 1 _ rfl
      have g2 := hf 2 _ rfl
      simp [cells_ints, cells_vals, cells_per] at g0 g1 g2
      obtain ⟨v, lv, e0, hv, pv⟩ := open_sl_trod_b valE BVal Tryz.underlying37 cells_val open_val_b g0
      obtain ⟨u, lu, e2, hu, pu⟩ := open_sl_trod intE Is64 Tryz.underlying23 cells_int open_int_el g2
      obtain ⟨xs1, k1, _, _, _, hxl1, hf1⟩ := DataW.trod_struct Tryz.underlying50 g1
      match xs1, hxl1 with
      | [z0, z1], _ =>
        have f0 := hf1 0 _ rfl
        have f1 := hf1 1 _ rfl
        simp [cells_int] at f0 f1
        obtain ⟨k0, e3, _, w0⟩ := DataW.trod_int Tryz.underlying3 f0
        obtain ⟨k1, e4, _, w1⟩ := DataW.trod_int Tryz.underlying3 f1
        simp at e0 e2 e3 e4
        subst e0 e2 e3 e4
        refine ⟨⟨lv, k0, k1, lu⟩, ⟨_, _, rfl, hv, hu⟩, ⟨is64_of w0, is64_of w1, fun x hx => ?_, pu⟩, fun x hx => ?_⟩
        · obtain ⟨_, _, dx, _, _, hp⟩ := pv x hx
          exact hp.1
        · obtain ⟨elems, sp, dx, he, hm, hp⟩ := pv x hx
          rw [hxy]
          have h1 := bulk_mem elems dx hm
          have h2 := hp.2
          simp only [List.map_cons, List.map_nil, Rows.uptoBulk, Rows.uptoBulkAll, he]
          omega
set_option maxRecDepth 10000 in
/-- A slice of tuples whose reading's bulk is bounded. -/
theorem open_tups_b {v : Value} {d : DataW H} {ps : List MemPlace} {base n : Nat} (hv : Value.okWide Tryz.prog w .any base 24 v) (h : DataW.Trod enc Tryz.prog w 0 spare true 24 v d ps) (hb : Rows.uptoBulk d ≤ n) :
    ∃ l : List Tup, Tups w v l ∧ ∀ x ∈ l, IsTup x ∧ ∀ g ∈ x.vals, g.s.size ≤ n := by
  obtain ⟨l, h1, h2⟩ := open_sl_b tupE BTup Tryz.underlying24 cells_tup hv open_tup_b h
  refine ⟨l, h1, fun x hx => ?_⟩
  obtain ⟨elems, sp, dx, rfl, hm, hp, hq⟩ := h2 x hx
  refine ⟨hp, fun g hg => ?_⟩
  have h3 := hq g hg
  have h4 := bulk_mem elems dx hm
  rw [Rows.uptoBulk] at hb
  omega
theorem u8_of {n : Int} (h : (Lit.int .u8 n).wf = true) : ∃ k : Nat, n = (k : Int) ∧ k < 256 := by
  simp [Lit.wf, IntKind.min, IntKind.max, IntKind.signed, IntKind.bits] at h
  obtain ⟨k, rfl⟩ := Int.eq_ofNat_of_zero_le h.1
  exact ⟨k, rfl, by omega⟩
end
/-- Small tuples have keys. -/
theorem keyable_few {l : List Tup} {m : Nat} (hp : ∀ x ∈ l, IsTup x ∧ ∀ g ∈ x.vals, g.s.size ≤ 1048576) (hf : few l m = true) : ∀ x ∈ l, Keyable x.row := by
  obtain ⟨_, hs⟩ := few_of hf
  have hs6 : ∀ x ∈ l, x.vals.length ≤ 6 := by
    intro x hx
    simp [few, small] at hf
    exact (hf.2 x hx).1
  intro x hx
  obtain ⟨⟨_, _, h3, h4⟩, h5⟩ := hp x hx
  refine ⟨fun g hg => ⟨(h3 g hg).1, (h3 g hg).2.1, (h3 g hg).2.2⟩, h4, (hs x hx).1, (hs x hx).2, ?_⟩
  have key : ∀ (vs : List GVal), (∀ g ∈ vs, g ∈ x.vals) → (keyL vs).length ≤ 1100000 * vs.length := by
    intro vs
    induction vs with
    | nil => intro _; simp [keyL]
    | cons g vs ih =>
      intro hm
      have h6 := ih fun y hy => hm y (.tail _ hy)
      have h7 := hm g (.head _)
      have h8 := h5 g h7
      have h9 := keyOf_length g (h3 g h7).1 (h3 g h7).2.1 (by omega)
      have e : keyL (g :: vs) = keyOf g ++ keyL vs := by simp [keyL]
      rw [e, List.length_append, List.length_cons]
      omega
  have h6 := key x.vals fun g hg => hg
  have h7 := hs6 x hx
  show (keyL x.vals).length ≤ _
  omega
end Go.Proofs.YtngigmpaabmngaaGreatDoor

namespace Go.Proofs.YtngigmpaabmngaaGreatDoor
open Go.RowKit Go.Lib

set_option maxHeartbeats 2000000 in
theorem less_any (a b : GRow) (v u v2 u2 : Value) (w : World) (hv : Sl valE w free v a.vals) (hu : Sl intE w free u a.lin) (hv2 : Sl valE w free v2 b.vals) (hu2 : Sl intE w free u2 b.lin) :
    Calls Tryz.prog 128 #[.agg #[v, u], .agg #[v2, u2]] w fun e w' => e = .returned (.bool (decide (cmpRow a b < 0))) ∧ Below w.heap.size w w' := by
  obtain ⟨r1, hr1⟩ : ∃ r, r = cmpRows a.vals b.vals := ⟨_, rfl⟩
  obtain ⟨r2, hr2⟩ : ∃ r, r = cmpInts a.lin b.lin := ⟨_, rfl⟩
  have CR : ∀ W, Below w.heap.size w W → Hid (Calls Tryz.prog 26 #[v, v2] W fun e w' => e = .returned (.int .i64 r1) ∧ Below W.heap.size W w') := fun W h => hr1 ▸ cmpRows_any v v2 a.vals b.vals W (hv.below h).vals (hv2.below h).vals
  have CI : ∀ W, Below w.heap.size w W → Hid (Calls Tryz.prog 28 #[u, u2] W fun e w' => e = .returned (.int .i64 r2) ∧ Below W.heap.size W w') := fun W h => hr2 ▸ cmpInts_any u u2 a.lin b.lin W (hu.below h).ints (hu2.below h).ints
  have HR : Hid (cmpRow a b = if r1 = 0 then r2 else r1) := by show _ = _; rw [hr1, hr2]; rfl
  obtain ⟨a1, c1, rfl⟩ := hv.shape
  obtain ⟨a2, c2, rfl⟩ := hu.shape
  obtain ⟨a3, c3, rfl⟩ := hv2.shape
  obtain ⟨a4, c4, rfl⟩ := hu2.shape
  generalize a.vals.length = n1 at CR ⊢
  generalize a.lin.length = n2 at CI ⊢
  generalize b.vals.length = n3 at CR ⊢
  generalize b.lin.length = n4 at CI ⊢
  generalize cmpRow a b = z at HR ⊢
  have hb0 := below_alloc_two w (.cells #[.slice a1 n1 c1, .slice a2 n2 c2] 39) (.cells #[.slice a3 n3 c3, .slice a4 n4 c4] 39)
  have g0 := heap_alloc_old' w (.cells #[.slice a1 n1 c1, .slice a2 n2 c2] 39) (.cells #[.slice a3 n3 c3, .slice a4 n4 c4] 39)
  have g1 := heap_alloc_new' w (.cells #[.slice a1 n1 c1, .slice a2 n2 c2] 39) (.cells #[.slice a3 n3 c3, .slice a4 n4 c4] 39)
  have CR1 := Lib.hid (CR _ hb0).out
  have HB0 := Lib.hid hb0
  have G0 := Lib.hid g0
  have G1 := Lib.hid g1
  obtain ⟨d0, d1, _, _⟩ := box_two g0
  obtain ⟨e0, e1, _, _⟩ := box_two g1
  have CI' := Lib.hid CI
  clear hv hu hv2 hu2 hr1 hr2 CR CI hb0 g0 g1
  go_enter Tryz.func128, Tryz.ntmps128
  go_wp2_with fail
  refine CR1.out.mono ?_
  rintro _ w2 ⟨rfl, hb⟩
  obtain ⟨d0, d1, _, _⟩ := box_two (box_kept G0.out hb)
  obtain ⟨e0, e1, _, _⟩ := box_two (box_kept G1.out hb)
  have HB2 := Lib.hid (below_keep HB0.out hb)
  have CI2 := Lib.hid (CI'.out _ HB2.out).out
  clear hb CI' CR1 G0 G1 HB0
  by_cases h1 : r1 < 0
  · go_wp2_with fail
    go_ret
    exact ⟨ret_bool (by rw [HR.out, if_neg (by omega)]; simp [h1]), HB2.out⟩
  · by_cases h2 : r1 = 0
    · have h2' : (r1 == 0) = true := by simpa using h2
      go_wp2_with fail
      refine CI2.out.mono ?_
      rintro _ w3 ⟨rfl, hb3⟩
      have HB3 := Lib.hid (below_keep HB2.out hb3)
      clear hb3
      go_wp2_with fail
      go_ret
      exact ⟨ret_bool (by rw [HR.out, if_pos h2]), HB3.out⟩
    · have h2' : (r1 == 0) = false := by simpa using h2
      go_wp2_with fail
      go_ret
      exact ⟨ret_bool (by rw [HR.out, if_neg h2]), HB2.out⟩
/-- Two sorted lists merged. -/
def mrg : List GRow → List GRow → List GRow
  | [], b => b
  | x :: a, [] => x :: a
  | x :: a, y :: b => if cmpRow y x < 0 then y :: mrg (x :: a) b else x :: mrg a (y :: b)
termination_by a b => a.length + b.length
theorem mrg_nil (a : List GRow) : mrg a [] = a := by cases a <;> simp [mrg]
theorem mrg_nil' (b : List GRow) : mrg [] b = b := by simp [mrg]
theorem mrg_lt {x y : GRow} (a b : List GRow) (h : cmpRow y x < 0) : mrg (x :: a) (y :: b) = y :: mrg (x :: a) b := by rw [mrg, if_pos h]
theorem mrg_ge {x y : GRow} (a b : List GRow) (h : ¬ cmpRow y x < 0) : mrg (x :: a) (y :: b) = x :: mrg a (y :: b) := by rw [mrg, if_neg h]
theorem mrg_perm (a b : List GRow) : (mrg a b).Perm (a ++ b) := by
  induction a, b using mrg.induct with
  | case1 b => rw [mrg_nil']; exact List.Perm.refl _
  | case2 x a => rw [mrg_nil, List.append_nil]
  | case3 x a y b h ih => rw [mrg_lt _ _ h]; exact (ih.cons y).trans List.perm_middle.symm
  | case4 x a y b h ih => rw [mrg_ge _ _ h]; exact ih.cons x
theorem cmpRow_trans {a b c : GRow} (h1 : cmpRow a b ≤ 0) (h2 : cmpRow b c ≤ 0) : cmpRow a c ≤ 0 := by
  have h := sgn_row a b c
  unfold Sgn3 at h
  omega
theorem mrg_sorted (a b : List GRow) (ha : a.Pairwise fun x y => cmpRow x y ≤ 0) (hb : b.Pairwise fun x y => cmpRow x y ≤ 0) : (mrg a b).Pairwise fun x y => cmpRow x y ≤ 0 := by
  induction a, b using mrg.induct with
  | case1 b => rw [mrg_nil']; exact hb
  | case2 x a => rw [mrg_nil]; exact ha
  | case3 x a y b h ih =>
    rw [mrg_lt _ _ h, List.pairwise_cons]
    refine ⟨fun z hz => ?_, ih ha (List.pairwise_cons.1 hb).2⟩
    rcases List.mem_append.1 ((mrg_perm _ _).mem_iff.1 hz) with hz | hz
    · rcases List.mem_cons.1 hz with rfl | hz
      · omega
      · exact cmpRow_trans (by omega) ((List.pairwise_cons.1 ha).1 z hz)
    · exact (List.pairwise_cons.1 hb).1 z hz
  | case4 x a y b h ih =>
    have hxy : cmpRow x y ≤ 0 := by have := cmpRow_swap x y; omega
    rw [mrg_ge _ _ h, List.pairwise_cons]
    refine ⟨fun z hz => ?_, ih (List.pairwise_cons.1 ha).2 hb⟩
    rcases List.mem_append.1 ((mrg_perm _ _).mem_iff.1 hz) with hz | hz
    · exact (List.pairwise_cons.1 ha).1 z hz
    · rcases List.mem_cons.1 hz with rfl | hz
      · exact hxy
      · exact cmpRow_trans hxy ((List.pairwise_cons.1 hb).1 z hz)
theorem mrg_sort (l : List GRow) (k : Nat) : mrg (sortR (l.take k)) (sortR (l.drop k)) = sortR l := by
  refine sortR_unique ((mrg_perm _ _).trans ?_) ((mrg_sorted _ _ (sortR_pairwise _) (sortR_pairwise _)).imp (by intro a b h; have := cmpRow_swap a b; omega))
  exact ((sortR_perm _).append (sortR_perm _)).trans (by rw [List.take_append_drop])
theorem sortR_short {l : List GRow} (h : l.length < 2) : sortR l = l := by
  refine (sortR_unique (List.Perm.refl _) ?_).symm
  match l, h with
  | [], _ => exact List.Pairwise.nil
  | [x], _ => exact List.pairwise_singleton _ _
theorem mrg_length (a b : List GRow) : (mrg a b).length = a.length + b.length := by rw [(mrg_perm a b).length_eq, List.length_append]
end Go.Proofs.YtngigmpaabmngaaGreatDoor

namespace Go.Proofs.YtngigmpaabmngaaGreatDoor
open Go.RowKit Go.Lib

set_option maxHeartbeats 8000000 in
set_option maxRecDepth 100000 in
theorem refSort_all (n : Nat) : n ≤ 100000 → ∀ (v : Value) (l : List GRow) (w : World), l.length = n → Sl rowE w free v l → Calls Tryz.prog 92 #[v] w (RetOwn rowE w (sortR l)) := by
  induction n using Nat.strongRecOn with
  | ind n ih =>
    intro hn v l w hl hv
    obtain ⟨a, c, rfl⟩ := hv.shape
    rw [hl] at hv ⊢
    have HV := Lib.hid hv
    have HN := Lib.hid hl
    by_cases h2 : n < 2
    · have HS : Hid (sortR l = l) := Lib.hid (sortR_short (by omega))
      have g2 : (n : Int) < 2 := by omega
      clear hv hl ih
      go_enter Tryz.func92, Tryz.ntmps92
      go_wp2_with (at_builtin; refine wpList_join rfl (.const (.slice none 0 0)) (.tmp 11) 35 rfl rowE Tryz.underlying35 w.heap.size (.slice none 0 0) (.slice a n c) [] l rfl rfl (Own.nil _ _ _) (HV.out.mono (fun _ _ h => by simp [Value.ownBlock] at h)) (by have := HN.out; unfold maxLen; simp; omega) (by have := HN.out; show _ * 48 ≤ _; simp; omega) (Nat.le_refl _) n (by have := HN.out; simp; omega) ?_; intro a' c' w' hJ)
      go_ret
      exact ⟨_, rfl, by rw [HS.out]; simpa using hJ.own, hJ.below⟩
    · obtain ⟨k, hk⟩ : ∃ k, k = n / 2 := ⟨_, rfl⟩
      have hcap := hv.cap
      obtain ⟨b, o, rfl⟩ : ∃ b o, a = some ⟨b, o, none⟩ := by
        obtain ⟨b, o, cs, e, _⟩ := Sl.at hv (List.getElem?_eq_getElem (show 0 < l.length by omega))
        exact ⟨b, o, e⟩
      have CA : ∀ W, Below w.heap.size w W → Hid (Calls Tryz.prog 92 #[.slice (some ⟨b, o, none⟩) k c] W (RetOwn rowE W (sortR (l.take k)))) := fun W hW => ih k (by omega) (by omega) _ _ W (by rw [List.length_take]; omega) ((hv.below hW).takeS (by omega))
      have CB : ∀ W, Below w.heap.size w W → Hid (Calls Tryz.prog 92 #[.slice (some ⟨b, o + k * 2, none⟩) (n - k) (c - k)] W (RetOwn rowE W (sortR (l.drop k)))) := fun W hW => by
        have h := (hv.below hW).dropS (k := k) (by omega)
        rw [show k * rowE.size = k * 2 from rfl, Option.map_some, Addr.add_lit] at h
        exact ih (n - k) (by omega) (by omega) _ _ W (by rw [List.length_drop]; omega) h
      have HM : Hid (mrg (sortR (l.take k)) (sortR (l.drop k)) = sortR l) := Lib.hid (mrg_sort l k)
      have hA : (sortR (l.take k)).length = k := by rw [sortR_length, List.length_take]; omega
      have hB : (sortR (l.drop k)).length = n - k := by rw [sortR_length, List.length_drop]; omega
      generalize sortR (l.take k) = A at CA HM hA
      generalize sortR (l.drop k) = B at CB HM hB
      generalize sortR l = R at HM ⊢
      obtain ⟨m, hm⟩ : ∃ m, m = n - k := ⟨_, rfl⟩
      rw [← hm] at hB
      have HA := Lib.hid hA
      have HB := Lib.hid hB
      have g2 : ¬ (n : Int) < 2 := by omega
      have gk : (n : Int) / 2 = k := by omega
      have gk2 : Int.tdiv (n : Int) 2 = k := by rw [Int.tdiv_eq_ediv_of_nonneg (by omega)]; omega
      have gk3 : (n : Int) - k = m := by omega
      have gc1 : (k : Int) ≤ c := by omega
      have gc2 : (n : Int) ≤ c := by omega
      have gc3 : (k : Int) ≤ n := by omega
      have gc4 : (0 : Int) ≤ (k : Int) := by omega
      have gk0 : n / 2 = k := hk.symm
      have gn1 : k ≤ c := by omega
      have gw : IntKind.i64.wrap (k : Int) = k := IntWalk.i64_in _ (by omega)
      have gn2 : k ≤ n := by omega
      have gck : ¬ c = k := by omega
      have CA' := Lib.hid CA
      have CB' := Lib.hid CB
      have hbb : Below w.heap.size w w := .refl _ _
      have HMK : Hid (n = k + m) := by show _ = _; omega
      clear hv hl ih CA CB hA hB hk hm
      go_enter Tryz.func92, Tryz.ntmps92
      go_wp2_with fail
      go_region_held3 (fun W => Below w.heap.size w W)
        (first | with_reducible assumption | with_reducible exact Below.drew (by assumption) | with_reducible exact below_keep (by assumption) (by assumption))
        (first
          | (go_at_call 92; (with_reducible refine (CA'.out _ (by first | assumption | exact Below.drew (by assumption))).out.mono ?_); rintro e' wA ⟨va, rfl, hOa, hbA⟩; have hSa := hOa.sl)
          | (go_at_call 92; (with_reducible refine (CB'.out _ (by first | assumption | exact Below.drew (by assumption))).out.mono ?_); rintro e' wB ⟨vb, rfl, hOb, hbB⟩; have hSb := hOb.sl; have hSa' := hSa.below hbB))
      all_goals (
        have HBB : Hid (Below w.heap.size w wB) := Lib.hid (by assumption)
        obtain ⟨aa, ca, rfl⟩ := hOa.shape
        obtain ⟨ab, cb, rfl⟩ := hOb.shape
        rw [HA.out] at hSa' ⊢
        rw [HB.out] at hSb ⊢
        have HSA := Lib.hid hSa'
        have HSB := Lib.hid hSb
        clear hOa hbA hSa hOb hbB hSb hSa' CA' CB' hbb gk gk0 gk2 gk3 gc1 gc2 gc3 gc4 gn1 gn2 gw gck g2 hcap
        go_wp2_with fail
        go_loopw [5, 6, 7] (fun s5 s6 s7 wr => ∃ (i j : Nat) (acc : List GRow), i ≤ k ∧ j ≤ m ∧ s6 = .int .i64 i ∧ s7 = .int .i64 j ∧ Own rowE wr wB.heap.size s5 acc ∧ Hid (acc ++ mrg (A.drop i) (B.drop j) = R) ∧ Hid (Below wB.heap.size wB wr)) (fun _ s6 s7 _ => (k + m) - ((intOf s6).toNat + (intOf s7).toNat))
        case atStart => exact ⟨0, 0, [], Nat.zero_le _, Nat.zero_le _, rfl, rfl, Own.nil _ _ _, Lib.hid (by rw [List.drop_zero, List.drop_zero, List.nil_append]; exact HM.out), Lib.hid (.refl _ _)⟩
        case round =>
          obtain ⟨i, j, acc, hi, hj, rfl, rfl, hO, HACC, HB2⟩ := hrel
          obtain ⟨wo, rfl⟩ : ∃ wo : World, wo = wr := ⟨_, rfl⟩
          obtain ⟨ao, co, rfl⟩ := hO.shape
          have hal : acc.length + (k - i) + (m - j) = n := by
            have h1 := congrArg List.length HACC.out
            have h2 := congrArg List.length HM.out
            rw [List.length_append, mrg_length, List.length_drop, List.length_drop, HA.out, HB.out] at h1
            rw [mrg_length, HA.out, HB.out, ← h1] at h2
            have := HMK.out
            omega
          have hij1 : i ≤ 100000 := by have := HMK.out; omega
          have hij2 : j ≤ 100000 := by have := HMK.out; omega
          have HO := Lib.hid hO
          clear hO
          by_cases hik : i < k
          · obtain ⟨x, hx⟩ := lget_some A i (by rw [HA.out]; exact hik)
            obtain ⟨bx, ox, a1, n1, e1, m1, rfl, hv1, hu1, p0, p1⟩ := rows_at HSA.out hx
            replace p0 := cell_keep HB2.out p0
            replace p1 := cell_keep HB2.out p1
            have HV1 := Lib.hid hv1
            have HU1 := Lib.hid hu1
            have HX := Lib.hid hx
            clear hv1 hu1
            obtain ⟨T, hT⟩ : ∃ T : Bool → Prop, T = fun q => if q = true then (acc ++ [x]) ++ mrg (A.drop (i + 1)) (B.drop j) = R else ∃ y, B[j]? = some y ∧ (acc ++ [y]) ++ mrg (A.drop i) (B.drop (j + 1)) = R := ⟨_, rfl⟩
            have HT := Lib.hid hT
            clear hT
            go_upto_region 7 with fail
            go_cut [56] from 35 to 56 (fun s56 wx => ∃ q : Bool, s56 = .bool q ∧ Hid (T q) ∧ Hid (Below wo.heap.size wo wx))
            case first =>
              by_cases hjm : j < m
              · obtain ⟨y, hy⟩ := lget_some B j (by rw [HB.out]; exact hjm)
                obtain ⟨yb, oy, a2, n2, e2, m2, rfl, hv2, hu2, q0, q1⟩ := rows_at (HSB.out.below HB2.out) hy
                have hv1 := HV1.out.below HB2.out
                have hu1 := HU1.out.below HB2.out
                have HLS := fun W (h : Below wo.heap.size wo W) => Lib.hid (less_any y x _ _ _ _ W (hv2.below h) (hu2.below h) (hv1.below h) (hu1.below h))
                have HQ : Hid (T (!decide (cmpRow y x < 0))) := by
                  show T _
                  rw [HT.out]
                  by_cases hc : cmpRow y x < 0
                  · simp only [hc, decide_true, Bool.not_true, Bool.false_eq_true, if_false]
                    refine ⟨y, hy, ?_⟩
                    rw [← HACC.out, drop_get hx, drop_get hy, mrg_lt _ _ hc, List.append_assoc]
                    rfl
                  · simp only [hc, decide_false, Bool.not_false, if_true]
                    rw [← HACC.out, drop_get hx, drop_get hy, mrg_ge _ _ hc, List.append_assoc]
                    rfl
                obtain ⟨z, hz⟩ : ∃ z, z = decide (cmpRow y x < 0) := ⟨_, rfl⟩
                rw [← hz] at HLS HQ
                have hne : ((j : Int) == (m : Int)) = false := by rw [beq_eq_false_iff_ne]; omega
                have hbo : Below wo.heap.size wo wo := .refl _ _
                have hik' : (i : Int) < k := by omega
                have hjm' : (j : Int) < m := by omega
                clear hx hy hv1 hu1 hv2 hu2 hz
                go_region_held3 (fun W => Below wo.heap.size wo W ∧ W.cell? ⟨bx, ox + i * 2, none⟩ = some (.slice a1 x.vals.length n1) ∧ W.cell? ⟨bx, ox + i * 2 + 1, none⟩ = some (.slice e1 x.lin.length m1) ∧ W.cell? ⟨yb, oy + j * 2, none⟩ = some (.slice a2 y.vals.length n2) ∧ W.cell? ⟨yb, oy + j * 2 + 1, none⟩ = some (.slice e2 y.lin.length m2))
                  ((go_split_ands; refine ⟨?_, ?_, ?_, ?_, ?_⟩ <;> (first | with_reducible assumption | with_reducible exact Below.drew (by assumption) | with_reducible exact cell_drew (by assumption) | with_reducible exact cell_keep (by assumption) (by assumption) | with_reducible exact below_keep (by assumption) (by assumption))))
                  (first | (go_at_call 128; go_split_ands; refine (HLS _ (by first | assumption | exact Below.drew (by assumption))).out.mono ?_; rintro e' wS ⟨rfl, hbS⟩))
                all_goals (
                  go_split_ands
                  go_wp2_with fail
                  go_meet
                  exact ⟨_, rfl, HQ, Lib.hid (by assumption)⟩)
              · have hjm' : j = m := by omega
                subst hjm'
                have HQ : Hid (T true) := by
                  show T _
                  rw [HT.out]
                  show (if true = true then _ else _)
                  rw [if_pos rfl, ← HACC.out, List.drop_of_length_le (l := B) (by rw [HB.out]; exact Nat.le_refl _), mrg_nil, mrg_nil, drop_get hx, List.append_assoc]
                  rfl
                go_region
                all_goals (
                  go_wp2_with fail
                  go_meet
                  first
                    | exact ⟨_, rfl, HQ, Lib.hid (.refl _ _)⟩
                    | exact ⟨_, rfl, HQ, Lib.hid (Below.refl _ _).drew⟩
                    | exact ⟨_, rfl, HQ, Lib.hid (below_drewN (Below.refl _ _) _)⟩)
            case rest =>
              obtain ⟨q, rfl, HTQ, HBW⟩ := hcut
              have HOX := Lib.hid (HO.out.below HBW.out)
              have HBX : Hid (Below wB.heap.size wB wc) := Lib.hid (HB2.out.trans (HBW.out.mono HB2.out.size))
              cases q
              · have hT := HTQ.out
                rw [HT.out] at hT
                replace hT : ∃ y, B[j]? = some y ∧ (acc ++ [y]) ++ mrg (A.drop i) (B.drop (j + 1)) = R := hT
                obtain ⟨y, hy, hnx⟩ := hT
                have HNX := Lib.hid hnx
                clear hnx hx p0 p1 HV1 HU1 HX HTQ HT
                obtain ⟨yb, oy, a2, n2, e2, m2, rfl, hv2, hu2, q0, q1⟩ := rows_at HSB.out hy
                replace q0 := cell_keep HBX.out q0
                replace q1 := cell_keep HBX.out q1
                have hjm : (j : Int) < m := by have := (List.getElem?_eq_some_iff.1 hy).1; rw [HB.out] at this; omega
                have hjm2 : j < m := by omega
                have HIS : Hid (Els rowE wc (fun jj => some jj = (Value.slice ao acc.length co).ownBlock) [y] [.slice a2 y.vals.length n2, .slice e2 y.lin.length m2]) := Lib.hid (Els.one ⟨_, _, rfl, ((hv2.old (Nat.le_refl _)).below HBX.out).mono (fun jj _ hh => (HOX.out.lt jj hh.symm).1), ((hu2.old (Nat.le_refl _)).below HBX.out).mono (fun jj _ hh => (HOX.out.lt jj hh.symm).1)⟩)
                clear hv2 hu2 hy
                go_wp2_with (at_builtin; refine wpList_push rfl (.tmp 66) (.tmp 71) 35 rfl rowE Tryz.underlying35 wB.heap.size (.slice ao acc.length co) acc rfl HOX.out [y] #[.slice a2 y.vals.length n2, .slice e2 y.lin.length m2] HIS.out 1 1 rfl rfl (by decide) (by unfold maxLen; omega) (by show _ * 48 ≤ _; omega) HBX.out.size ?_; intro g cap w5 hP hPa)
                go_roundw
                case rel => exact ⟨i, j + 1, acc ++ [y], by omega, by omega, rfl, by go_num, hP.own' (by simp), HNX, Lib.hid (HBX.out.trans hP.below)⟩
                case measure => simp [intOf]; omega
              · have hT := HTQ.out
                rw [HT.out] at hT
                replace hT : (acc ++ [x]) ++ mrg (A.drop (i + 1)) (B.drop j) = R := hT
                have HNX := Lib.hid hT
                replace p0 := cell_keep HBW.out p0
                replace p1 := cell_keep HBW.out p1
                have hik' : (i : Int) < k := by omega
                have HIS : Hid (Els rowE wc (fun jj => some jj = (Value.slice ao acc.length co).ownBlock) [x] [.slice a1 x.vals.length n1, .slice e1 x.lin.length m1]) := Lib.hid (Els.one ⟨_, _, rfl, ((HV1.out.old (Nat.le_refl _)).below HBX.out).mono (fun jj _ hh => (HOX.out.lt jj hh.symm).1), ((HU1.out.old (Nat.le_refl _)).below HBX.out).mono (fun jj _ hh => (HOX.out.lt jj hh.symm).1)⟩)
                clear hT hx HX HTQ HT
                go_wp2_with (at_builtin; refine wpList_push rfl (.tmp 57) (.tmp 62) 35 rfl rowE Tryz.underlying35 wB.heap.size (.slice ao acc.length co) acc rfl HOX.out [x] #[.slice a1 x.vals.length n1, .slice e1 x.lin.length m1] HIS.out 1 1 rfl rfl (by decide) (by unfold maxLen; omega) (by show _ * 48 ≤ _; omega) HBX.out.size ?_; intro g cap w5 hP hPa)
                go_roundw
                case rel => exact ⟨i + 1, j, acc ++ [x], by omega, hj, by go_num, rfl, hP.own' (by simp), HNX, Lib.hid (HBX.out.trans hP.below)⟩
                case measure => simp [intOf]; omega
          · have hik0 : i = k := by omega
            subst hik0
            by_cases hjm0 : j < m
            · obtain ⟨y, hy⟩ := lget_some B j (by rw [HB.out]; exact hjm0)
              have HNX : Hid ((acc ++ [y]) ++ mrg (A.drop i) (B.drop (j + 1)) = R) := by
                show _ = _
                rw [← HACC.out, List.drop_of_length_le (l := A) (by rw [HA.out]; exact Nat.le_refl _), mrg_nil', mrg_nil', drop_get hy, List.append_assoc]
                rfl
              have hne : ((j : Int) == (m : Int)) = false := by rw [beq_eq_false_iff_ne]; omega
              have hjm1 : (j : Int) < m := by omega
              go_upto_region 7 with fail
              go_cut [56] from 35 to 56 (fun s56 wx => s56 = .bool false ∧ Hid (Below wo.heap.size wo wx))
              case first =>
                go_region
                all_goals (
                  go_wp2_with fail
                  go_meet
                  first
                    | exact ⟨rfl, Lib.hid (.refl _ _)⟩
                    | exact ⟨rfl, Lib.hid (Below.refl _ _).drew⟩
                    | exact ⟨rfl, Lib.hid (below_drewN (Below.refl _ _) _)⟩)
              case rest =>
                obtain ⟨rfl, HBW⟩ := hcut
                have HOX := Lib.hid (HO.out.below HBW.out)
                have HBX : Hid (Below wB.heap.size wB wc) := Lib.hid (HB2.out.trans (HBW.out.mono HB2.out.size))
                obtain ⟨yb, oy, a2, n2, e2, m2, rfl, hv2, hu2, q0, q1⟩ := rows_at HSB.out hy
                replace q0 := cell_keep HBX.out q0
                replace q1 := cell_keep HBX.out q1
                have hjm : (j : Int) < m := by have := (List.getElem?_eq_some_iff.1 hy).1; rw [HB.out] at this; omega
                have hjm2 : j < m := by omega
                have HIS : Hid (Els rowE wc (fun jj => some jj = (Value.slice ao acc.length co).ownBlock) [y] [.slice a2 y.vals.length n2, .slice e2 y.lin.length m2]) := Lib.hid (Els.one ⟨_, _, rfl, ((hv2.old (Nat.le_refl _)).below HBX.out).mono (fun jj _ hh => (HOX.out.lt jj hh.symm).1), ((hu2.old (Nat.le_refl _)).below HBX.out).mono (fun jj _ hh => (HOX.out.lt jj hh.symm).1)⟩)
                clear hv2 hu2 hy
                go_wp2_with (at_builtin; refine wpList_push rfl (.tmp 66) (.tmp 71) 35 rfl rowE Tryz.underlying35 wB.heap.size (.slice ao acc.length co) acc rfl HOX.out [y] #[.slice a2 y.vals.length n2, .slice e2 y.lin.length m2] HIS.out 1 1 rfl rfl (by decide) (by unfold maxLen; omega) (by show _ * 48 ≤ _; omega) HBX.out.size ?_; intro g cap w5 hP hPa)
                go_roundw
                case rel => exact ⟨i, j + 1, acc ++ [y], by omega, by omega, rfl, by go_num, hP.own' (by simp), HNX, Lib.hid (HBX.out.trans hP.below)⟩
                case measure => simp [intOf]; omega
            · have hjm1 : j = m := by omega
              subst hjm1
              have HE : Hid (acc = R) := by
                show _ = _
                rw [← HACC.out, List.drop_of_length_le (l := A) (by rw [HA.out]; exact Nat.le_refl _), List.drop_of_length_le (l := B) (by rw [HB.out]; exact Nat.le_refl _), mrg_nil', List.append_nil]
              go_wp2_with fail
              go_ret
              exact ⟨_, rfl, HE.out ▸ HO.out.mono HBB.out.size, HBB.out.trans (HB2.out.mono HBB.out.size)⟩)
end Go.Proofs.YtngigmpaabmngaaGreatDoor

namespace Go.Proofs.YtngigmpaabmngaaGreatDoor
open Go.RowKit Go.Lib

set_option maxHeartbeats 1000000 in
theorem rincl_any (lo hi t : Int) (w : World) : Calls Tryz.prog 91 #[.agg #[.int .i64 lo, .int .i64 hi], .int .i64 t] w fun e w' => e = .returned (.bool (pincl lo hi t)) ∧ Below w.heap.size w w' := by
  have HR : Hid (pincl lo hi t = (pvalid lo hi && (decide (lo ≤ t) && decide (t < hi)))) := Lib.hid rfl
  have HV := fun W => Lib.hid (rprd_valid lo hi W)
  generalize pvalid lo hi = q at HR HV
  generalize pincl lo hi t = r at HR ⊢
  have hg := World.alloc_heap_new w (.cells #[.int .i64 lo, .int .i64 hi] 50)
  go_enter Tryz.func91, Tryz.ntmps91
  go_wp2_with fail
  refine (HV _).out.mono ?_
  rintro _ w2 ⟨rfl, hb⟩
  have hk := box_kept hg hb
  obtain ⟨d0, d1, _, _⟩ := box_two hk
  have HB := Lib.hid (below_alloc2' hb)
  clear hb hk hg
  cases q
  · go_wp2_with fail
    go_ret
    exact ⟨ret_bool (by rw [HR.out]; rfl), HB.out⟩
  · by_cases h1 : lo ≤ t
    · by_cases h2 : t < hi
      · go_wp2_with fail
        go_ret
        exact ⟨ret_bool (by rw [HR.out]; simp; omega), HB.out⟩
      · go_wp2_with fail
        go_ret
        exact ⟨ret_bool (by rw [HR.out]; simp; omega), HB.out⟩
    · go_wp2_with fail
      go_ret
      exact ⟨ret_bool (by rw [HR.out]; simp; omega), HB.out⟩
set_option maxHeartbeats 4000000 in
set_option maxRecDepth 100000 in
theorem rtimeslice_any (v : Value) (l : List Tup) (t : Int) (w : World) (hv : Tups w v l) (hl : l.length ≤ 100000) (hs : ∀ x ∈ l, x.vals.length ≤ 1000 ∧ x.lin.length ≤ 1000) :
    Calls Tryz.prog 48 #[v, .int .i64 t] w (RetOwn rowE w (sortR (atDay l t))) := by
  obtain ⟨a, c, rfl⟩ := hv.shape
  have h63 := hv.1
  have HV := Lib.hid hv
  have HS := Lib.hid (atDay_small hs t)
  obtain ⟨n, hn⟩ : ∃ n, n = l.length := ⟨_, rfl⟩
  have HN := Lib.hid hn
  rw [← hn] at HV h63 hl ⊢
  clear hv hn hs
  go_enter Tryz.func48, Tryz.ntmps48
  go_wp2_with fail
  go_loopw [10, 5] (fun i o wr => ∃ k : Nat, k ≤ n ∧ i = .int .i64 k ∧ Own rowE wr w.heap.size o (atDay (l.take k) t) ∧ Hid (Below w.heap.size w wr)) (fun i _ _ => n - (RowKit.intOf i).toNat)
  case atStart => exact ⟨0, Nat.zero_le _, rfl, Own.nil _ _ _, Lib.hid (.refl _ _)⟩
  case round =>
    obtain ⟨k, hk, rfl, hO, HB⟩ := hrel
    obtain ⟨wo, rfl⟩ : ∃ wo : World, wo = wr := ⟨_, rfl⟩
    by_cases hlt : k < n
    · obtain ⟨x, hx⟩ := lget_some l k (by rw [← HN.out]; exact hlt)
      obtain ⟨b, o, a1, n1, e1, m1, rfl, hvv, hll, p0, p1, p2, p3⟩ := tups_at HV.out hx
      replace p0 := cell_keep HB.out p0
      replace p1 := cell_keep HB.out p1
      replace p2 := cell_keep HB.out p2
      replace p3 := cell_keep HB.out p3
      have HT : Hid (atDay (l.take (k + 1)) t = atDay (l.take k) t ++ if pincl x.lo x.hi t = true then [⟨x.vals, x.lin⟩] else []) := by show _ = _; rw [take_get hx, atDay_snoc]
      obtain ⟨lk, hlke⟩ : ∃ lk, lk = atDay (l.take k) t := ⟨_, rfl⟩
      have hlk : lk.length ≤ 100000 := by rw [hlke]; exact Nat.le_trans (atDay_len _ _) (by rw [List.length_take]; omega)
      rw [← hlke] at hO HT
      obtain ⟨ao, co, rfl⟩ := hO.shape
      obtain ⟨xv, xlo, xhi, xl⟩ := x
      dsimp only at p0 p1 p2 p3 hvv hll HT
      obtain ⟨q, hq⟩ : ∃ q, q = pincl xlo xhi t := ⟨_, rfl⟩
      have HI := fun W => Lib.hid (rincl_any xlo xhi t W)
      rw [← hq] at HT HI
      have HVV := Lib.hid hvv
      have HLL := Lib.hid hll
      have hg := World.alloc_heap_new wo (.cells #[.slice a1 xv.length n1, .int .i64 xlo, .int .i64 xhi, .slice e1 xl.length m1] 52)
      have HB1 : Hid (Below w.heap.size w (wo.alloc (.cells #[.slice a1 xv.length n1, .int .i64 xlo, .int .i64 xhi, .slice e1 xl.length m1] 52))) := Lib.hid (below_alloc_keep HB.out)
      have HO1 := Lib.hid (hO.below (below_alloc wo (.cells #[.slice a1 xv.length n1, .int .i64 xlo, .int .i64 xhi, .slice e1 xl.length m1] 52)))
      have HG := Lib.hid hg
      clear hx hvv hll hO hlke hq hg
      go_wp2_with fail
      refine (HI _).out.mono ?_
      rintro _ w3 ⟨rfl, hb3⟩
      obtain ⟨⟨d0, d1, d2, d3⟩, _, _, _, _⟩ := box_four (box_kept HG.out hb3)
      have HB3 : Hid (Below w.heap.size w w3) := Lib.hid (below_keep HB1.out hb3)
      have HO3 := Lib.hid (HO1.out.below hb3)
      clear hb3 HG HB1 HO1 HI
      cases q
      · have HT' : Hid (atDay (l.take (k + 1)) t = lk) := by show _ = _; rw [HT.out, if_neg (by decide), List.append_nil]
        go_wp2_with fail
        go_roundw
        case rel => exact ⟨k + 1, by omega, by go_num, by rw [HT'.out]; exact HO3.out, HB3⟩
        case measure => simp [RowKit.intOf]; omega
      · have HT' : Hid (atDay (l.take (k + 1)) t = lk ++ [⟨xv, xl⟩]) := by show _ = _; rw [HT.out, if_pos rfl]
        have HIS : Hid (Els rowE w3 (fun j => some j = (Value.slice ao lk.length co).ownBlock) [⟨xv, xl⟩] [.slice a1 xv.length n1, .slice e1 xl.length m1]) := Lib.hid (Els.one ⟨_, _, rfl, ((HVV.out.old (Nat.le_refl _)).below HB3.out).mono (fun j _ hj => (HO3.out.lt j hj.symm).1), ((HLL.out.old (Nat.le_refl _)).below HB3.out).mono (fun j _ hj => (HO3.out.lt j hj.symm).1)⟩)
        go_wp2_with (at_builtin; refine wpList_push rfl (.tmp 18) (.tmp 24) 35 rfl rowE Tryz.underlying35 w.heap.size (.slice ao lk.length co) lk rfl HO3.out [⟨xv, xl⟩] #[.slice a1 xv.length n1, .slice e1 xl.length m1] HIS.out 1 1 rfl rfl (by decide) (by unfold maxLen; omega) (by show _ * 48 ≤ _; omega) HB3.out.size ?_; intro g cap w5 hP hPa)
        go_roundw
        case rel => exact ⟨k + 1, by omega, by go_num, by rw [HT'.out]; exact hP.own' (by simp), Lib.hid (HB3.out.trans hP.below)⟩
        case measure => simp [RowKit.intOf]; omega
    · have hkk : l.take k = l := List.take_of_length_le (by rw [← HN.out]; omega)
      rw [hkk] at hO
      obtain ⟨ao, co, rfl⟩ := hO.shape
      have HSR := Lib.hid (refSort_all _ (Nat.le_trans (atDay_len _ _) (by rw [← HN.out]; exact hl)) _ (atDay l t) wo rfl hO.sl)
      clear hO hkk
      go_wp2_with fail
      refine HSR.out.mono ?_
      rintro _ w2 ⟨vo, rfl, hO2, hb2⟩
      obtain ⟨ao2, co2, rfl⟩ := hO2.shape
      have HO2 := Lib.hid (hO2.mono HB.out.size)
      have HB2 := Lib.hid (below_keep HB.out hb2)
      clear hO2 hb2
      go_wp2_with fail
      go_ret
      exact ⟨_, rfl, HO2.out, HB2.out⟩
end Go.Proofs.YtngigmpaabmngaaGreatDoor

namespace Go.Proofs.YtngigmpaabmngaaGreatDoor
open Go.RowKit Go.Lib

def rowsTup (lo hi : Int) (l : List GRow) : List Tup := l.map fun r => ⟨r.vals, lo, hi, r.lin⟩
def fromR (lo hi : Int) (l : List GRow) : List Tup := if pvalid lo hi = true then rowsTup lo hi l else []
theorem rowsTup_snoc (lo hi : Int) (l : List GRow) (r : GRow) : rowsTup lo hi (l ++ [r]) = rowsTup lo hi l ++ [⟨r.vals, lo, hi, r.lin⟩] := by unfold rowsTup; rw [List.map_append]; rfl
theorem rowsTup_length (lo hi : Int) (l : List GRow) : (rowsTup lo hi l).length = l.length := by unfold rowsTup; rw [List.length_map]
end Go.Proofs.YtngigmpaabmngaaGreatDoor

namespace Go.Proofs.YtngigmpaabmngaaGreatDoor
open Go.RowKit Go.Lib

set_option maxHeartbeats 4000000 in
set_option maxRecDepth 100000 in
theorem rfromRows_any (v : Value) (l : List GRow) (lo hi : Int) (w : World) (hv : Sl rowE w free v l) (hl : l.length ≤ 100000) (hs : ∀ x ∈ l, x.vals.length ≤ 1000 ∧ x.lin.length ≤ 1000) :
    Calls Tryz.prog 54 #[v, .agg #[.int .i64 lo, .int .i64 hi]] w (RetOwn tupE w (fromR lo hi l)) := by
  obtain ⟨a, c, rfl⟩ := hv.shape
  have hb0 := below_alloc w (.cells #[.int .i64 lo, .int .i64 hi] 50)
  have hbx := World.alloc_heap_new w (.cells #[.int .i64 lo, .int .i64 hi] 50)
  have h63 := hv.1
  have HV := Lib.hid hv
  have HS := Lib.hid hs
  obtain ⟨n, hn⟩ : ∃ n, n = l.length := ⟨_, rfl⟩
  have HN := Lib.hid hn
  rw [← hn] at HV h63 hl ⊢
  have HPV := Lib.hid (rprd_valid lo hi (w.alloc (.cells #[.int .i64 lo, .int .i64 hi] 50)))
  obtain ⟨q, hq⟩ : ∃ q, q = pvalid lo hi := ⟨_, rfl⟩
  rw [← hq] at HPV
  have HQ := Lib.hid hq
  have HB0 := Lib.hid hb0
  have HBX := Lib.hid hbx
  clear hv hn hs hq hb0 hbx
  go_enter Tryz.func54, Tryz.ntmps54
  go_wp2_with fail
  refine HPV.out.mono ?_
  rintro _ w1 ⟨rfl, hb1⟩
  have HB1 := Lib.hid (HB0.out.trans (hb1.mono HB0.out.size))
  have HBX1 := Lib.hid (box_kept HBX.out hb1)
  clear hb1 HPV HBX HB0
  cases q
  · have HE : Hid (fromR lo hi l = []) := by show _ = _; unfold fromR; rw [← HQ.out]; rfl
    go_wp2_with fail
    go_ret
    exact ⟨_, rfl, by rw [HE.out]; exact Own.nil _ _ _, HB1.out⟩
  · have HE : Hid (fromR lo hi l = rowsTup lo hi l) := by show _ = _; unfold fromR; rw [← HQ.out]; rfl
    go_wp2_with fail
    go_loopw [13, 5] (fun i o wr => ∃ k : Nat, k ≤ n ∧ i = .int .i64 k ∧ Own tupE wr w1.heap.size o (rowsTup lo hi (l.take k)) ∧ Hid (Below w1.heap.size w1 wr)) (fun i _ _ => n - (RowKit.intOf i).toNat)
    case atStart => exact ⟨0, Nat.zero_le _, rfl, Own.nil _ _ _, Lib.hid (.refl _ _)⟩
    case round =>
      obtain ⟨k, hk, rfl, hO, HB⟩ := hrel
      obtain ⟨wo, rfl⟩ : ∃ wo : World, wo = wr := ⟨_, rfl⟩
      obtain ⟨acc, hacc⟩ : ∃ acc, acc = rowsTup lo hi (l.take k) := ⟨_, rfl⟩
      have hal : acc.length ≤ 100000 := by rw [hacc, rowsTup_length, List.length_take]; omega
      rw [← hacc] at hO
      obtain ⟨ao, co, rfl⟩ := hO.shape
      have HACC := Lib.hid hacc
      by_cases hlt : k < n
      · obtain ⟨x, hx⟩ := lget_some l k (by rw [← HN.out]; exact hlt)
        have HBW := Lib.hid (HB1.out.trans (HB.out.mono HB1.out.size))
        obtain ⟨b, o, a1, n1, e1, m1, rfl, hvv2, hll2, p0, p1⟩ := rows_at (HV.out.old (Nat.le_refl _)) hx
        replace p0 := cell_keep HBW.out p0
        replace p1 := cell_keep HBW.out p1
        have hVw := True.intro
        have hvv := True.intro
        have hll := True.intro
        have HT : Hid (rowsTup lo hi (l.take (k + 1)) = acc ++ [⟨x.vals, lo, hi, x.lin⟩]) := by show _ = _; rw [take_get hx, rowsTup_snoc, hacc]
        have hxs := HS.out x (List.mem_of_getElem? hx)
        obtain ⟨xv, xl⟩ := x
        dsimp only at p0 p1 hvv2 hll2 HT hxs
        have hba := below_alloc wo (.cells #[.slice a1 xv.length n1, .slice e1 xl.length m1] 39)
        have HOA := Lib.hid (hO.below hba)
        have HBA := Lib.hid (below_keep HBW.out hba)
        have HBA1 := Lib.hid (below_keep HB.out hba)
        obtain ⟨d0, d1, _, _⟩ := box_two (box_kept (box_kept HBX1.out HB.out) hba)
        obtain ⟨r0, r1, _, _⟩ := box_two (World.alloc_heap_new wo (.cells #[.slice a1 xv.length n1, .slice e1 xl.length m1] 39))
        have HIS : Hid (Els tupE (wo.alloc (.cells #[.slice a1 xv.length n1, .slice e1 xl.length m1] 39)) (fun j => some j = (Value.slice ao acc.length co).ownBlock) [⟨xv, lo, hi, xl⟩] [.slice a1 xv.length n1, .int .i64 lo, .int .i64 hi, .slice e1 xl.length m1]) := Lib.hid (Els.one ⟨_, _, rfl, (hvv2.below HBA.out).mono (fun j _ hj => by have := (hO.lt j hj.symm).1; have := HB1.out.size; omega), (hll2.below HBA.out).mono (fun j _ hj => by have := (hO.lt j hj.symm).1; have := HB1.out.size; omega)⟩)
        clear hx hvv hll hO hacc hVw hba hxs HB HBW hvv2 hll2
        go_wp2_with (at_builtin; refine wpList_push rfl (.tmp 17) (.tmp 24) 24 rfl tupE Tryz.underlying24 w1.heap.size (.slice ao acc.length co) acc rfl HOA.out [⟨xv, lo, hi, xl⟩] #[.slice a1 xv.length n1, .int .i64 lo, .int .i64 hi, .slice e1 xl.length m1] HIS.out 1 1 rfl (congrArg (fun k => Value.slice (some ⟨k, 0, none⟩) 1 1) (World.size_alloc _ _).symm) (by decide) (by unfold maxLen; omega) (by show _ * 64 ≤ _; omega) HBA1.out.size ?_; intro g cap w5 hP hPa)
        go_roundw
        case rel => exact ⟨k + 1, by omega, by go_num, by rw [HT.out]; exact hP.own' (by simp), Lib.hid (HBA1.out.trans hP.below)⟩
        case measure => simp [RowKit.intOf]; omega
      · have hkk : l.take k = l := List.take_of_length_le (by rw [← HN.out]; omega)
        have hacc' : acc = fromR lo hi l := by rw [hacc, hkk, HE.out]
        have HAE := Lib.hid hacc'
        have HO := Lib.hid hO
        have HBW := Lib.hid (HB1.out.trans (HB.out.mono HB1.out.size))
        clear hacc hacc' hO hkk HB
        go_wp2_with fail
        go_ret
        exact ⟨_, rfl, HAE.out ▸ HO.out.mono HB1.out.size, HBW.out⟩
end Go.Proofs.YtngigmpaabmngaaGreatDoor

namespace Go.Proofs.YtngigmpaabmngaaGreatDoor
open Go.RowKit Go.Lib

def multL (l : List GRow) (vs : List GVal) : Nat := l.countP fun r => decide (cmpRows r.vals vs = 0)
theorem multL_snoc {l : List GRow} {k : Nat} {x : GRow} (hx : l[k]? = some x) (vs : List GVal) : multL (l.take (k + 1)) vs = multL (l.take k) vs + if cmpRows x.vals vs = 0 then 1 else 0 := by
  unfold multL
  rw [take_get hx, List.countP_append, List.countP_singleton]
  congr 1
  by_cases h : cmpRows x.vals vs = 0
  · rw [if_pos h, if_pos (by simpa using h)]
  · rw [if_neg h, if_neg (by simpa using h)]
theorem multL_le (l : List GRow) (vs : List GVal) : multL l vs ≤ l.length := List.countP_le_length
theorem multL_perm {l m : List GRow} (h : l.Perm m) (vs : List GVal) : multL l vs = multL m vs := h.countP_eq _
set_option maxHeartbeats 2000000 in
set_option maxRecDepth 100000 in
theorem rmult_any (v u : Value) (l : List GRow) (vs : List GVal) (w : World) (hv : Sl rowE w free v l) (hu : Sl valE w free u vs) (hl : l.length ≤ 1000000) :
    Calls Tryz.prog 129 #[v, u] w fun e w' => e = .returned (.int .i64 (multL l vs : Nat)) ∧ Below w.heap.size w w' := by
  obtain ⟨a, c, rfl⟩ := hv.shape
  obtain ⟨a2, c2, rfl⟩ := hu.shape
  have h63 := hv.1
  have h64 := hu.1
  have HV := Lib.hid hv
  have HU := Lib.hid hu
  obtain ⟨n, hn⟩ : ∃ n, n = l.length := ⟨_, rfl⟩
  have HN := Lib.hid hn
  obtain ⟨m, hm⟩ : ∃ m, m = vs.length := ⟨_, rfl⟩
  rw [← hn] at HV h63 hl ⊢
  rw [← hm] at HU h64 ⊢
  clear hv hu hn hm
  go_enter Tryz.func129, Tryz.ntmps129
  go_wp2_with fail
  go_loopw [6, 5] (fun i z wr => ∃ k : Nat, k ≤ n ∧ i = .int .i64 k ∧ z = .int .i64 (multL (l.take k) vs : Nat) ∧ Hid (Below w.heap.size w wr)) (fun i _ _ => n - (RowKit.intOf i).toNat)
  case atStart => exact ⟨0, Nat.zero_le _, rfl, rfl, Lib.hid (.refl _ _)⟩
  case round =>
    obtain ⟨k, hk, rfl, rfl, HB⟩ := hrel
    obtain ⟨wo, rfl⟩ : ∃ wo : World, wo = wr := ⟨_, rfl⟩
    by_cases hlt : k < n
    · obtain ⟨x, hx⟩ := lget_some l k (by rw [← HN.out]; exact hlt)
      obtain ⟨b, o, a1, n1, e1, m1, rfl, hvv, hll, p0, p1⟩ := rows_at (HV.out.below HB.out) hx
      have HT0 := multL_snoc hx vs
      have hcl : multL (l.take k) vs ≤ k := Nat.le_trans (multL_le _ _) (by rw [List.length_take]; omega)
      have HC := Lib.hid (cmpRows_any _ _ x.vals vs wo hvv.vals (HU.out.below HB.out).vals)
      obtain ⟨r, hr⟩ : ∃ r, r = cmpRows x.vals vs := ⟨_, rfl⟩
      rw [← hr] at HC HT0
      have HT := Lib.hid HT0
      obtain ⟨z, hz⟩ : ∃ z, z = multL (l.take k) vs := ⟨_, rfl⟩
      rw [← hz] at HT hcl ⊢
      obtain ⟨xv, xl⟩ := x
      dsimp only at p0 p1 HC HT
      clear hx hvv hll hr hz HT0
      by_cases h0 : r = 0
      · have hrb : (r == 0) = true := by simpa using h0
        have HT' : Hid (multL (l.take (k + 1)) vs = z + 1) := by show _ = _; rw [HT.out, if_pos h0]
        have hzw : IntKind.i64.wrap ((z : Int) + 1) = ((z + 1 : Nat) : Int) := by rw [IntWalk.i64_in _ (by omega)]; omega
        clear h0
        go_wp2_with fail
        refine HC.out.mono ?_
        rintro _ w2 ⟨rfl, hb⟩
        have HB2 := Lib.hid (below_keep HB.out hb)
        clear hb HC
        go_wp2_with fail
        go_roundw
        case rel => exact ⟨k + 1, by omega, by go_num, by rw [HT'.out]; first | rfl | (rw [hzw]) | simp, HB2⟩
        case measure => simp [RowKit.intOf]; omega
      · have hrb : (r == 0) = false := by simpa using h0
        have HT' : Hid (multL (l.take (k + 1)) vs = z) := by show _ = _; rw [HT.out, if_neg h0]; rfl
        go_wp2_with fail
        refine HC.out.mono ?_
        rintro _ w2 ⟨rfl, hb⟩
        have HB2 := Lib.hid (below_keep HB.out hb)
        clear hb HC
        go_wp2_with fail
        go_roundw
        case rel => exact ⟨k + 1, by omega, by go_num, by rw [HT'.out], HB2⟩
        case measure => simp [RowKit.intOf]; omega
    · have hkk : l.take k = l := List.take_of_length_le (by rw [← HN.out]; omega)
      rw [hkk]
      clear hkk
      go_wp2_with fail
      go_ret
      exact ⟨rfl, HB.out⟩
end Go.Proofs.YtngigmpaabmngaaGreatDoor

namespace Go.Proofs.YtngigmpaabmngaaGreatDoor
open Go.RowKit Go.Lib Go.Shelf

theorem ints_at {w : World} {G : Nat → Prop} {a : Option Addr} {n c k : Nat} {l : List Int} {x : Int} (h : Sl intE w G (.slice a n c) l) (hk : l[k]? = some x) : ∃ b o, a = some ⟨b, o, none⟩ ∧ w.cell? ⟨b, o + k, none⟩ = some (.int .i64 x) := by
  obtain ⟨b, o, cs, ha, rfl, hc⟩ := Sl.at h hk
  have h0 : w.cell? ⟨b, o + k * 1 + 0, none⟩ = some (.int .i64 x) := hc 0 _ rfl
  rw [Nat.mul_one, Nat.add_zero] at h0
  exact ⟨b, o, ha, h0⟩
/-- After j of both slices. -/
def accU (a b : List Int) : Nat → List Int
  | 0 => []
  | 1 => a.foldl ins []
  | _ => mergeL a b
theorem accU_length (a b : List Int) (j : Nat) : (accU a b j).length ≤ a.length + b.length := by
  match j with
  | 0 => simp [accU]
  | 1 => have := foldIns_length a []; simp [accU] at *; omega
  | j + 2 => exact mergeL_length a b

set_option maxHeartbeats 8000000 in
set_option maxRecDepth 100000 in
theorem merge_any (v u : Value) (a b : List Int) (w : World) (hv : Sl intE w free v a) (hu : Sl intE w free u b) (hs : a.length + b.length ≤ 1000000000) :
    Calls Tryz.prog 90 #[v, u] w (RetOwn intE w (mergeL a b)) := by
  obtain ⟨a1, c1, rfl⟩ := hv.shape
  obtain ⟨a2, c2, rfl⟩ := hu.shape
  have HA := Lib.hid hv
  have HB := Lib.hid hu
  obtain ⟨n1, hn1⟩ : ∃ n, n = a.length := ⟨_, rfl⟩
  obtain ⟨n2, hn2⟩ : ∃ n, n = b.length := ⟨_, rfl⟩
  have HN1 := Lib.hid hn1
  have HN2 := Lib.hid hn2
  rw [← hn1] at HA ⊢
  rw [← hn2] at HB ⊢
  clear hv hu hn1 hn2
  go_enter Tryz.func90, Tryz.ntmps90
  go_wp2_with fail
  go_loopw [14, 5] (fun i o wr => ∃ j : Nat, j ≤ 2 ∧ i = .int .i64 j ∧ Own intE wr w.heap.size o (accU a b j) ∧ Below w.heap.size w wr) (fun i _ _ => 2 - (intOf i).toNat)
  case atStart => exact ⟨0, Nat.zero_le _, rfl, Own.nil _ _ _, Below.refl _ _⟩
  case round =>
    obtain ⟨j, hj, rfl, hO, hB⟩ := hrel
    obtain ⟨wo, rfl⟩ : ∃ wo : World, wo = wr := ⟨_, rfl⟩
    obtain ⟨oa, oc, rfl⟩ := hO.shape
    by_cases hlt : j < 2
    · obtain ⟨a3, c3, n3, lx, hidx, hlx, hn3, hacc⟩ : ∃ (a3 : Option Addr) (c3 n3 : Nat) (lx : List Int), (∀ W, (Instr.index 162 (.agg #[.slice a1 n1 c1, .slice a2 n2 c2]) (.int .i64 (j : Int))).run Tryz.prog W = .ok (.slice a3 n3 c3) W) ∧ Sl intE w free (.slice a3 n3 c3) lx ∧ lx.length = n3 ∧ Hid (∀ q, ((lx.take q).foldl ins (accU a b j)).length ≤ a.length + b.length) ∧ lx.foldl ins (accU a b j) = accU a b (j + 1) ∧ n3 ≤ 1000000000 := by
        have hlen : ∀ (xs l : List Int) (q : Nat), ((xs.take q).foldl ins l).length ≤ l.length + xs.length := fun xs l q => Nat.le_trans (foldIns_length _ _) (by rw [List.length_take]; omega)
        rcases (by omega : j = 0 ∨ j = 1) with rfl | rfl
        · exact ⟨a1, c1, n1, a, fun W => by kernel_rfl, HA.out, HN1.out.symm, fun q => by have := hlen a [] q; simp [accU] at *; omega, rfl, by have := HN1.out; omega⟩
        · refine ⟨a2, c2, n2, b, fun W => by kernel_rfl, HB.out, HN2.out.symm, fun q => ?_, by simp [accU, mergeL], by have := HN2.out; omega⟩
          have := hlen b (accU a b 1) q
          have h2 := foldIns_length a []
          simp [accU] at *; omega
      obtain ⟨hacb, hacc, hn3b⟩ := hacc
      have HACC := Lib.hid hacc
      have HL3 := Lib.hid hn3
      have HLX := Lib.hid hlx
      clear hacc hn3 hlx
      have hjd : decide ((j : Int) < 2) = true := by simp; omega
      go_wp2_with fail
      go_loopw [19, 5] (fun i o wr => ∃ q : Nat, q ≤ n3 ∧ i = .int .i64 q ∧ Own intE wr w.heap.size o ((lx.take q).foldl ins (accU a b j)) ∧ Below w.heap.size w wr) (fun i _ _ => n3 - (intOf i).toNat)
      case atStart => exact ⟨0, Nat.zero_le _, rfl, hO, hB⟩
      case round =>
        obtain ⟨q, hq, rfl, hO2, hB2⟩ := hrel
        obtain ⟨wp, rfl⟩ : ∃ wp : World, wp = wr := ⟨_, rfl⟩
        have hml := hacb.out q
        obtain ⟨out, hout⟩ : ∃ out, out = (lx.take q).foldl ins (accU a b j) := ⟨_, rfl⟩
        have HOUT := Lib.hid hout
        rw [← hout] at hO2 hml
        obtain ⟨m, hm⟩ : ∃ m, m = out.length := ⟨_, rfl⟩
        obtain ⟨pa, pc, rfl⟩ := hO2.shape
        have HM := Lib.hid hm
        rw [← hm] at hO2 hml ⊢
        have hmx : m ≤ 1000000000 := by omega
        have hml1 : out.length ≤ m := Nat.le_of_eq HM.out.symm
        have hml2 : m ≤ out.length := Nat.le_of_eq HM.out
        clear hout hm hml
        by_cases hlt2 : q < n3
        · obtain ⟨x, hx⟩ := lget_some lx q (by rw [HL3.out]; exact hlt2)
          obtain ⟨b3, o3, e3, hat⟩ := ints_at HLX.out hx
          subst e3
          replace hat := cell_keep hB2 hat
          have HNEXT : Hid ((lx.take (q + 1)).foldl ins (accU a b j) = ins out x) := by show _ = _; rw [take_get hx, List.foldl_append, ← HOUT.out]; rfl
          clear hx
          go_wp2_with fail
          go_loop [10] (fun t => ∃ k : Nat, k ≤ m ∧ t = .int .i64 k ∧ Hid (∀ i y, i < k → out[i]? = some y → y < x)) (fun t => m - (intOf t).toNat)
          case atStart => exact ⟨0, Nat.zero_le _, rfl, fun i y h => absurd h (Nat.not_lt_zero i)⟩
          case round =>
            obtain ⟨k, hk, rfl, HK⟩ := hrel
            by_cases h3 : k < m
            · obtain ⟨y, hy⟩ := lget_some out k (by rw [← HM.out]; exact h3)
              obtain ⟨b4, o4, e4, hat4⟩ := ints_at hO2.sl hy
              subst e4
              have HY := Lib.hid hy
              have hkb : ((k : Int) == (m : Int)) = false := by rw [beq_eq_false_iff_ne]; omega
              have hkl : (k : Int) < (m : Int) := by omega
              by_cases h4 : y < x
              · clear hy
                go_wp2_with fail
                go_round
                case rel =>
                  refine ⟨k + 1, by omega, by go_num, fun i z hi hz => ?_⟩
                  rcases Nat.lt_or_ge i k with h | h
                  · exact HK.out i z h hz
                  · have : i = k := by omega
                    subst this
                    rw [HY.out] at hz; cases hz; exact h4
                case measure => simp [intOf]; omega
              · have hlead : lead x out = k := lead_eq x out k (by omega) HK.out (fun z hz => by rw [hy] at hz; cases hz; exact h4)
                by_cases h5 : y = x
                · have HINS : Hid ((lx.take (q + 1)).foldl ins (accU a b j) = out) := by show _ = _; rw [HNEXT.out, ins, hlead, if_pos (by rw [hy, h5])]
                  have h5b : (y != x) = false := by simp [h5]
                  have HY5 := Lib.hid h5
                  clear hy hlead h5
                  go_wp2_with fail
                  go_roundw
                  case rel => exact ⟨q + 1, by omega, by go_num, by rw [HINS.out]; exact hO2, hB2⟩
                  case measure => simp [intOf]; omega
                · have HINS : Hid ((lx.take (q + 1)).foldl ins (accU a b j) = out.take k ++ [x] ++ out.drop k) := by show _ = _; rw [HNEXT.out, ins, hlead, if_neg (by rw [hy]; simpa using h5)]
                  have h5b : (y != x) = true := by simpa using h5
                  clear hy hlead
                  have HTL : Hid (([] : List Int).length + (out.take k).length = k) := by show _ = _; simp; omega
                  have HDL : Hid ((out.take k ++ [x]).length + (out.drop k).length = m + 1) := by show _ = _; simp; omega
                  have hcap := hO2.sl.cap
                  have hki1 : (k : Int) ≤ (pc : Int) := by omega
                  have hki2 : (0 : Int) ≤ (k : Int) := by omega
                  have hki3 : (k : Int) ≤ (m : Int) := by omega
                  have hki4 : (m : Int) ≤ (pc : Int) := by omega
                  have HT : Hid (Sl intE wp (fun mm => wp.heap.size ≤ mm) (.slice (some ⟨b4, o4, none⟩) k pc) (out.take k)) := (hO2.sl.takeS hk).old (Nat.le_refl _)
                  have hck : ¬ pc = k := by omega
                  have HD : Hid (Sl intE wp (fun mm => wp.heap.size ≤ mm) (.slice (some ⟨b4, o4 + k, none⟩) (m - k) (pc - k)) (out.drop k)) := by
                    have h := hO2.sl.dropS hk
                    rw [show k * intE.size = k from Nat.mul_one k] at h
                    rw [Option.map_some, Addr.add_lit] at h
                    exact h.old (Nat.le_refl _)
                  go_wp2_with fail
                  go_region_held3 (fun W => Below wp.heap.size wp W)
                    ((first | exact (Below.refl _ _).drew | exact below_alloc_keep (by assumption) | exact Below.trans (by assumption) (Joined.below (by assumption)) | exact Below.trans (by assumption) (Pushed.below (by assumption))))
                    (first
                      | (refine step_join rfl (.const (.slice none 0 0)) (.tmp 51) 23 rfl intE Tryz.underlying23 wp.heap.size (.slice none 0 0) (.slice (some ⟨b4, o4, none⟩) k pc) [] (out.take k) rfl rfl (Own.nil _ _ _) ((HT.out.below (by assumption)).mono (fun _ _ h => by simp [Value.ownBlock] at h)) (by unfold maxLen; simp; omega) (by show _ * 8 ≤ _; simp; omega) (Below.size (by assumption)) k HTL.out ?_; intro x1 y1 w1 hJ1)
                      | (refine step_push rfl (.tmp 52) (.tmp 54) 23 rfl intE Tryz.underlying23 wp.heap.size (.slice x1 k y1) (out.take k) rfl hJ1.own [x] #[.int .i64 x] (Els.one rfl) 1 1 rfl rfl (by decide) (by unfold maxLen; simp; omega) (by show _ * 8 ≤ _; simp; omega) hJ1.below.size ?_; intro g cap w2 hP hPa)
                      | (refine step_push_at rfl (.tmp 52) (.tmp 54) 23 rfl intE Tryz.underlying23 wp.heap.size (.slice x1 k y1) (out.take k) rfl hJ1.own [x] [.int .i64 x] (Els.one rfl) ⟨wp.heap.size, 0, none⟩ 1 1 rfl rfl (fun jj uu hu => hJ1.kept.cell (by simp [Value.ownBlock]) (cells_new wp.drew _ _ jj uu hu)) (by decide) (by unfold maxLen; simp; omega) (by show _ * 8 ≤ _; simp; omega) (Below.size (by assumption)) ?_; intro g cap w2 hP)
                      | (refine step_join rfl (.tmp 55) (.tmp 58) 23 rfl intE Tryz.underlying23 wp.heap.size (.slice (some ⟨g, 0, none⟩) ((out.take k).length + 1) cap) (.slice (some ⟨b4, o4 + k, none⟩) (m - k) (pc - k)) (out.take k ++ [x]) (out.drop k) rfl rfl (hP.own' (by simp)) ((HD.out.below (by assumption)).mono (fun mm _ hh => ((hP.own' (n := (out.take k).length + 1) (by simp)).lt mm hh.symm).1)) (by unfold maxLen; simp; omega) (by show _ * 8 ≤ _; simp; omega) (Below.size (by assumption)) (m + 1) HDL.out ?_; intro x3 y3 w3 hJ3))
                  all_goals
                    have hb9 : Below wp.heap.size wp w3 := by assumption
                    have hB9 : Below w.heap.size w w3 := hB2.trans (hb9.mono hB2.size)
                    go_wp2_with fail
                    go_roundw
                    case rel => exact ⟨q + 1, by omega, by go_num, by rw [HINS.out]; exact hJ3.own.mono hB2.size, hB9⟩
                    case measure => simp [intOf]; omega
            · have hlead : lead x out = k := lead_eq x out k (by omega) HK.out (fun z hz => by rw [List.getElem?_eq_none (by omega)] at hz; cases hz)
              have HINS : Hid ((lx.take (q + 1)).foldl ins (accU a b j) = out.take k ++ [x] ++ out.drop k) := by show _ = _; rw [HNEXT.out, ins, hlead, if_neg (by rw [List.getElem?_eq_none (by omega)]; simp)]
              have hkb : ((k : Int) == (m : Int)) = true := by rw [beq_iff_eq]; omega
              clear hlead
              have HTL : Hid (([] : List Int).length + (out.take k).length = k) := by show _ = _; simp; omega
              have HDL : Hid ((out.take k ++ [x]).length + (out.drop k).length = m + 1) := by show _ = _; simp; omega
              have hcap := hO2.sl.cap
              have hki1 : (k : Int) ≤ (pc : Int) := by omega
              have hki2 : (0 : Int) ≤ (k : Int) := by omega
              have hki3 : (k : Int) ≤ (m : Int) := by omega
              have hki4 : (m : Int) ≤ (pc : Int) := by omega
              have HT : Hid (Sl intE wp (fun mm => wp.heap.size ≤ mm) (.slice pa k pc) (out.take k)) := (hO2.sl.takeS hk).old (Nat.le_refl _)
              by_cases hck : pc = k
              · have hck' := hck.symm
                subst hck'
                have HD : Hid (Sl intE wp (fun mm => wp.heap.size ≤ mm) (.slice pa 0 0) (out.drop k)) := Sl.none_left (by omega) rfl
                go_wp2_with fail
                go_region_held3 (fun W => Below wp.heap.size wp W)
                  ((first | exact (Below.refl _ _).drew | exact below_alloc_keep (by assumption) | exact Below.trans (by assumption) (Joined.below (by assumption)) | exact Below.trans (by assumption) (Pushed.below (by assumption))))
                  (first
                    | (refine step_join rfl (.const (.slice none 0 0)) (.tmp 51) 23 rfl intE Tryz.underlying23 wp.heap.size (.slice none 0 0) (.slice pa k k) [] (out.take k) rfl rfl (Own.nil _ _ _) ((HT.out.below (by assumption)).mono (fun _ _ h => by simp [Value.ownBlock] at h)) (by unfold maxLen; simp; omega) (by show _ * 8 ≤ _; simp; omega) (Below.size (by assumption)) k HTL.out ?_; intro x1 y1 w1 hJ1)
                    | (refine step_push rfl (.tmp 52) (.tmp 54) 23 rfl intE Tryz.underlying23 wp.heap.size (.slice x1 k y1) (out.take k) rfl hJ1.own [x] #[.int .i64 x] (Els.one rfl) 1 1 rfl rfl (by decide) (by unfold maxLen; simp; omega) (by show _ * 8 ≤ _; simp; omega) hJ1.below.size ?_; intro g cap w2 hP hPa)
                    | (refine step_push_at rfl (.tmp 52) (.tmp 54) 23 rfl intE Tryz.underlying23 wp.heap.size (.slice x1 k y1) (out.take k) rfl hJ1.own [x] [.int .i64 x] (Els.one rfl) ⟨wp.heap.size, 0, none⟩ 1 1 rfl rfl (fun jj uu hu => hJ1.kept.cell (by simp [Value.ownBlock]) (cells_new wp.drew _ _ jj uu hu)) (by decide) (by unfold maxLen; simp; omega) (by show _ * 8 ≤ _; simp; omega) (Below.size (by assumption)) ?_; intro g cap w2 hP)
                    | (refine step_join rfl (.tmp 55) (.tmp 58) 23 rfl intE Tryz.underlying23 wp.heap.size (.slice (some ⟨g, 0, none⟩) ((out.take k).length + 1) cap) (.slice pa 0 0) (out.take k ++ [x]) (out.drop k) rfl rfl (hP.own' (by simp)) ((HD.out.below (by assumption)).mono (fun mm _ hh => ((hP.own' (n := (out.take k).length + 1) (by simp)).lt mm hh.symm).1)) (by unfold maxLen; simp; omega) (by show _ * 8 ≤ _; simp; omega) (Below.size (by assumption)) (m + 1) HDL.out ?_; intro x3 y3 w3 hJ3))
                all_goals
                  have hb9 : Below wp.heap.size wp w3 := by assumption
                  have hB9 : Below w.heap.size w w3 := hB2.trans (hb9.mono hB2.size)
                  go_wp2_with fail
                  go_roundw
                  case rel => exact ⟨q + 1, by omega, by go_num, by rw [HINS.out]; exact hJ3.own.mono hB2.size, hB9⟩
                  case measure => simp [intOf]; omega
              · have HD : Hid (Sl intE wp (fun mm => wp.heap.size ≤ mm) (.slice (pa.map fun y => y.add k) (m - k) (pc - k)) (out.drop k)) := by
                  have h := hO2.sl.dropS hk
                  rw [show k * intE.size = k from Nat.mul_one k] at h
                  exact h.old (Nat.le_refl _)
                go_wp2_with fail
                go_region_held3 (fun W => Below wp.heap.size wp W)
                  ((first | exact (Below.refl _ _).drew | exact below_alloc_keep (by assumption) | exact Below.trans (by assumption) (Joined.below (by assumption)) | exact Below.trans (by assumption) (Pushed.below (by assumption))))
                  (first
                    | (refine step_join rfl (.const (.slice none 0 0)) (.tmp 51) 23 rfl intE Tryz.underlying23 wp.heap.size (.slice none 0 0) (.slice pa k pc) [] (out.take k) rfl rfl (Own.nil _ _ _) ((HT.out.below (by assumption)).mono (fun _ _ h => by simp [Value.ownBlock] at h)) (by unfold maxLen; simp; omega) (by show _ * 8 ≤ _; simp; omega) (Below.size (by assumption)) k HTL.out ?_; intro x1 y1 w1 hJ1)
                    | (refine step_push rfl (.tmp 52) (.tmp 54) 23 rfl intE Tryz.underlying23 wp.heap.size (.slice x1 k y1) (out.take k) rfl hJ1.own [x] #[.int .i64 x] (Els.one rfl) 1 1 rfl rfl (by decide) (by unfold maxLen; simp; omega) (by show _ * 8 ≤ _; simp; omega) hJ1.below.size ?_; intro g cap w2 hP hPa)
                    | (refine step_push_at rfl (.tmp 52) (.tmp 54) 23 rfl intE Tryz.underlying23 wp.heap.size (.slice x1 k y1) (out.take k) rfl hJ1.own [x] [.int .i64 x] (Els.one rfl) ⟨wp.heap.size, 0, none⟩ 1 1 rfl rfl (fun jj uu hu => hJ1.kept.cell (by simp [Value.ownBlock]) (cells_new wp.drew _ _ jj uu hu)) (by decide) (by unfold maxLen; simp; omega) (by show _ * 8 ≤ _; simp; omega) (Below.size (by assumption)) ?_; intro g cap w2 hP)
                    | (refine step_join rfl (.tmp 55) (.tmp 58) 23 rfl intE Tryz.underlying23 wp.heap.size (.slice (some ⟨g, 0, none⟩) ((out.take k).length + 1) cap) (.slice (pa.map fun y => y.add k) (m - k) (pc - k)) (out.take k ++ [x]) (out.drop k) rfl rfl (hP.own' (by simp)) ((HD.out.below (by assumption)).mono (fun mm _ hh => ((hP.own' (n := (out.take k).length + 1) (by simp)).lt mm hh.symm).1)) (by unfold maxLen; simp; omega) (by show _ * 8 ≤ _; simp; omega) (Below.size (by assumption)) (m + 1) HDL.out ?_; intro x3 y3 w3 hJ3))
                all_goals
                  have hb9 : Below wp.heap.size wp w3 := by assumption
                  have hB9 : Below w.heap.size w w3 := hB2.trans (hb9.mono hB2.size)
                  go_wp2_with fail
                  go_roundw
                  case rel => exact ⟨q + 1, by omega, by go_num, by rw [HINS.out]; exact hJ3.own.mono hB2.size, hB9⟩
                  case measure => simp [intOf]; omega
        · have HEND : Hid (out = accU a b (j + 1)) := by show _ = _; rw [HOUT.out, List.take_of_length_le (by rw [HL3.out]; omega), HACC.out]
          go_wp2_with fail
          go_roundw
          case rel => exact ⟨j + 1, by omega, by go_num, by rw [← HEND.out]; exact hO2, hB2⟩
          case measure => simp [intOf]; omega
    · have hj2 : j = 2 := by omega
      have HF : Hid (accU a b j = mergeL a b) := by show _ = _; rw [hj2]; rfl
      clear hj2
      go_wp2_with fail
      go_ret
      exact ⟨_, rfl, by rw [← HF.out]; exact hO, hB⟩
end Go.Proofs.YtngigmpaabmngaaGreatDoor

namespace Go.Proofs.YtngigmpaabmngaaGreatDoor
open Go.RowKit Go.Lib Go.Shelf

set_option maxHeartbeats 1000000 in
theorem rvalid_any (lo hi : Int) (w : World) :
    Calls Tryz.prog 89 #[.agg #[.int .i64 lo, .int .i64 hi]] w fun e w' => e = .returned (.bool (pvalid lo hi)) ∧ Below w.heap.size w w' := by
  go_enter Tryz.func89, Tryz.ntmps89
  go_wp2
  all_goals go_ret
  all_goals refine ⟨congrArg (fun b => Ending.returned (.bool b)) ?_, below_alloc _ _⟩
  all_goals (simp [pvalid, *]; try omega)

/-- What was there before the call is clear of a row of the call's own. -/
theorem Sl.clearOf {P : Program} {α : Type} {E : El P α} {w0 w : World} {G : Nat → Prop} {v u : Value} {ys : List α} (hu : Sl E w0 G u ys) (hb : Below w0.heap.size w0 w) (hlt : ∀ k, v.ownBlock = some k → w0.heap.size ≤ k) : Sl E w (fun k => some k = v.ownBlock) u ys :=
  ((hu.old (Nat.le_refl _)).below hb).mono (fun k _ hk => hlt k hk.symm)

end Go.Proofs.YtngigmpaabmngaaGreatDoor

namespace Go.Proofs.YtngigmpaabmngaaGreatDoor
open Go.Shelf Go.RowKit Go.Lib Go.Sort
def sh_laysNm220_ren : Go.Shelf.Ren := ⟨fun | 20 => 66 | n => n, fun | 22 => 23 | 3 => 3 | 4 => 4 | 0 => 0 | n => n, fun | n => n⟩
theorem sh_laysNm220 : Lays2.n20 Tryz.prog sh_laysNm220_ren := {
  mixed := by kernel_rfl
  f20 := Tryz.func66.trans (congrArg some (by kernel_rfl))
  t0 := Tryz.underlying0
  a0 := Tryz.isAgg0
  z0 := Tryz.sizeOf0
  v0 := Tryz.zeroValue0
  t3 := Tryz.underlying3
  a3 := Tryz.isAgg3
  z3 := Tryz.sizeOf3
  v3 := Tryz.zeroValue3
  t4 := Tryz.underlying4
  a4 := Tryz.isAgg4
  z4 := Tryz.sizeOf4
  v4 := Tryz.zeroValue4
  t22 := Tryz.underlying23
  a22 := Tryz.isAgg23
  z22 := Tryz.sizeOf23
  v22 := Tryz.zeroValue23
  i3 := by kernel_rfl }
theorem sh_slices_Compact_int (blk off cap : Nat) (zs : List Int) (w : World) (hH : Holds (Value.int .i64) w blk off zs.toArray) (hsz : zs.length ≤ 9223372036854775807) (hcap : zs.length ≤ cap) :
    Calls Tryz.prog 66 #[.slice (some ⟨blk, off, none⟩) zs.length cap] w fun e w' => e = .returned (.slice (some ⟨blk, off, none⟩) (Lib.compact zs).length cap) ∧ ∃ q, w' = putRow (Value.int .i64) (Sort.ahead w q) blk off (Lib.compact zs ++ List.replicate (zs.length - (Lib.compact zs).length) 0).toArray := Any.slices_Compact_int sh_laysNm220 blk off cap zs w hH hsz hcap
theorem sh_slices_Compact_int_empty (a : Option Addr) (cap : Nat) (w : World) :
    Calls Tryz.prog 66 #[.slice a 0 cap] w fun e w' => e = .returned (.slice a 0 cap) ∧ w' = w := Any.slices_Compact_int_empty sh_laysNm220 a cap w
theorem sh_slices_Compact_int_cells (b off n c : Nat) (zs : List Int) (w : World) (hz : n ≤ zs.length) (hbig : n ≤ 9223372036854775807) (hcap : n ≤ c) (hc : ∀ j, j < zs.length → w.cell? ⟨b, off + j, none⟩ = some (.int .i64 (zs.getD j 0))) (hf : ∀ j, j < n → w.frozen? ⟨b, off + j, none⟩ = false) :
    Calls Tryz.prog 66 #[.slice (some ⟨b, off, none⟩) n c] w fun e w' => e = .returned (.slice (some ⟨b, off, none⟩) (Lib.compact (zs.take n)).length c) ∧ ∃ q, w' = (w.drewN q).setCells b off ((Lib.compact (zs.take n) ++ List.replicate (n - (Lib.compact (zs.take n)).length) 0).map (Value.int .i64)) := Any.slices_Compact_int_cells sh_laysNm220 b off n c zs w hz hbig hcap hc hf
end Go.Proofs.YtngigmpaabmngaaGreatDoor

namespace Go.Proofs.YtngigmpaabmngaaGreatDoor
open Go.RowKit Go.Lib Go.Shelf Go.Sort

theorem sort_own (v : Value) (l : List Int) (B : Nat) (w : World) (h : Own intE w B v l) (hB : B ≤ w.heap.size) (hs : l.length ≤ 1000000000) :
    Calls Tryz.prog 65 #[v] w fun e w' => e = .returned (.tuple #[]) ∧ Own intE w' B v (srt l) ∧ Below B w w' := by
  have ho := h.ints
  rcases ho.2 with ⟨rfl, hz⟩ | ⟨gb, cap, cur, rfl, hbase, hgb, r1, r2, r3, r4⟩
  · have hzs : l = [] := List.eq_nil_of_length_eq_zero hz
    subst hzs
    refine (sh_slices_Sort_int_none none 0 w).mono ?_
    rintro e w' ⟨rfl, rfl⟩
    exact ⟨rfl, by simpa [srt] using h, Below.refl _ _⟩
  · have hH : Holds (Value.int .i64) w gb 0 l.toArray := holds_of_block_i hgb (by simpa [numCells] using r4)
    have hgl : gb < w.heap.size := (Array.getElem?_eq_some_iff.1 hgb).1
    refine (sh_slices_Sort_int gb 0 cap l w hH hgl (by omega)).mono ?_
    rintro e w' ⟨rfl, nn, os, rfl⟩
    have hlen : (srt l).length = l.length := List.length_mergeSort _
    refine ⟨rfl, Own.of_ints ?_, (Below.refl _ _).grown (grownBy_sorted_i _) hB (fun j hj => by cases hj; exact hbase)⟩
    have := ownsRow_sorted_i (e := 3) (n := nn) (os := os) (ts := srt l) hlen hbase hgb r1 r2 r3
    rw [hlen]; exact this
theorem compact_own (v : Value) (l : List Int) (B : Nat) (w : World) (h : Own intE w B v l) (hB : B ≤ w.heap.size) (hs : l.length ≤ 1000000000) :
    Calls Tryz.prog 66 #[v] w fun e w' => ∃ v', e = .returned v' ∧ Own intE w' B v' (Lib.compact l) ∧ Below B w w' := by
  have ho := h.ints
  rcases ho.2 with ⟨rfl, hz⟩ | ⟨gb, cap, cur, rfl, hbase, hgb, r1, r2, r3, r4⟩
  · have hzs : l = [] := List.eq_nil_of_length_eq_zero hz
    subst hzs
    refine (sh_slices_Compact_int_empty none 0 w).mono ?_
    rintro e w' ⟨rfl, rfl⟩
    exact ⟨_, rfl, h, Below.refl _ _⟩
  · have hH : Holds (Value.int .i64) w gb 0 l.toArray := holds_of_block_i hgb (by simpa [numCells] using r4)
    refine (sh_slices_Compact_int gb 0 cap l w hH (by omega) r1).mono ?_
    rintro e w' ⟨rfl, nn, rfl⟩
    have hle := Lib.compact_length_le l
    have hlen : (Lib.compact l ++ List.replicate (l.length - (Lib.compact l).length) 0).length = l.length := by simp; omega
    have ho' := ownsRow_sorted_i (e := 3) (n := nn) (os := #[]) hlen hbase hgb r1 r2 r3
    have hg : w.grownBy (grow (putRow (Value.int .i64) (Sort.ahead w nn) gb 0 (Lib.compact l ++ List.replicate (l.length - (Lib.compact l).length) 0).toArray) #[]) (some gb) := grownBy_sorted_i _
    rw [grow_empty] at ho' hg
    refine ⟨_, rfl, Own.of_ints ?_, (Below.refl _ _).grown hg hB (fun j hj => by cases hj; exact hbase)⟩
    rcases ho'.2 with ⟨e, _⟩ | ⟨g, cap', cur', e, q1, q2, q3, q4, q5, q6⟩
    · cases e
    · cases e
      refine ⟨by simp [numCells], .inr ⟨_, _, cur', rfl, q1, q2, by omega, q4, q5, ?_⟩⟩
      have h7 := congrArg (List.take (Lib.compact l).length) q6
      rw [List.take_take, Nat.mul_one, Nat.min_eq_left hle, List.map_append, List.take_left' (by simp)] at h7
      rw [Nat.mul_one]; exact h7

set_option maxHeartbeats 4000000 in
set_option maxRecDepth 100000 in
theorem bnds_any (v : Value) (l : List Tup) (w : World) (hv : Tups w v l) (hsz : l.length ≤ 100000000) :
    Calls Tryz.prog 100 #[v] w (RetOwn intE w (bnds l)) := by
  obtain ⟨a, c, rfl⟩ := hv.shape
  have HV := Lib.hid hv
  obtain ⟨n, hn⟩ : ∃ n, n = l.length := ⟨_, rfl⟩
  have HN := Lib.hid hn
  rw [← hn] at hsz HV ⊢
  clear hv hn
  go_enter Tryz.func100, Tryz.ntmps100
  go_wp2_with fail
  go_loopw [8, 3] (fun i o wr => ∃ k : Nat, k ≤ n ∧ i = .int .i64 k ∧ Own intE wr w.heap.size o (allEnds (l.take k)) ∧ Below w.heap.size w wr) (fun i _ _ => n - (intOf i).toNat)
  case atStart => exact ⟨0, Nat.zero_le _, rfl, Own.nil _ _ _, Below.refl _ _⟩
  case round =>
    obtain ⟨k, hk, rfl, hO, hB⟩ := hrel
    have hle : (allEnds (l.take k)).length ≤ n * 2 := by rw [HN.out]; exact allEnds_take_length l k
    by_cases hlt : k < n
    · obtain ⟨x, hx⟩ := lget_some l k (by rw [← HN.out]; exact hlt)
      obtain ⟨b, o, a3, n3, e3, m3, rfl, hv1, hu1, p0, p1, p2, p3⟩ := tups_at HV.out hx
      replace p0 := cell_keep hB p0
      replace p1 := cell_keep hB p1
      replace p2 := cell_keep hB p2
      replace p3 := cell_keep hB p3
      have HT : Hid (allEnds (l.take (k + 1)) = allEnds (l.take k) ++ ends x) := allEnds_snoc l k x hx
      obtain ⟨acc, hacc⟩ : ∃ acc, acc = allEnds (l.take k) := ⟨_, rfl⟩
      rw [← hacc] at HT hO hle
      obtain ⟨oa, oc, rfl⟩ := hO.shape
      clear hx hacc
      go_wp2_with fail
      refine (pvalid_any _ _ _).mono ?_
      rintro e w2 ⟨rfl, hb2⟩
      have hbx := box_kept (World.alloc_heap_new wr (.cells #[.slice a3 x.vals.length n3, .int .i64 x.lo, .int .i64 x.hi, .slice e3 x.lin.length m3] 52)) hb2
      have hB2 : Below wr.heap.size wr w2 := below_alloc2' hb2
      have hO2 := hO.below hB2
      have hB2' : Below w.heap.size w w2 := below_keep hB hB2
      clear hb2 p0 p1 p2 p3 hO hB2
      obtain ⟨⟨p0, p1, p2, p3⟩, f0, f1, f2, f3⟩ := box_four hbx
      clear hbx
      cases hval : pvalid x.lo x.hi
      · have HT' : Hid (allEnds (l.take (k + 1)) = acc) := by show _ = _; rw [HT.out, ends, hval]; simp
        clear hval
        go_wp2_with fail
        go_roundw
        case rel => exact ⟨k + 1, by omega, by go_num, by rw [HT'.out]; exact hO2, hB2'⟩
        case measure => simp [intOf]; omega
      · have HT' : Hid (allEnds (l.take (k + 1)) = acc ++ [x.lo, x.hi]) := by show _ = _; rw [HT.out, ends, hval, if_pos rfl]
        clear hval
        go_wp2_with (at_builtin; refine wpList_push rfl _ _ 23 rfl intE Tryz.underlying23 w.heap.size (.slice oa acc.length oc) acc rfl hO2 [x.lo, x.hi] #[.int .i64 x.lo, .int .i64 x.hi] (Els.cons (cs := [.int .i64 x.lo]) rfl (Els.one (cs := [.int .i64 x.hi]) rfl)) 2 2 rfl rfl (by decide) (by unfold maxLen; omega) (by show _ * 8 ≤ _; omega) hB2'.size ?_; intro g cap w5 hP hPa)
        go_roundw
        case rel => exact ⟨k + 1, by omega, by go_num, by rw [HT'.out]; exact hP.own' (by simp), hB2'.trans hP.below⟩
        case measure => simp [intOf]; omega
    · have HT : Hid (allEnds (l.take k) = allEnds l) := by show _ = _; rw [List.take_of_length_le (by rw [← HN.out]; omega)]
      rw [HT.out] at hO hle
      obtain ⟨oa, oc, rfl⟩ := hO.shape
      go_wp2_with fail
      refine (sort_own _ _ w.heap.size _ hO hB.size (by omega)).mono ?_
      rintro e w2 ⟨rfl, hO2, hb2⟩
      go_wp2_with fail
      have hl2 : (srt (allEnds l)).length = (allEnds l).length := List.length_mergeSort _
      refine (compact_own _ _ w.heap.size _ hO2 (Nat.le_trans hB.size hb2.size) (by omega)).mono ?_
      rintro e w3 ⟨v3, rfl, hO3, hb3⟩
      clear hl2
      obtain ⟨a4, c4, rfl⟩ := hO3.shape
      go_wp2_with fail
      go_ret
      exact ⟨_, rfl, hO3, (hB.trans hb2).trans hb3⟩

set_option maxHeartbeats 4000000 in
set_option maxRecDepth 100000 in
theorem refBnd_any (v : Value) (l : List Tup) (w : World) (hv : Tups w v l) (hsz : l.length ≤ 100000000) :
    Calls Tryz.prog 47 #[v] w (RetOwn intE w (refBnd l)) := by
  obtain ⟨a, c, rfl⟩ := hv.shape
  have HV := Lib.hid hv
  obtain ⟨n, hn⟩ : ∃ n, n = l.length := ⟨_, rfl⟩
  have HN := Lib.hid hn
  rw [← hn] at hsz HV ⊢
  clear hv hn
  go_enter Tryz.func47, Tryz.ntmps47
  go_wp2_with fail
  go_loopw [8, 3] (fun i o wr => ∃ k : Nat, k ≤ n ∧ i = .int .i64 k ∧ Own intE wr w.heap.size o (refBnd (l.take k)) ∧ Below w.heap.size w wr) (fun i _ _ => n - (intOf i).toNat)
  case atStart => exact ⟨0, Nat.zero_le _, rfl, Own.nil _ _ _, Below.refl _ _⟩
  case round =>
    obtain ⟨k, hk, rfl, hO, hB⟩ := hrel
    have hle : (refBnd (l.take k)).length ≤ n * 2 := Nat.le_trans (refBnd_length _) (Nat.mul_le_mul_right _ (by rw [List.length_take, HN.out]; omega))
    by_cases hlt : k < n
    · obtain ⟨x, hx⟩ := lget_some l k (by rw [← HN.out]; exact hlt)
      obtain ⟨b, o, a3, n3, e3, m3, rfl, hv1, hu1, p0, p1, p2, p3⟩ := tups_at HV.out hx
      replace p0 := cell_keep hB p0
      replace p1 := cell_keep hB p1
      replace p2 := cell_keep hB p2
      replace p3 := cell_keep hB p3
      have HT : Hid (refBnd (l.take (k + 1)) = if pvalid x.lo x.hi = true then mergeL (refBnd (l.take k)) [x.lo, x.hi] else refBnd (l.take k)) := refBnd_snoc l k x hx
      obtain ⟨acc, hacc⟩ : ∃ acc, acc = refBnd (l.take k) := ⟨_, rfl⟩
      rw [← hacc] at HT hO hle
      obtain ⟨oa, oc, rfl⟩ := hO.shape
      clear hx hacc
      go_wp2_with fail
      refine (rvalid_any _ _ _).mono ?_
      rintro e w2 ⟨rfl, hb2⟩
      have hbx := box_kept (World.alloc_heap_new wr (.cells #[.slice a3 x.vals.length n3, .int .i64 x.lo, .int .i64 x.hi, .slice e3 x.lin.length m3] 52)) hb2
      have hB2 : Below wr.heap.size wr w2 := below_alloc2' hb2
      have hO2 := hO.below hB2
      have hB2' : Below w.heap.size w w2 := below_keep hB hB2
      clear hb2 p0 p1 p2 p3 hO hB2
      obtain ⟨⟨p0, p1, p2, p3⟩, f0, f1, f2, f3⟩ := box_four hbx
      clear hbx
      cases hval : pvalid x.lo x.hi
      · have HT' : Hid (refBnd (l.take (k + 1)) = acc) := by show _ = _; rw [HT.out, hval]; simp
        clear hval
        go_wp2_with fail
        go_roundw
        case rel => exact ⟨k + 1, by omega, by go_num, by rw [HT'.out]; exact hO2, hB2'⟩
        case measure => simp [intOf]; omega
      · have HT' : Hid (refBnd (l.take (k + 1)) = mergeL acc [x.lo, x.hi]) := by show _ = _; rw [HT.out, hval, if_pos rfl]
        clear hval
        go_wp2_with fail
        have hS2 : Sl intE (w2.alloc (.cells #[.int .i64 x.lo, .int .i64 x.hi] 3)) free (.slice (some ⟨w2.heap.size, 0, none⟩) 2 2) [x.lo, x.hi] := Sl.of_block (World.alloc_heap_new w2 _) (Els.cons (cs := [.int .i64 x.lo]) rfl (Els.one (cs := [.int .i64 x.hi]) rfl)) id rfl (by decide) (by decide)
        refine (merge_any _ _ acc [x.lo, x.hi] _ (hO2.sl.below (below_alloc _ _)) hS2 (by simp; omega)).mono ?_
        rintro e w3 ⟨v3, rfl, hO3, hb3⟩
        obtain ⟨a4, c4, rfl⟩ := hO3.shape
        have hb3' : Below w.heap.size w w3 := below_keep (below_alloc_keep hB2') hb3
        go_wp2_with fail
        go_roundw
        case rel => exact ⟨k + 1, by omega, by go_num, by rw [HT'.out]; exact hO3.mono (by simp; have := hB2'.size; omega), hb3'⟩
        case measure => simp [intOf]; omega
    · have HT : Hid (refBnd (l.take k) = refBnd l) := by show _ = _; rw [List.take_of_length_le (by rw [← HN.out]; omega)]
      rw [HT.out] at hO hle
      obtain ⟨oa, oc, rfl⟩ := hO.shape
      go_wp2_with fail
      go_ret
      exact ⟨_, rfl, hO, hB⟩

end Go.Proofs.YtngigmpaabmngaaGreatDoor
