/- A part of the proofs: OpenG, LaidP, Open, OpenU, OpenB, SplK, SplL, OpenC, Put. No condition beside sizes and tables that read as laid. -/
import Derived.Test.YtnfccpkmaebbiaaDoorMgAc
import Derived.Test.YtnfccpkmaebbiaaDoorMgAa
import Derived.Test.YtnfccpkmaebbiaaDoorMgAb
import Derived.Test.YtnfccpkmaebbiaaDoorChecked
import Derived.Test.YtnfccpkmaebbiaaDoorRows
import Derived.Stop.LaidErr
import Derived.LaidLaws
import Derived.Lib.Strings
namespace Go.Proofs.YtnfccpkmaebbiaaDoor
open Go.ChangeShapes Go.WideShapes Go.ChangeAt Go.RowKit
open Go.ChangeMaps (open_string)

theorem open_sl_trod {H : Type} {enc : TypeId × Value → H} {P : Program} {w : World} {spare : Nat → Bool} {t e : TypeId} {cs0 : List Value} {y0 : DataW H × List MemPlace} {n0 : Nat} {α : Type} (E : El P α) (Pr : α → Prop)
    (ht : P.underlying t = some (.slice e)) (hce : P.cellsOf e = E.size)
    (hel : ∀ n cs y, DataW.trod enc P w 0 spare true n e cs = some y → cs.length = E.size → ∃ x, E.is w free x cs ∧ Pr x)
    (h : DataW.trod enc P w 0 spare true n0 t cs0 = some y0) : ∃ (v : Value) (l : List α), cs0 = [v] ∧ Sl E w free v l ∧ ∀ x ∈ l, Pr x := by
  rcases Go.Deep.open_slice ht h with ⟨hcs, _⟩ | ⟨a, len, cap, m, n, D, Pl, hcs, _, hl, hm, hmm, _, hx⟩
  · exact ⟨_, [], hcs, Sl.nil _ _ _ _ _, by simp⟩
  · have hlm : len ≤ m := by rw [hmm]; split <;> omega
    have hsz := E.pos
    have each : ∀ i : Fin len, ∃ x cs, cs.length = E.size ∧ (E.is w free x cs ∧ Pr x) ∧ ∀ j u, cs[j]? = some u → w.cell? ((a.add (i * E.size)).add j) = some u := by
      intro i
      obtain ⟨cs, h1, h2⟩ := hx i (by omega)
      rw [hce] at h1
      obtain ⟨_, hlen, hcell⟩ := World.cells?_some h1
      obtain ⟨x, hxr⟩ := hel _ _ _ h2 hlen
      refine ⟨x, cs, hlen, hxr, fun j u hu => ?_⟩
      have hj : j < E.size := by rw [← hlen]; exact (List.getElem?_eq_some_iff.1 hu).1
      rw [hcell j hj]; exact hu
    let f : Fin len → α := fun i => Classical.choose (each i)
    have hf' : ∀ i : Fin len, ∃ cs, cs.length = E.size ∧ (E.is w free (f i) cs ∧ Pr (f i)) ∧ ∀ j u, cs[j]? = some u → w.cell? ((a.add (i * E.size)).add j) = some u := fun i => Classical.choose_spec (each i)
    have hlen : (List.ofFn f).length = len := List.length_ofFn
    refine ⟨_, List.ofFn f, hcs, ⟨by rw [hlen]; unfold maxLen at hm; omega, some a, cap, by rw [hlen], by rw [hlen]; exact hl, fun hpos => ?_⟩, fun x hx => ?_⟩
    · rw [hlen] at hpos
      obtain ⟨b, o, spot⟩ := a
      have hspot : spot = none := by
        obtain ⟨cs, h1, _⟩ := hx 0 (by omega)
        rw [hce] at h1
        obtain ⟨_, hl0, hcell⟩ := World.cells?_some h1
        have h2 := hcell 0 hsz
        rw [List.getElem?_eq_getElem (by omega)] at h2
        have h3 : w.cell? ⟨b, o, spot⟩ = some (cs[0]'(by omega)) := by simpa [Addr.add] using h2
        cases spot with
        | none => rfl
        | some s => simp [World.cell?] at h3; split at h3 <;> simp at h3
      subst hspot
      refine ⟨b, o, rfl, id, fun i x hi => ?_⟩
      have hil : i < len := by rw [← hlen]; exact (List.getElem?_eq_some_iff.1 hi).1
      obtain ⟨cs, h1, h2, h3⟩ := hf' ⟨i, hil⟩
      have hxe : x = f ⟨i, hil⟩ := by
        rw [List.getElem?_ofFn] at hi
        simp [hil] at hi
        exact hi.symm
      refine ⟨cs, by rw [hxe]; exact h2.1, fun j u hu => ?_⟩
      have := h3 j u hu
      rw [Go.Deep.add_add] at this
      rw [Addr.add_lit] at this
      rw [Nat.add_assoc]; exact this
    · obtain ⟨i, rfl⟩ := List.mem_ofFn.1 hx
      exact (hf' i).choose_spec.2.1.2
theorem open_sl {H : Type} {enc : TypeId × Value → H} {P : Program} {w : World} {spare : Nat → Bool} {t e : TypeId} {v : Value} {d : DataW H} {ps : List MemPlace} {α : Type} {base : Nat} (E : El P α) (Pr : α → Prop)
    (ht : P.underlying t = some (.slice e)) (hce : P.cellsOf e = E.size) (hv : Value.okWide P w .any base t v)
    (hel : ∀ n cs y, DataW.trod enc P w 0 spare true n e cs = some y → cs.length = E.size → ∃ x, E.is w free x cs ∧ Pr x)
    (h : DataW.Trod enc P w 0 spare true t v d ps) : ∃ l : List α, Sl E w free v l ∧ ∀ x ∈ l, Pr x := by
  obtain ⟨a0, len, cap, rfl⟩ := okWide_slice ht hv
  obtain ⟨fuel, hf⟩ := h
  obtain ⟨v, l, hcs, hl⟩ := open_sl_trod E Pr ht hce hel hf
  simp [Value.cells] at hcs
  subst hcs
  exact ⟨l, hl⟩
theorem cells_int : Tryd.prog.cellsOf 3 = 1 := by kernel_rfl
theorem cells_i64 : Tryd.prog.cellsOf 2 = 1 := by kernel_rfl
theorem cells_string : Tryd.prog.cellsOf 9 = 1 := by kernel_rfl
theorem cells_val : Tryd.prog.cellsOf 42 = 3 := by kernel_rfl
/-- An int. -/
def Is64 (x : Int) : Prop := -9223372036854775808 ≤ x ∧ x ≤ 9223372036854775807
section
variable {H : Type} {enc : TypeId × Value → H} {w : World} {spare : Nat → Bool}
theorem is64_of {n : Int} (h : (Lit.int .i64 n).wf = true) : Is64 n := by
  simp [Lit.wf, IntKind.min, IntKind.max, IntKind.signed, IntKind.bits] at h
  unfold Is64
  omega
theorem open_int_el (n : Nat) (cs : List Value) (y : DataW H × List MemPlace) (h : DataW.trod enc Tryd.prog w 0 spare true n 3 cs = some y) (hl : cs.length = 1) : ∃ x, intE.is w free x cs ∧ Is64 x := by
  match cs, hl with
  | [c0], _ =>
    obtain ⟨k0, e0, _, hw⟩ := DataW.trod_int Tryd.underlying3 h
    simp at e0
    subst e0
    exact ⟨k0, rfl, is64_of hw⟩
/-- A value whose numbers and text are a machine's. -/
def IsVal (x : GVal) : Prop := Is64 x.kind ∧ Is64 x.n ∧ x.s.size ≤ maxLen
set_option maxRecDepth 10000 in
theorem open_val_el (n : Nat) (cs : List Value) (y : DataW H × List MemPlace) (h : DataW.trod enc Tryd.prog w 0 spare true n 42 cs = some y) (hl : cs.length = 3) : ∃ x, valE.is w free x cs ∧ IsVal x := by
  obtain ⟨xs, k, hk, hxy, _, hxl, hf⟩ := DataW.trod_struct Tryd.underlying42 h
  match cs, hl with
  | [c0, c1, c2], _ =>
    match xs, hxl with
    | [y0, y1, y2], _ =>
      have g0 := hf 0 _ rfl
      have g1 := hf 1 _ rfl
      have g2 := hf 2 _ rfl
      simp [cells_int, cells_i64, cells_string] at g0 g1 g2
      obtain ⟨k0, e0, _, w0⟩ := DataW.trod_int Tryd.underlying3 g0
      obtain ⟨k1, e1, _, w1⟩ := DataW.trod_int Tryd.underlying2 g1
      obtain ⟨s, e2, _, hs⟩ := DataW.trod_string Tryd.underlying9 g2
      simp at e0 e1 e2
      subst e0 e1 e2
      exact ⟨⟨k0, k1, s⟩, rfl, is64_of w0, is64_of w1, hs⟩
set_option maxRecDepth 10000 in
/-- An argument that is a value. -/
theorem open_valarg {base : Nat} {v : Value} {d : DataW H} {ps : List MemPlace} (hv : Value.okWide Tryd.prog w .any base 42 v) (h : DataW.Trod enc Tryd.prog w 0 spare true 42 v d ps) : ∃ x : GVal, v = aggG x ∧ IsVal x := by
  obtain ⟨cs, rfl, hs⟩ := okWide_struct Tryd.underlying42 hv
  obtain ⟨fuel, hf⟩ := h
  obtain ⟨x, hx, hp⟩ := open_val_el _ _ _ hf (by rw [cells_val] at hs; simpa [Value.cells] using hs)
  refine ⟨x, ?_, hp⟩
  have e : cs.toList = valOf x := hx
  obtain ⟨l⟩ := cs
  simp at e
  subst e
  rfl
end
end Go.Proofs.YtnfccpkmaebbiaaDoor

namespace Go.Proofs.YtnfccpkmaebbiaaDoor
open Go.ChangeShapes Go.WideShapes Go.ChangeAt Go.RowKit

theorem pow_type : (Tryd.prog.globals[0]?).map (·.type) = some 133 := by kernel_rfl
theorem cells_u64 : Tryd.prog.cellsOf 105 = 1 := by kernel_rfl
theorem cells_pow : Tryd.prog.cellsOf 133 = 20 := by kernel_rfl
/-- What the rows list. -/
abbrev laidList : List (String × DataW Unit) := [("math/bits.deBruijn32tab", Rows.laid_math_bits_deBruijn32tab), ("math/bits.deBruijn64tab", Rows.laid_math_bits_deBruijn64tab), ("internal/strconv.uint64pow10", Rows.laid_internal_strconv_uint64pow10)]
theorem pow_data : (Rows.laid_internal_strconv_uint64pow10 : DataW Unit) = Lib.tabData .u64 Lib.pow10Tab := by kernel_rfl
theorem pow_of_laid {W : World} (h : laidMet Tryd.prog laidList W) : Pow W := by
  have h1 := laidMet.tail (laidMet.tail h)
  rw [pow_data] at h1
  exact Lib.tabIs_of_head pow_named pow_type Tryd.underlying133 Tryd.underlying105 cells_u64 cells_pow h1
/-- Block n's cells replaced. -/
def layAt (w : World) (n : Nat) (cs : Array Value) : World :=
  { w with heap := w.heap.modify n fun
      | .cells _ t frozen => .cells cs t frozen
      | o => o }
noncomputable def laidWorld (os : Os) : World :=
  let w0 := World.holding Tryd.prog os ⟨#[], #[], []⟩
  let w3 := layAt w0 2 (litCells Rows.laid_math_bits_deBruijn32tab).toArray
  let w4 := layAt w3 3 (litCells Rows.laid_math_bits_deBruijn64tab).toArray
  layAt w4 0 (litCells Rows.laid_internal_strconv_uint64pow10).toArray
theorem laid_met (os : Os) (args : Array Value) : laidMet Tryd.prog laidList ((laidWorld os).forCall (fun _ _ => 0) ⟨#[], args, []⟩).memory :=
  laidMet_of_run' 8 (by kernel_rfl) (by kernel_rfl)
end Go.Proofs.YtnfccpkmaebbiaaDoor

namespace Go.Proofs.YtnfccpkmaebbiaaDoor
open Go.ChangeShapes Go.WideShapes Go.ChangeAt Go.RowKit
open Go.ChangeMaps (open_string)

theorem cells_per : Tryd.prog.cellsOf 28 = 2 := by kernel_rfl
theorem cells_tup : Tryd.prog.cellsOf 31 = 4 := by kernel_rfl
theorem cells_ints : Tryd.prog.cellsOf 29 = 1 := by kernel_rfl
theorem cells_vals : Tryd.prog.cellsOf 26 = 1 := by kernel_rfl
section
variable {H : Type} {enc : TypeId × Value → H} {w : World} {spare : Nat → Bool}
/-- A tuple whose numbers are a machine's. -/
def IsTup (x : Tup) : Prop := Is64 x.lo ∧ Is64 x.hi ∧ (∀ v ∈ x.vals, IsVal v) ∧ ∀ i ∈ x.lin, Is64 i
set_option maxRecDepth 10000 in
theorem open_tup_el (n : Nat) (cs : List Value) (y : DataW H × List MemPlace) (h : DataW.trod enc Tryd.prog w 0 spare true n 31 cs = some y) (hl : cs.length = 4) : ∃ x, tupE.is w free x cs ∧ IsTup x := by
  obtain ⟨xs, k, hk, hxy, _, hxl, hf⟩ := DataW.trod_struct Tryd.underlying31 h
  match cs, hl with
  | [c0, c1, c2, c3], _ =>
    match xs, hxl with
    | [y0, y1, y2], _ =>
      have g0 := hf 0 _ rfl
      have g1 := hf 1 _ rfl
      have g2 := hf 2 _ rfl
      simp [cells_ints, cells_vals, cells_per] at g0 g1 g2
      obtain ⟨v, lv, e0, hv, pv⟩ := open_sl_trod valE IsVal Tryd.underlying26 cells_val open_val_el g0
      obtain ⟨u, lu, e2, hu, pu⟩ := open_sl_trod intE Is64 Tryd.underlying29 cells_int open_int_el g2
      obtain ⟨xs1, k1, _, _, _, hxl1, hf1⟩ := DataW.trod_struct Tryd.underlying28 g1
      match xs1, hxl1 with
      | [z0, z1], _ =>
        have f0 := hf1 0 _ rfl
        have f1 := hf1 1 _ rfl
        simp [cells_int] at f0 f1
        obtain ⟨k0, e3, _, w0⟩ := DataW.trod_int Tryd.underlying3 f0
        obtain ⟨k1, e4, _, w1⟩ := DataW.trod_int Tryd.underlying3 f1
        simp at e0 e2 e3 e4
        subst e0 e2 e3 e4
        exact ⟨⟨lv, k0, k1, lu⟩, ⟨_, _, rfl, hv, hu⟩, is64_of w0, is64_of w1, pv, pu⟩
end
end Go.Proofs.YtnfccpkmaebbiaaDoor

namespace Go.Proofs.YtnfccpkmaebbiaaDoor
open Go.ChangeShapes Go.WideShapes Go.ChangeAt Go.RowKit

theorem cells_u16 : Tryd.prog.cellsOf 38 = 1 := by kernel_rfl
theorem cells_u5 : Tryd.prog.cellsOf 39 = 5 := by kernel_rfl
theorem u16_of {n : Int} (h : (Lit.int .u16 n).wf = true) : ∃ k : Nat, n = (k : Int) ∧ k < 65536 := by
  simp [Lit.wf, IntKind.min, IntKind.max, IntKind.signed, IntKind.bits] at h
  obtain ⟨k, rfl⟩ := Int.eq_ofNat_of_zero_le h.1
  exact ⟨k, rfl, by omega⟩
set_option maxRecDepth 10000 in
theorem open_u5_el {H : Type} {enc : TypeId × Value → H} {w : World} {spare : Nat → Bool} (n : Nat) (cs : List Value) (y : DataW H × List MemPlace) (h : DataW.trod enc Tryd.prog w 0 spare true n 39 cs = some y) (hl : cs.length = 5) : ∃ x, u5E.is w free x cs ∧ x.ok := by
  obtain ⟨xs, k, hk, hxy, _, hxl, hf⟩ := DataW.trod_array Tryd.underlying39 h
  match cs, hl with
  | [c0, c1, c2, c3, c4], _ =>
    match xs, hxl with
    | [y0, y1, y2, y3, y4], _ =>
      have g0 := hf 0 (by omega)
      have g1 := hf 1 (by omega)
      have g2 := hf 2 (by omega)
      have g3 := hf 3 (by omega)
      have g4 := hf 4 (by omega)
      simp [cells_u16] at g0 g1 g2 g3 g4
      obtain ⟨k0, e0, _, w0⟩ := DataW.trod_int Tryd.underlying38 g0
      obtain ⟨k1, e1, _, w1⟩ := DataW.trod_int Tryd.underlying38 g1
      obtain ⟨k2, e2, _, w2⟩ := DataW.trod_int Tryd.underlying38 g2
      obtain ⟨k3, e3, _, w3⟩ := DataW.trod_int Tryd.underlying38 g3
      obtain ⟨k4, e4, _, w4⟩ := DataW.trod_int Tryd.underlying38 g4
      simp at e0 e1 e2 e3 e4
      subst e0 e1 e2 e3 e4
      obtain ⟨n0, rfl, b0⟩ := u16_of w0
      obtain ⟨n1, rfl, b1⟩ := u16_of w1
      obtain ⟨n2, rfl, b2⟩ := u16_of w2
      obtain ⟨n3, rfl, b3⟩ := u16_of w3
      obtain ⟨n4, rfl, b4⟩ := u16_of w4
      exact ⟨⟨n0, n1, n2, n3, n4⟩, rfl, b0, b1, b2, b3, b4⟩
end Go.Proofs.YtnfccpkmaebbiaaDoor

namespace Go.Proofs.YtnfccpkmaebbiaaDoor
open Go.ChangeShapes Go.WideShapes Go.ChangeAt Go.RowKit
open Go.ChangeMaps (open_string)

theorem open_sl_b {H : Type} {enc : TypeId × Value → H} {P : Program} {w : World} {spare : Nat → Bool} {t e : TypeId} {v : Value} {d : DataW H} {ps : List MemPlace} {α : Type} {base : Nat} (E : El P α) (Pr : α → DataW H → Prop)
    (ht : P.underlying t = some (.slice e)) (hce : P.cellsOf e = E.size) (hv : Value.okWide P w .any base t v)
    (hel : ∀ n cs y, DataW.trod enc P w 0 spare true n e cs = some y → cs.length = E.size → ∃ x, E.is w free x cs ∧ Pr x y.1)
    (h : DataW.Trod enc P w 0 spare true t v d ps) : ∃ l : List α, Sl E w free v l ∧ ∀ x ∈ l, ∃ elems sp dx, d = .slice elems sp ∧ dx ∈ elems ∧ Pr x dx := by
  obtain ⟨a0, len0, cap0, rfl⟩ := okWide_slice ht hv
  obtain ⟨fuel, hf⟩ := h
  rcases Go.Deep.open_slice ht hf with ⟨hcs, _⟩ | ⟨a, len, cap, m, n, D, Pl, hcs, _, hl, hm, hmm, hxe, hx⟩
  · simp [Value.cells] at hcs
    obtain ⟨rfl, rfl, rfl⟩ := hcs
    exact ⟨[], Sl.nil _ _ _ _ _, by simp⟩
  · simp [Value.cells] at hcs
    obtain ⟨rfl, rfl, rfl⟩ := hcs
    have hd : d = .slice ((List.range len0).map D) ((List.range (m - len0)).map fun j => D (len0 + j)) := congrArg Prod.fst hxe
    have hlm : len0 ≤ m := by rw [hmm]; split <;> omega
    have hsz := E.pos
    have each : ∀ i : Fin len0, ∃ x cs, cs.length = E.size ∧ (E.is w free x cs ∧ Pr x (D i)) ∧ ∀ j u, cs[j]? = some u → w.cell? ((a.add (i * E.size)).add j) = some u := by
      intro i
      obtain ⟨cs, h1, h2⟩ := hx i (by omega)
      rw [hce] at h1
      obtain ⟨_, hlen, hcell⟩ := World.cells?_some h1
      obtain ⟨x, hxr⟩ := hel _ _ _ h2 hlen
      refine ⟨x, cs, hlen, hxr, fun j u hu => ?_⟩
      have hj : j < E.size := by rw [← hlen]; exact (List.getElem?_eq_some_iff.1 hu).1
      rw [hcell j hj]; exact hu
    let f : Fin len0 → α := fun i => Classical.choose (each i)
    have hf' : ∀ i : Fin len0, ∃ cs, cs.length = E.size ∧ (E.is w free (f i) cs ∧ Pr (f i) (D i)) ∧ ∀ j u, cs[j]? = some u → w.cell? ((a.add (i * E.size)).add j) = some u := fun i => Classical.choose_spec (each i)
    have hlen : (List.ofFn f).length = len0 := List.length_ofFn
    refine ⟨List.ofFn f, ⟨by rw [hlen]; unfold maxLen at hm; omega, some a, cap0, by rw [hlen], by rw [hlen]; exact hl, fun hpos => ?_⟩, fun x hx' => ?_⟩
    · rw [hlen] at hpos
      obtain ⟨b, o, spot⟩ := a
      have hspot : spot = none := by
        obtain ⟨cs, h1, _⟩ := hx 0 (by omega)
        rw [hce] at h1
        obtain ⟨_, hl0, hcell⟩ := World.cells?_some h1
        have h2 := hcell 0 hsz
        rw [List.getElem?_eq_getElem (by omega)] at h2
        have h3 : w.cell? ⟨b, o, spot⟩ = some (cs[0]'(by omega)) := by simpa [Addr.add] using h2
        cases spot with
        | none => rfl
        | some s => simp [World.cell?] at h3; split at h3 <;> simp at h3
      subst hspot
      refine ⟨b, o, rfl, id, fun i x hi => ?_⟩
      have hil : i < len0 := by rw [← hlen]; exact (List.getElem?_eq_some_iff.1 hi).1
      obtain ⟨cs, h1, h2, h3⟩ := hf' ⟨i, hil⟩
      have hxe : x = f ⟨i, hil⟩ := by
        rw [List.getElem?_ofFn] at hi
        simp [hil] at hi
        exact hi.symm
      refine ⟨cs, by rw [hxe]; exact h2.1, fun j u hu => ?_⟩
      have := h3 j u hu
      rw [Go.Deep.add_add] at this
      rw [Addr.add_lit] at this
      rw [Nat.add_assoc]; exact this
    · obtain ⟨i, rfl⟩ := List.mem_ofFn.1 hx'
      exact ⟨_, _, D i, hd, List.mem_map.2 ⟨i, List.mem_range.2 i.2, rfl⟩, (hf' i).choose_spec.2.1.2⟩
theorem bulk_mem {H : Type} (l : List (DataW H)) : ∀ d ∈ l, Rows.uptoBulk d ≤ Rows.uptoBulkAll l := by
  induction l with
  | nil => intro d h; simp at h
  | cons e l ih =>
    intro d h
    rw [Rows.uptoBulkAll]
    rcases List.mem_cons.1 h with rfl | h
    · omega
    · have := ih d h; omega
/-- Its numbers are a machine's; its text is no longer than the datum's bulk. -/
def BVal {H : Type} (x : GVal) (d : DataW H) : Prop := IsVal x ∧ x.s.size ≤ Rows.uptoBulk d
section
variable {H : Type} {enc : TypeId × Value → H} {w : World} {spare : Nat → Bool}
set_option maxRecDepth 10000 in
theorem open_val_b (n : Nat) (cs : List Value) (y : DataW H × List MemPlace) (h : DataW.trod enc Tryd.prog w 0 spare true n 42 cs = some y) (hl : cs.length = 3) : ∃ x, valE.is w free x cs ∧ BVal x y.1 := by
  obtain ⟨xs, k, hk, hxy, hy2, hxl, hf⟩ := DataW.trod_struct Tryd.underlying42 h
  match cs, hl with
  | [c0, c1, c2], _ =>
    match xs, hxl with
    | [y0, y1, y2], _ =>
      have g0 := hf 0 _ rfl
      have g1 := hf 1 _ rfl
      have g2 := hf 2 _ rfl
      simp [cells_int, cells_i64, cells_string] at g0 g1 g2
      obtain ⟨k0, e0, _, w0⟩ := DataW.trod_int Tryd.underlying3 g0
      obtain ⟨k1, e1, _, w1⟩ := DataW.trod_int Tryd.underlying2 g1
      obtain ⟨s, e2, e3, hs⟩ := DataW.trod_string Tryd.underlying9 g2
      simp at e0 e1 e2
      subst e0 e1 e2
      refine ⟨⟨k0, k1, s⟩, rfl, ⟨is64_of w0, is64_of w1, hs⟩, ?_⟩
      rw [hxy, e3]
      have hz := Lib.size_eq s
      simp only [List.map_cons, List.map_nil, Rows.uptoBulk, Rows.uptoBulkAll]
      omega
set_option maxRecDepth 10000 in
/-- A slice of values whose reading's bulk is bounded. -/
theorem open_vals_b {v : Value} {d : DataW H} {ps : List MemPlace} {base n : Nat} (hv : Value.okWide Tryd.prog w .any base 26 v) (h : DataW.Trod enc Tryd.prog w 0 spare true 26 v d ps) (hb : Rows.uptoBulk d ≤ n) :
    ∃ l : List GVal, Sl valE w free v l ∧ ∀ x ∈ l, IsVal x ∧ x.s.size ≤ n := by
  obtain ⟨l, h1, h2⟩ := open_sl_b valE BVal Tryd.underlying26 cells_val hv open_val_b h
  refine ⟨l, h1, fun x hx => ?_⟩
  obtain ⟨elems, sp, dx, rfl, hm, hp, hq⟩ := h2 x hx
  refine ⟨hp, ?_⟩
  have := bulk_mem elems dx hm
  rw [Rows.uptoBulk] at hb
  omega
/-- A small argument's bulk. -/
theorem bulk_le {ds : List (DataW H)} (hk : Rows.uptoSmall H ds = true) {d : DataW H} (hd : d ∈ ds) : Rows.uptoBulk d ≤ 1048576 := by
  have h1 := bulk_mem ds d hd
  have h2 : Rows.uptoBulkAll ds ≤ 1048576 := of_decide_eq_true hk
  omega
set_option maxRecDepth 10000 in
theorem open_u8v {base : Nat} {v : Value} {d : DataW H} {ps : List MemPlace}
    (hv : Value.okWide Tryd.prog w .any base 5 v) (h : DataW.Trod enc Tryd.prog w 0 spare true 5 v d ps) : ∃ x : Nat, v = .int .u8 (x : Int) ∧ x < 256 := by
  obtain ⟨n, rfl, _, _, hw⟩ := open_int Tryd.underlying5 hv h
  simp [Lit.wf, IntKind.min, IntKind.max, IntKind.signed, IntKind.bits] at hw
  obtain ⟨k, rfl⟩ := Int.eq_ofNat_of_zero_le hw.1
  exact ⟨k, rfl, by omega⟩
end
end Go.Proofs.YtnfccpkmaebbiaaDoor

namespace Go.Proofs.YtnfccpkmaebbiaaDoor
open Go.RowKit Go.Lib Go.Shelf

theorem awake_split : splitAt [⟨[], 0, 9, []⟩] [5, 3, 9, 0] = [⟨[], 0, 3, []⟩, ⟨[], 3, 5, []⟩, ⟨[], 5, 9, []⟩] := by
  have h : srt [5, 3, 9, 0] = [0, 3, 5, 9] := by simp [srt, List.mergeSort]
  rw [splitAt, h]
  simp [splitOne, pvalid, cutAt]
end Go.Proofs.YtnfccpkmaebbiaaDoor

namespace Go.Proofs.YtnfccpkmaebbiaaDoor
open Go.RowKit Go.Lib Go.Shelf

theorem few_of {l : List Tup} {m : Nat} (h : few l m = true) : l.length ≤ m ∧ ∀ t ∈ l, t.vals.length ≤ 1000 ∧ t.lin.length ≤ 1000 := by
  simp [few, small] at h
  exact ⟨h.1, fun t ht => by have := h.2 t ht; omega⟩

end Go.Proofs.YtnfccpkmaebbiaaDoor

namespace Go.Proofs.YtnfccpkmaebbiaaDoor
open Go.ChangeShapes Go.WideShapes Go.ChangeAt Go.RowKit

theorem open_sl_trod_b {H : Type} {enc : TypeId × Value → H} {P : Program} {w : World} {spare : Nat → Bool} {t e : TypeId} {cs0 : List Value} {y0 : DataW H × List MemPlace} {n0 : Nat} {α : Type} (E : El P α) (Pr : α → DataW H → Prop)
    (ht : P.underlying t = some (.slice e)) (hce : P.cellsOf e = E.size)
    (hel : ∀ n cs y, DataW.trod enc P w 0 spare true n e cs = some y → cs.length = E.size → ∃ x, E.is w free x cs ∧ Pr x y.1)
    (h : DataW.trod enc P w 0 spare true n0 t cs0 = some y0) : ∃ (v : Value) (l : List α), cs0 = [v] ∧ Sl E w free v l ∧ ∀ x ∈ l, ∃ elems sp dx, y0.1 = .slice elems sp ∧ dx ∈ elems ∧ Pr x dx := by
  rcases Go.Deep.open_slice ht h with ⟨hcs, _⟩ | ⟨a, len, cap, m, n, D, Pl, hcs, _, hl, hm, hmm, hxe0, hx⟩
  · exact ⟨_, [], hcs, Sl.nil _ _ _ _ _, by simp⟩
  · have hd : y0.1 = .slice ((List.range len).map D) ((List.range (m - len)).map fun j => D (len + j)) := congrArg Prod.fst hxe0
    have hlm : len ≤ m := by rw [hmm]; split <;> omega
    have hsz := E.pos
    have each : ∀ i : Fin len, ∃ x cs, cs.length = E.size ∧ (E.is w free x cs ∧ Pr x (D i)) ∧ ∀ j u, cs[j]? = some u → w.cell? ((a.add (i * E.size)).add j) = some u := by
      intro i
      obtain ⟨cs, h1, h2⟩ := hx i (by omega)
      rw [hce] at h1
      obtain ⟨_, hlen, hcell⟩ := World.cells?_some h1
      obtain ⟨x, hxr⟩ := hel _ _ _ h2 hlen
      refine ⟨x, cs, hlen, hxr, fun j u hu => ?_⟩
      have hj : j < E.size := by rw [← hlen]; exact (List.getElem?_eq_some_iff.1 hu).1
      rw [hcell j hj]; exact hu
    let f : Fin len → α := fun i => Classical.choose (each i)
    have hf' : ∀ i : Fin len, ∃ cs, cs.length = E.size ∧ (E.is w free (f i) cs ∧ Pr (f i) (D i)) ∧ ∀ j u, cs[j]? = some u → w.cell? ((a.add (i * E.size)).add j) = some u := fun i => Classical.choose_spec (each i)
    have hlen : (List.ofFn f).length = len := List.length_ofFn
    refine ⟨_, List.ofFn f, hcs, ⟨by rw [hlen]; unfold maxLen at hm; omega, some a, cap, by rw [hlen], by rw [hlen]; exact hl, fun hpos => ?_⟩, fun x hx => ?_⟩
    · rw [hlen] at hpos
      obtain ⟨b, o, spot⟩ := a
      have hspot : spot = none := by
        obtain ⟨cs, h1, _⟩ := hx 0 (by omega)
        rw [hce] at h1
        obtain ⟨_, hl0, hcell⟩ := World.cells?_some h1
        have h2 := hcell 0 hsz
        rw [List.getElem?_eq_getElem (by omega)] at h2
        have h3 : w.cell? ⟨b, o, spot⟩ = some (cs[0]'(by omega)) := by simpa [Addr.add] using h2
        cases spot with
        | none => rfl
        | some s => simp [World.cell?] at h3; split at h3 <;> simp at h3
      subst hspot
      refine ⟨b, o, rfl, id, fun i x hi => ?_⟩
      have hil : i < len := by rw [← hlen]; exact (List.getElem?_eq_some_iff.1 hi).1
      obtain ⟨cs, h1, h2, h3⟩ := hf' ⟨i, hil⟩
      have hxe : x = f ⟨i, hil⟩ := by
        rw [List.getElem?_ofFn] at hi
        simp [hil] at hi
        exact hi.symm
      refine ⟨cs, by rw [hxe]; exact h2.1, fun j u hu => ?_⟩
      have := h3 j u hu
      rw [Go.Deep.add_add] at this
      rw [Addr.add_lit] at this
      rw [Nat.add_assoc]; exact this
    · obtain ⟨i, rfl⟩ := List.mem_ofFn.1 hx
      exact ⟨_, _, D i, hd, List.mem_map.2 ⟨i, List.mem_range.2 i.2, rfl⟩, (hf' i).choose_spec.2.1.2⟩
/-- A tuple whose numbers are a machine's and whose texts are no longer than the datum's bulk. -/
def BTup {H : Type} (x : Tup) (d : DataW H) : Prop := IsTup x ∧ ∀ g ∈ x.vals, g.s.size ≤ Rows.uptoBulk d
section
variable {H : Type} {enc : TypeId × Value → H} {w : World} {spare : Nat → Bool}
set_option maxRecDepth 10000 in
theorem open_tup_b (n : Nat) (cs : List Value) (y : DataW H × List MemPlace) (h : DataW.trod enc Tryd.prog w 0 spare true n 31 cs = some y) (hl : cs.length = 4) : ∃ x, tupE.is w free x cs ∧ BTup x y.1 := by
  obtain ⟨xs, k, hk, hxy, _, hxl, hf⟩ := DataW.trod_struct Tryd.underlying31 h
  match cs, hl with
  | [c0, c1, c2, c3], _ =>
    match xs, hxl with
    | [y0, y1, y2], _ =>
      have g0 := hf 0 _ rfl
      have g1 := hf 1 _ rfl
      have g2 := hf 2 _ rfl
      simp [cells_ints, cells_vals, cells_per] at g0 g1 g2
      obtain ⟨v, lv, e0, hv, pv⟩ := open_sl_trod_b valE BVal Tryd.underlying26 cells_val open_val_b g0
      obtain ⟨u, lu, e2, hu, pu⟩ := open_sl_trod intE Is64 Tryd.underlying29 cells_int open_int_el g2
      obtain ⟨xs1, k1, _, _, _, hxl1, hf1⟩ := DataW.trod_struct Tryd.underlying28 g1
      match xs1, hxl1 with
      | [z0, z1], _ =>
        have f0 := hf1 0 _ rfl
        have f1 := hf1 1 _ rfl
        simp [cells_int] at f0 f1
        obtain ⟨k0, e3, _, w0⟩ := DataW.trod_int Tryd.underlying3 f0
        obtain ⟨k1, e4, _, w1⟩ := DataW.trod_int Tryd.underlying3 f1
        simp at e0 e2 e3 e4
        subst e0 e2 e3 e4
        refine ⟨⟨lv, k0, k1, lu⟩, ⟨_, _, rfl, hv, hu⟩, ⟨is64_of w0, is64_of w1, fun x hx => ?_, pu⟩, fun x hx => ?_⟩
        · obtain ⟨_, _, dx, _, _, hp⟩ := pv x hx
          exact hp.1
        · obtain ⟨elems, sp, dx, he, hm, hp⟩ := pv x hx
          rw [hxy]
          have h1 := bulk_mem elems dx hm
          have h2 := hp.2
          simp only [List.map_cons, List.map_nil, Rows.uptoBulk, Rows.uptoBulkAll, he]
          omega
set_option maxRecDepth 10000 in
/-- A slice of tuples whose reading's bulk is bounded. -/
theorem open_tups_b {v : Value} {d : DataW H} {ps : List MemPlace} {base n : Nat} (hv : Value.okWide Tryd.prog w .any base 23 v) (h : DataW.Trod enc Tryd.prog w 0 spare true 23 v d ps) (hb : Rows.uptoBulk d ≤ n) :
    ∃ l : List Tup, Tups w v l ∧ ∀ x ∈ l, IsTup x ∧ ∀ g ∈ x.vals, g.s.size ≤ n := by
  obtain ⟨l, h1, h2⟩ := open_sl_b tupE BTup Tryd.underlying23 cells_tup hv open_tup_b h
  refine ⟨l, h1, fun x hx => ?_⟩
  obtain ⟨elems, sp, dx, rfl, hm, hp, hq⟩ := h2 x hx
  refine ⟨hp, fun g hg => ?_⟩
  have h3 := hq g hg
  have h4 := bulk_mem elems dx hm
  rw [Rows.uptoBulk] at hb
  omega
theorem u8_of {n : Int} (h : (Lit.int .u8 n).wf = true) : ∃ k : Nat, n = (k : Int) ∧ k < 256 := by
  simp [Lit.wf, IntKind.min, IntKind.max, IntKind.signed, IntKind.bits] at h
  obtain ⟨k, rfl⟩ := Int.eq_ofNat_of_zero_le h.1
  exact ⟨k, rfl, by omega⟩
end
/-- Small tuples have keys. -/
theorem keyable_few {l : List Tup} {m : Nat} (hp : ∀ x ∈ l, IsTup x ∧ ∀ g ∈ x.vals, g.s.size ≤ 1048576) (hf : few l m = true) : ∀ x ∈ l, Keyable x.row := by
  obtain ⟨_, hs⟩ := few_of hf
  have hs6 : ∀ x ∈ l, x.vals.length ≤ 6 := by
    intro x hx
    simp [few, small] at hf
    exact (hf.2 x hx).1
  intro x hx
  obtain ⟨⟨_, _, h3, h4⟩, h5⟩ := hp x hx
  refine ⟨fun g hg => ⟨(h3 g hg).1, (h3 g hg).2.1, (h3 g hg).2.2⟩, h4, (hs x hx).1, (hs x hx).2, ?_⟩
  have key : ∀ (vs : List GVal), (∀ g ∈ vs, g ∈ x.vals) → (keyL vs).length ≤ 1100000 * vs.length := by
    intro vs
    induction vs with
    | nil => intro _; simp [keyL]
    | cons g vs ih =>
      intro hm
      have h6 := ih fun y hy => hm y (.tail _ hy)
      have h7 := hm g (.head _)
      have h8 := h5 g h7
      have h9 := keyOf_length g (h3 g h7).1 (h3 g h7).2.1 (by omega)
      have e : keyL (g :: vs) = keyOf g ++ keyL vs := by simp [keyL]
      rw [e, List.length_append, List.length_cons]
      omega
  have h6 := key x.vals fun g hg => hg
  have h7 := hs6 x hx
  show (keyL x.vals).length ≤ _
  omega
end Go.Proofs.YtnfccpkmaebbiaaDoor

namespace Go.Proofs.YtnfccpkmaebbiaaDoor
open Go.RowKit Go.Lib

section
variable {P : Program} {α : Type}
theorem setL_take_at (us xs : List Value) (s i k j : Nat) (hj : j + us.length ≤ s) (hk : k * s + s ≤ xs.length) : ((setL xs (k * s + j) us).drop (i * s)).take s = if i = k then setL ((xs.drop (i * s)).take s) j us else (xs.drop (i * s)).take s := by
  refine List.ext_getElem? fun m => ?_
  rw [List.getElem?_take, List.getElem?_drop, setL_get]
  by_cases hm : m < s
  · rw [if_pos hm]
    by_cases hik : i = k
    · subst hik
      rw [if_pos rfl, setL_get, List.length_take, List.length_drop, List.getElem?_take, if_pos hm, List.getElem?_drop]
      by_cases h : j ≤ m ∧ m < j + us.length
      · rw [if_pos (by omega), if_pos (by omega), show i * s + m - (i * s + j) = m - j by omega]
      · rw [if_neg (by omega), if_neg (by omega)]
    · rw [if_neg hik, List.getElem?_take, if_pos hm, List.getElem?_drop, if_neg]
      intro h
      rcases Nat.lt_or_gt_of_ne hik with h' | h'
      · have := Nat.mul_le_mul_right s (show i + 1 ≤ k from h'); rw [Nat.add_mul, Nat.one_mul] at this; omega
      · have := Nat.mul_le_mul_right s (show k + 1 ≤ i from h'); rw [Nat.add_mul, Nat.one_mul] at this; omega
  · rw [if_neg hm]
    split
    · rw [List.getElem?_eq_none]
      rw [setL_length, List.length_take]
      omega
    · rw [List.getElem?_take, if_neg hm]
/-- Some cells of one element are stored anew. -/
theorem Own.put_at {E : El P α} {w : World} {B g n c k j : Nat} {l : List α} {y : α} {us : List Value} (h : Own E w B (.slice (some ⟨g, 0, none⟩) n c) l) (hn : l.length = n) (hk : k < n) (hj : j + us.length ≤ E.size)
    (hx : ∀ x cs, l[k]? = some x → E.is w (fun m => some m = some g) x cs → E.is w (fun m => some m = some g) y (setL cs j us)) :
    Own E (w.setCells g (k * E.size + j) us) B (.slice (some ⟨g, 0, none⟩) n c) (l.set k y) ∧ w.grownBy (w.setCells g (k * E.size + j) us) (some g) := by
  obtain ⟨xs, h1, h2⟩ := h
  rw [hn] at h1
  obtain ⟨h3, h4⟩ := owns_setCells us w xs (k * E.size + j) h1
  have hK : Kept (fun m => some m = some g) w (w.setCells g (k * E.size + j) us) := .of_grown h4
  have hxl : xs.length = n * E.size := h1.1
  have hb : k * E.size + E.size ≤ xs.length := by
    have := Nat.mul_le_mul_right E.size (show k + 1 ≤ n from hk); rw [Nat.add_mul, Nat.one_mul] at this; omega
  refine ⟨⟨_, by rw [List.length_set, hn]; exact h3, fun i z hz => ?_⟩, h4⟩
  rw [setL_take_at us xs E.size i k j hj hb]
  by_cases hik : i = k
  · subst hik
    rw [if_pos rfl]
    rw [List.getElem?_set_self (by omega)] at hz
    cases hz
    have hl : l[i]? = some l[i] := List.getElem?_eq_getElem (by omega)
    exact E.kept (hx _ _ hl (h2 i _ hl)) hK
  · rw [if_neg hik]
    rw [List.getElem?_set_ne (Ne.symm hik)] at hz
    exact E.kept (h2 i z hz) hK
theorem Own.shape_pos {E : El P α} {w : World} {B : Nat} {v : Value} {l : List α} (h : Own E w B v l) (hp : 0 < l.length) : ∃ g c, v = .slice (some ⟨g, 0, none⟩) l.length c := by
  obtain ⟨xs, h1, _⟩ := h
  rcases h1.2 with ⟨_, h⟩ | ⟨g, cap, cur, e, _⟩
  · omega
  · exact ⟨g, cap, e⟩
end
end Go.Proofs.YtnfccpkmaebbiaaDoor
