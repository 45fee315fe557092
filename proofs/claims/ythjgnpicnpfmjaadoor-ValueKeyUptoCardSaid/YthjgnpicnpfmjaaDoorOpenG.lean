/- Opening a law's arguments: slices of elements, numbers, values. No condition. -/
import Derived.Test.YthjgnpicnpfmjaaDoorLift
import Derived.Test.YthjgnpicnpfmjaaDoorGv
namespace Go.Proofs.YthjgnpicnpfmjaaDoor
open Go.ChangeShapes Go.WideShapes Go.ChangeAt Go.RowKit
open Go.ChangeMaps (open_string)

theorem open_sl_trod {H : Type} {enc : TypeId × Value → H} {P : Program} {w : World} {spare : Nat → Bool} {t e : TypeId} {cs0 : List Value} {y0 : DataW H × List MemPlace} {n0 : Nat} {α : Type} (E : El P α) (Pr : α → Prop)
    (ht : P.underlying t = some (.slice e)) (hce : P.cellsOf e = E.size)
    (hel : ∀ n cs y, DataW.trod enc P w 0 spare true n e cs = some y → cs.length = E.size → ∃ x, E.is w free x cs ∧ Pr x)
    (h : DataW.trod enc P w 0 spare true n0 t cs0 = some y0) : ∃ (v : Value) (l : List α), cs0 = [v] ∧ Sl E w free v l ∧ ∀ x ∈ l, Pr x := by
  rcases Go.Deep.open_slice ht h with ⟨hcs, _⟩ | ⟨a, len, cap, m, n, D, Pl, hcs, _, hl, hm, hmm, _, hx⟩
  · exact ⟨_, [], hcs, Sl.nil _ _ _ _ _, by simp⟩
  · have hlm : len ≤ m := by rw [hmm]; split <;> omega
    have hsz := E.pos
    have each : ∀ i : Fin len, ∃ x cs, cs.length = E.size ∧ (E.is w free x cs ∧ Pr x) ∧ ∀ j u, cs[j]? = some u → w.cell? ((a.add (i * E.size)).add j) = some u := by
      intro i
      obtain ⟨cs, h1, h2⟩ := hx i (by omega)
      rw [hce] at h1
      obtain ⟨_, hlen, hcell⟩ := World.cells?_some h1
      obtain ⟨x, hxr⟩ := hel _ _ _ h2 hlen
      refine ⟨x, cs, hlen, hxr, fun j u hu => ?_⟩
      have hj : j < E.size := by rw [← hlen]; exact (List.getElem?_eq_some_iff.1 hu).1
      rw [hcell j hj]; exact hu
    let f : Fin len → α := fun i => Classical.choose (each i)
    have hf' : ∀ i : Fin len, ∃ cs, cs.length = E.size ∧ (E.is w free (f i) cs ∧ Pr (f i)) ∧ ∀ j u, cs[j]? = some u → w.cell? ((a.add (i * E.size)).add j) = some u := fun i => Classical.choose_spec (each i)
    have hlen : (List.ofFn f).length = len := List.length_ofFn
    refine ⟨_, List.ofFn f, hcs, ⟨by rw [hlen]; unfold maxLen at hm; omega, some a, cap, by rw [hlen], by rw [hlen]; exact hl, fun hpos => ?_⟩, fun x hx => ?_⟩
    · rw [hlen] at hpos
      obtain ⟨b, o, spot⟩ := a
      have hspot : spot = none := by
        obtain ⟨cs, h1, _⟩ := hx 0 (by omega)
        rw [hce] at h1
        obtain ⟨_, hl0, hcell⟩ := World.cells?_some h1
        have h2 := hcell 0 hsz
        rw [List.getElem?_eq_getElem (by omega)] at h2
        have h3 : w.cell? ⟨b, o, spot⟩ = some (cs[0]'(by omega)) := by simpa [Addr.add] using h2
        cases spot with
        | none => rfl
        | some s => simp [World.cell?] at h3; split at h3 <;> simp at h3
      subst hspot
      refine ⟨b, o, rfl, id, fun i x hi => ?_⟩
      have hil : i < len := by rw [← hlen]; exact (List.getElem?_eq_some_iff.1 hi).1
      obtain ⟨cs, h1, h2, h3⟩ := hf' ⟨i, hil⟩
      have hxe : x = f ⟨i, hil⟩ := by
        rw [List.getElem?_ofFn] at hi
        simp [hil] at hi
        exact hi.symm
      refine ⟨cs, by rw [hxe]; exact h2.1, fun j u hu => ?_⟩
      have := h3 j u hu
      rw [Go.Deep.add_add] at this
      rw [Addr.add_lit] at this
      rw [Nat.add_assoc]; exact this
    · obtain ⟨i, rfl⟩ := List.mem_ofFn.1 hx
      exact (hf' i).choose_spec.2.1.2
theorem open_sl {H : Type} {enc : TypeId × Value → H} {P : Program} {w : World} {spare : Nat → Bool} {t e : TypeId} {v : Value} {d : DataW H} {ps : List MemPlace} {α : Type} {base : Nat} (E : El P α) (Pr : α → Prop)
    (ht : P.underlying t = some (.slice e)) (hce : P.cellsOf e = E.size) (hv : Value.okWide P w .any base t v)
    (hel : ∀ n cs y, DataW.trod enc P w 0 spare true n e cs = some y → cs.length = E.size → ∃ x, E.is w free x cs ∧ Pr x)
    (h : DataW.Trod enc P w 0 spare true t v d ps) : ∃ l : List α, Sl E w free v l ∧ ∀ x ∈ l, Pr x := by
  obtain ⟨a0, len, cap, rfl⟩ := okWide_slice ht hv
  obtain ⟨fuel, hf⟩ := h
  obtain ⟨v, l, hcs, hl⟩ := open_sl_trod E Pr ht hce hel hf
  simp [Value.cells] at hcs
  subst hcs
  exact ⟨l, hl⟩
theorem cells_int : Tryd.prog.cellsOf 3 = 1 := by kernel_rfl
theorem cells_i64 : Tryd.prog.cellsOf 2 = 1 := by kernel_rfl
theorem cells_string : Tryd.prog.cellsOf 9 = 1 := by kernel_rfl
theorem cells_val : Tryd.prog.cellsOf 23 = 3 := by kernel_rfl
/-- An int. -/
def Is64 (x : Int) : Prop := -9223372036854775808 ≤ x ∧ x ≤ 9223372036854775807
section
variable {H : Type} {enc : TypeId × Value → H} {w : World} {spare : Nat → Bool}
theorem is64_of {n : Int} (h : (Lit.int .i64 n).wf = true) : Is64 n := by
  simp [Lit.wf, IntKind.min, IntKind.max, IntKind.signed, IntKind.bits] at h
  unfold Is64
  omega
theorem open_int_el (n : Nat) (cs : List Value) (y : DataW H × List MemPlace) (h : DataW.trod enc Tryd.prog w 0 spare true n 3 cs = some y) (hl : cs.length = 1) : ∃ x, intE.is w free x cs ∧ Is64 x := by
  match cs, hl with
  | [c0], _ =>
    obtain ⟨k0, e0, _, hw⟩ := DataW.trod_int Tryd.underlying3 h
    simp at e0
    subst e0
    exact ⟨k0, rfl, is64_of hw⟩
/-- A value whose numbers and text are a machine's. -/
def IsVal (x : GVal) : Prop := Is64 x.kind ∧ Is64 x.n ∧ x.s.size ≤ maxLen
set_option maxRecDepth 10000 in
theorem open_val_el (n : Nat) (cs : List Value) (y : DataW H × List MemPlace) (h : DataW.trod enc Tryd.prog w 0 spare true n 23 cs = some y) (hl : cs.length = 3) : ∃ x, valE.is w free x cs ∧ IsVal x := by
  obtain ⟨xs, k, hk, hxy, _, hxl, hf⟩ := DataW.trod_struct Tryd.underlying23 h
  match cs, hl with
  | [c0, c1, c2], _ =>
    match xs, hxl with
    | [y0, y1, y2], _ =>
      have g0 := hf 0 _ rfl
      have g1 := hf 1 _ rfl
      have g2 := hf 2 _ rfl
      simp [cells_int, cells_i64, cells_string] at g0 g1 g2
      obtain ⟨k0, e0, _, w0⟩ := DataW.trod_int Tryd.underlying3 g0
      obtain ⟨k1, e1, _, w1⟩ := DataW.trod_int Tryd.underlying2 g1
      obtain ⟨s, e2, _, hs⟩ := DataW.trod_string Tryd.underlying9 g2
      simp at e0 e1 e2
      subst e0 e1 e2
      exact ⟨⟨k0, k1, s⟩, rfl, is64_of w0, is64_of w1, hs⟩
set_option maxRecDepth 10000 in
/-- An argument that is a value. -/
theorem open_valarg {base : Nat} {v : Value} {d : DataW H} {ps : List MemPlace} (hv : Value.okWide Tryd.prog w .any base 23 v) (h : DataW.Trod enc Tryd.prog w 0 spare true 23 v d ps) : ∃ x : GVal, v = aggG x ∧ IsVal x := by
  obtain ⟨cs, rfl, hs⟩ := okWide_struct Tryd.underlying23 hv
  obtain ⟨fuel, hf⟩ := h
  obtain ⟨x, hx, hp⟩ := open_val_el _ _ _ hf (by rw [cells_val] at hs; simpa [Value.cells] using hs)
  refine ⟨x, ?_, hp⟩
  have e : cs.toList = valOf x := hx
  obtain ⟨l⟩ := cs
  simp at e
  subst e
  rfl
end
end Go.Proofs.YthjgnpicnpfmjaaDoor
