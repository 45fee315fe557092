/- Opening a law's arguments where the reading's bulk is bounded: each text of a slice of values is at most as long as the bulk. No condition. -/
import Derived.Test.YthjgnpicnpfmjaaDoorOpenG
import Derived.Lib.Strings
namespace Go.Proofs.YthjgnpicnpfmjaaDoor
open Go.ChangeShapes Go.WideShapes Go.ChangeAt Go.RowKit
open Go.ChangeMaps (open_string)

theorem open_sl_b {H : Type} {enc : TypeId × Value → H} {P : Program} {w : World} {spare : Nat → Bool} {t e : TypeId} {v : Value} {d : DataW H} {ps : List MemPlace} {α : Type} {base : Nat} (E : El P α) (Pr : α → DataW H → Prop)
    (ht : P.underlying t = some (.slice e)) (hce : P.cellsOf e = E.size) (hv : Value.okWide P w .any base t v)
    (hel : ∀ n cs y, DataW.trod enc P w 0 spare true n e cs = some y → cs.length = E.size → ∃ x, E.is w free x cs ∧ Pr x y.1)
    (h : DataW.Trod enc P w 0 spare true t v d ps) : ∃ l : List α, Sl E w free v l ∧ ∀ x ∈ l, ∃ elems sp dx, d = .slice elems sp ∧ dx ∈ elems ∧ Pr x dx := by
  obtain ⟨a0, len0, cap0, rfl⟩ := okWide_slice ht hv
  obtain ⟨fuel, hf⟩ := h
  rcases Go.Deep.open_slice ht hf with ⟨hcs, _⟩ | ⟨a, len, cap, m, n, D, Pl, hcs, _, hl, hm, hmm, hxe, hx⟩
  · simp [Value.cells] at hcs
    obtain ⟨rfl, rfl, rfl⟩ := hcs
    exact ⟨[], Sl.nil _ _ _ _ _, by simp⟩
  · simp [Value.cells] at hcs
    obtain ⟨rfl, rfl, rfl⟩ := hcs
    have hd : d = .slice ((List.range len0).map D) ((List.range (m - len0)).map fun j => D (len0 + j)) := congrArg Prod.fst hxe
    have hlm : len0 ≤ m := by rw [hmm]; split <;> omega
    have hsz := E.pos
    have each : ∀ i : Fin len0, ∃ x cs, cs.length = E.size ∧ (E.is w free x cs ∧ Pr x (D i)) ∧ ∀ j u, cs[j]? = some u → w.cell? ((a.add (i * E.size)).add j) = some u := by
      intro i
      obtain ⟨cs, h1, h2⟩ := hx i (by omega)
      rw [hce] at h1
      obtain ⟨_, hlen, hcell⟩ := World.cells?_some h1
      obtain ⟨x, hxr⟩ := hel _ _ _ h2 hlen
      refine ⟨x, cs, hlen, hxr, fun j u hu => ?_⟩
      have hj : j < E.size := by rw [← hlen]; exact (List.getElem?_eq_some_iff.1 hu).1
      rw [hcell j hj]; exact hu
    let f : Fin len0 → α := fun i => Classical.choose (each i)
    have hf' : ∀ i : Fin len0, ∃ cs, cs.length = E.size ∧ (E.is w free (f i) cs ∧ Pr (f i) (D i)) ∧ ∀ j u, cs[j]? = some u → w.cell? ((a.add (i * E.size)).add j) = some u := fun i => Classical.choose_spec (each i)
    have hlen : (List.ofFn f).length = len0 := List.length_ofFn
    refine ⟨List.ofFn f, ⟨by rw [hlen]; unfold maxLen at hm; omega, some a, cap0, by rw [hlen], by rw [hlen]; exact hl, fun hpos => ?_⟩, fun x hx' => ?_⟩
    · rw [hlen] at hpos
      obtain ⟨b, o, spot⟩ := a
      have hspot : spot = none := by
        obtain ⟨cs, h1, _⟩ := hx 0 (by omega)
        rw [hce] at h1
        obtain ⟨_, hl0, hcell⟩ := World.cells?_some h1
        have h2 := hcell 0 hsz
        rw [List.getElem?_eq_getElem (by omega)] at h2
        have h3 : w.cell? ⟨b, o, spot⟩ = some (cs[0]'(by omega)) := by simpa [Addr.add] using h2
        cases spot with
        | none => rfl
        | some s => simp [World.cell?] at h3; split at h3 <;> simp at h3
      subst hspot
      refine ⟨b, o, rfl, id, fun i x hi => ?_⟩
      have hil : i < len0 := by rw [← hlen]; exact (List.getElem?_eq_some_iff.1 hi).1
      obtain ⟨cs, h1, h2, h3⟩ := hf' ⟨i, hil⟩
      have hxe : x = f ⟨i, hil⟩ := by
        rw [List.getElem?_ofFn] at hi
        simp [hil] at hi
        exact hi.symm
      refine ⟨cs, by rw [hxe]; exact h2.1, fun j u hu => ?_⟩
      have := h3 j u hu
      rw [Go.Deep.add_add] at this
      rw [Addr.add_lit] at this
      rw [Nat.add_assoc]; exact this
    · obtain ⟨i, rfl⟩ := List.mem_ofFn.1 hx'
      exact ⟨_, _, D i, hd, List.mem_map.2 ⟨i, List.mem_range.2 i.2, rfl⟩, (hf' i).choose_spec.2.1.2⟩
theorem bulk_mem {H : Type} (l : List (DataW H)) : ∀ d ∈ l, Rows.uptoBulk d ≤ Rows.uptoBulkAll l := by
  induction l with
  | nil => intro d h; simp at h
  | cons e l ih =>
    intro d h
    rw [Rows.uptoBulkAll]
    rcases List.mem_cons.1 h with rfl | h
    · omega
    · have := ih d h; omega
/-- Its numbers are a machine's; its text is no longer than the datum's bulk. -/
def BVal {H : Type} (x : GVal) (d : DataW H) : Prop := IsVal x ∧ x.s.size ≤ Rows.uptoBulk d
section
variable {H : Type} {enc : TypeId × Value → H} {w : World} {spare : Nat → Bool}
set_option maxRecDepth 10000 in
theorem open_val_b (n : Nat) (cs : List Value) (y : DataW H × List MemPlace) (h : DataW.trod enc Tryd.prog w 0 spare true n 23 cs = some y) (hl : cs.length = 3) : ∃ x, valE.is w free x cs ∧ BVal x y.1 := by
  obtain ⟨xs, k, hk, hxy, hy2, hxl, hf⟩ := DataW.trod_struct Tryd.underlying23 h
  match cs, hl with
  | [c0, c1, c2], _ =>
    match xs, hxl with
    | [y0, y1, y2], _ =>
      have g0 := hf 0 _ rfl
      have g1 := hf 1 _ rfl
      have g2 := hf 2 _ rfl
      simp [cells_int, cells_i64, cells_string] at g0 g1 g2
      obtain ⟨k0, e0, _, w0⟩ := DataW.trod_int Tryd.underlying3 g0
      obtain ⟨k1, e1, _, w1⟩ := DataW.trod_int Tryd.underlying2 g1
      obtain ⟨s, e2, e3, hs⟩ := DataW.trod_string Tryd.underlying9 g2
      simp at e0 e1 e2
      subst e0 e1 e2
      refine ⟨⟨k0, k1, s⟩, rfl, ⟨is64_of w0, is64_of w1, hs⟩, ?_⟩
      rw [hxy, e3]
      have hz := Lib.size_eq s
      simp only [List.map_cons, List.map_nil, Rows.uptoBulk, Rows.uptoBulkAll]
      omega
set_option maxRecDepth 10000 in
/-- A slice of values whose reading's bulk is bounded. -/
theorem open_vals_b {v : Value} {d : DataW H} {ps : List MemPlace} {base n : Nat} (hv : Value.okWide Tryd.prog w .any base 36 v) (h : DataW.Trod enc Tryd.prog w 0 spare true 36 v d ps) (hb : Rows.uptoBulk d ≤ n) :
    ∃ l : List GVal, Sl valE w free v l ∧ ∀ x ∈ l, IsVal x ∧ x.s.size ≤ n := by
  obtain ⟨l, h1, h2⟩ := open_sl_b valE BVal Tryd.underlying36 cells_val hv open_val_b h
  refine ⟨l, h1, fun x hx => ?_⟩
  obtain ⟨elems, sp, dx, rfl, hm, hp, hq⟩ := h2 x hx
  refine ⟨hp, ?_⟩
  have := bulk_mem elems dx hm
  rw [Rows.uptoBulk] at hb
  omega
/-- A small argument's bulk. -/
theorem bulk_le {ds : List (DataW H)} (hk : Rows.uptoSmall H ds = true) {d : DataW H} (hd : d ∈ ds) : Rows.uptoBulk d ≤ 1048576 := by
  have h1 := bulk_mem ds d hd
  have h2 : Rows.uptoBulkAll ds ≤ 1048576 := of_decide_eq_true hk
  omega
set_option maxRecDepth 10000 in
theorem open_u8v {base : Nat} {v : Value} {d : DataW H} {ps : List MemPlace}
    (hv : Value.okWide Tryd.prog w .any base 5 v) (h : DataW.Trod enc Tryd.prog w 0 spare true 5 v d ps) : ∃ x : Nat, v = .int .u8 (x : Int) ∧ x < 256 := by
  obtain ⟨n, rfl, _, _, hw⟩ := open_int Tryd.underlying5 hv h
  simp [Lit.wf, IntKind.min, IntKind.max, IntKind.signed, IntKind.bits] at hw
  obtain ⟨k, rfl⟩ := Int.eq_ofNat_of_zero_le hw.1
  exact ⟨k, rfl, by omega⟩
end
end Go.Proofs.YthjgnpicnpfmjaaDoor
