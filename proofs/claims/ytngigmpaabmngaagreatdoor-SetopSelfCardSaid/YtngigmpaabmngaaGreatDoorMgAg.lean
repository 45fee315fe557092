/- A part of the proofs: OpenC. No condition beside sizes and tables that read as laid. -/
import Derived.Test.YtngigmpaabmngaaGreatDoorMgAf
import Derived.Test.YtngigmpaabmngaaGreatDoorMgAc
namespace Go.Proofs.YtngigmpaabmngaaGreatDoor
open Go.ChangeShapes Go.WideShapes Go.ChangeAt Go.RowKit

theorem open_sl_trod_b {H : Type} {enc : TypeId × Value → H} {P : Program} {w : World} {spare : Nat → Bool} {t e : TypeId} {cs0 : List Value} {y0 : DataW H × List MemPlace} {n0 : Nat} {α : Type} (E : El P α) (Pr : α → DataW H → Prop)
    (ht : P.underlying t = some (.slice e)) (hce : P.cellsOf e = E.size)
    (hel : ∀ n cs y, DataW.trod enc P w 0 spare true n e cs = some y → cs.length = E.size → ∃ x, E.is w free x cs ∧ Pr x y.1)
    (h : DataW.trod enc P w 0 spare true n0 t cs0 = some y0) : ∃ (v : Value) (l : List α), cs0 = [v] ∧ Sl E w free v l ∧ ∀ x ∈ l, ∃ elems sp dx, y0.1 = .slice elems sp ∧ dx ∈ elems ∧ Pr x dx := by
  rcases Go.Deep.open_slice ht h with ⟨hcs, _⟩ | ⟨a, len, cap, m, n, D, Pl, hcs, _, hl, hm, hmm, hxe0, hx⟩
  · exact ⟨_, [], hcs, Sl.nil _ _ _ _ _, by simp⟩
  · have hd : y0.1 = .slice ((List.range len).map D) ((List.range (m - len)).map fun j => D (len + j)) := congrArg Prod.fst hxe0
    have hlm : len ≤ m := by rw [hmm]; split <;> omega
    have hsz := E.pos
    have each : ∀ i : Fin len, ∃ x cs, cs.length = E.size ∧ (E.is w free x cs ∧ Pr x (D i)) ∧ ∀ j u, cs[j]? = some u → w.cell? ((a.add (i * E.size)).add j) = some u := by
      intro i
      obtain ⟨cs, h1, h2⟩ := hx i (by omega)
      rw [hce] at h1
      obtain ⟨_, hlen, hcell⟩ := World.cells?_some h1
      obtain ⟨x, hxr⟩ := hel _ _ _ h2 hlen
      refine ⟨x, cs, hlen, hxr, fun j u hu => ?_⟩
      have hj : j < E.size := by rw [← hlen]; exact (List.getElem?_eq_some_iff.1 hu).1
      rw [hcell j hj]; exact hu
    let f : Fin len → α := fun i => Classical.choose (each i)
    have hf' : ∀ i : Fin len, ∃ cs, cs.length = E.size ∧ (E.is w free (f i) cs ∧ Pr (f i) (D i)) ∧ ∀ j u, cs[j]? = some u → w.cell? ((a.add (i * E.size)).add j) = some u := fun i => Classical.choose_spec (each i)
    have hlen : (List.ofFn f).length = len := List.length_ofFn
    refine ⟨_, List.ofFn f, hcs, ⟨by rw [hlen]; unfold maxLen at hm; omega, some a, cap, by rw [hlen], by rw [hlen]; exact hl, fun hpos => ?_⟩, fun x hx => ?_⟩
    · rw [hlen] at hpos
      obtain ⟨b, o, spot⟩ := a
      have hspot : spot = none := by
        obtain ⟨cs, h1, _⟩ := hx 0 (by omega)
        rw [hce] at h1
        obtain ⟨_, hl0, hcell⟩ := World.cells?_some h1
        have h2 := hcell 0 hsz
        rw [List.getElem?_eq_getElem (by omega)] at h2
        have h3 : w.cell? ⟨b, o, spot⟩ = some (cs[0]'(by omega)) := by simpa [Addr.add] using h2
        cases spot with
        | none => rfl
        | some s => simp [World.cell?] at h3; split at h3 <;> simp at h3
      subst hspot
      refine ⟨b, o, rfl, id, fun i x hi => ?_⟩
      have hil : i < len := by rw [← hlen]; exact (List.getElem?_eq_some_iff.1 hi).1
      obtain ⟨cs, h1, h2, h3⟩ := hf' ⟨i, hil⟩
      have hxe : x = f ⟨i, hil⟩ := by
        rw [List.getElem?_ofFn] at hi
        simp [hil] at hi
        exact hi.symm
      refine ⟨cs, by rw [hxe]; exact h2.1, fun j u hu => ?_⟩
      have := h3 j u hu
      rw [Go.Deep.add_add] at this
      rw [Addr.add_lit] at this
      rw [Nat.add_assoc]; exact this
    · obtain ⟨i, rfl⟩ := List.mem_ofFn.1 hx
      exact ⟨_, _, D i, hd, List.mem_map.2 ⟨i, List.mem_range.2 i.2, rfl⟩, (hf' i).choose_spec.2.1.2⟩
/-- A tuple whose numbers are a machine's and whose texts are no longer than the datum's bulk. -/
def BTup {H : Type} (x : Tup) (d : DataW H) : Prop := IsTup x ∧ ∀ g ∈ x.vals, g.s.size ≤ Rows.uptoBulk d
section
variable {H : Type} {enc : TypeId × Value → H} {w : World} {spare : Nat → Bool}
set_option maxRecDepth 10000 in
theorem open_tup_b (n : Nat) (cs : List Value) (y : DataW H × List MemPlace) (h : DataW.trod enc Tryz.prog w 0 spare true n 52 cs = some y) (hl : cs.length = 4) : ∃ x, tupE.is w free x cs ∧ BTup x y.1 := by
  obtain ⟨xs, k, hk, hxy, _, hxl, hf⟩ := DataW.trod_struct Tryz.underlying52 h
  match cs, hl with
  | [c0, c1, c2, c3], _ =>
    match xs, hxl with
    | [y0, y1, y2], _ =>
      have g0 := hf 0 _ rfl
      have g1 := hf 1 _ rfl
      have g2 := hf 2 _ rfl
      simp [cells_ints, cells_vals, cells_per] at g0 g1 g2
      obtain ⟨v, lv, e0, hv, pv⟩ := open_sl_trod_b valE BVal Tryz.underlying37 cells_val open_val_b g0
      obtain ⟨u, lu, e2, hu, pu⟩ := open_sl_trod intE Is64 Tryz.underlying23 cells_int open_int_el g2
      obtain ⟨xs1, k1, _, _, _, hxl1, hf1⟩ := DataW.trod_struct Tryz.underlying50 g1
      match xs1, hxl1 with
      | [z0, z1], _ =>
        have f0 := hf1 0 _ rfl
        have f1 := hf1 1 _ rfl
        simp [cells_int] at f0 f1
        obtain ⟨k0, e3, _, w0⟩ := DataW.trod_int Tryz.underlying3 f0
        obtain ⟨k1, e4, _, w1⟩ := DataW.trod_int Tryz.underlying3 f1
        simp at e0 e2 e3 e4
        subst e0 e2 e3 e4
        refine ⟨⟨lv, k0, k1, lu⟩, ⟨_, _, rfl, hv, hu⟩, ⟨is64_of w0, is64_of w1, fun x hx => ?_, pu⟩, fun x hx => ?_⟩
        · obtain ⟨_, _, dx, _, _, hp⟩ := pv x hx
          exact hp.1
        · obtain ⟨elems, sp, dx, he, hm, hp⟩ := pv x hx
          rw [hxy]
          have h1 := bulk_mem elems dx hm
          have h2 := hp.2
          simp only [List.map_cons, List.map_nil, Rows.uptoBulk, Rows.uptoBulkAll, he]
          omega
set_option maxRecDepth 10000 in
/-- A slice of tuples whose reading's bulk is bounded. -/
theorem open_tups_b {v : Value} {d : DataW H} {ps : List MemPlace} {base n : Nat} (hv : Value.okWide Tryz.prog w .any base 24 v) (h : DataW.Trod enc Tryz.prog w 0 spare true 24 v d ps) (hb : Rows.uptoBulk d ≤ n) :
    ∃ l : List Tup, Tups w v l ∧ ∀ x ∈ l, IsTup x ∧ ∀ g ∈ x.vals, g.s.size ≤ n := by
  obtain ⟨l, h1, h2⟩ := open_sl_b tupE BTup Tryz.underlying24 cells_tup hv open_tup_b h
  refine ⟨l, h1, fun x hx => ?_⟩
  obtain ⟨elems, sp, dx, rfl, hm, hp, hq⟩ := h2 x hx
  refine ⟨hp, fun g hg => ?_⟩
  have h3 := hq g hg
  have h4 := bulk_mem elems dx hm
  rw [Rows.uptoBulk] at hb
  omega
theorem u8_of {n : Int} (h : (Lit.int .u8 n).wf = true) : ∃ k : Nat, n = (k : Int) ∧ k < 256 := by
  simp [Lit.wf, IntKind.min, IntKind.max, IntKind.signed, IntKind.bits] at h
  obtain ⟨k, rfl⟩ := Int.eq_ofNat_of_zero_le h.1
  exact ⟨k, rfl, by omega⟩
end
/-- Small tuples have keys. -/
theorem keyable_few {l : List Tup} {m : Nat} (hp : ∀ x ∈ l, IsTup x ∧ ∀ g ∈ x.vals, g.s.size ≤ 1048576) (hf : few l m = true) : ∀ x ∈ l, Keyable x.row := by
  obtain ⟨_, hs⟩ := few_of hf
  have hs6 : ∀ x ∈ l, x.vals.length ≤ 6 := by
    intro x hx
    simp [few, small] at hf
    exact (hf.2 x hx).1
  intro x hx
  obtain ⟨⟨_, _, h3, h4⟩, h5⟩ := hp x hx
  refine ⟨fun g hg => ⟨(h3 g hg).1, (h3 g hg).2.1, (h3 g hg).2.2⟩, h4, (hs x hx).1, (hs x hx).2, ?_⟩
  have key : ∀ (vs : List GVal), (∀ g ∈ vs, g ∈ x.vals) → (keyL vs).length ≤ 1100000 * vs.length := by
    intro vs
    induction vs with
    | nil => intro _; simp [keyL]
    | cons g vs ih =>
      intro hm
      have h6 := ih fun y hy => hm y (.tail _ hy)
      have h7 := hm g (.head _)
      have h8 := h5 g h7
      have h9 := keyOf_length g (h3 g h7).1 (h3 g h7).2.1 (by omega)
      have e : keyL (g :: vs) = keyOf g ++ keyL vs := by simp [keyL]
      rw [e, List.length_append, List.length_cons]
      omega
  have h6 := key x.vals fun g hg => hg
  have h7 := hs6 x hx
  show (keyL x.vals).length ≤ _
  omega
end Go.Proofs.YtngigmpaabmngaaGreatDoor
