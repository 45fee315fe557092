/- From a walk ('returns true, nothing that was there has turned') to the post of a law's row; the witness' world, in which the listed tables are laid. -/
import Derived.Test.YthjgnpicnpfmjaaDoorRows
import Derived.Test.YthjgnpicnpfmjaaDoorBase
import Derived.ProofKit
import Derived.OpenShut
import Derived.Carry
import Derived.Deep.DeepHandedRow
import Derived.Lib.LaidTab
import Derived.Shelf.Vars
import Derived.Deep.Slices
namespace Go.Proofs.YthjgnpicnpfmjaaDoor
open Go.ChangeShapes Go.WideShapes Go.ChangeAt Go.RowKit

theorem own : ownKnob Tryd.prog.godebug = none := by kernel_rfl
theorem laidOut : laidOutB Tryd.prog = true := by kernel_rfl

theorem trodAll_below {H : Type} {enc : TypeId × Value → H} {W W' : World} (hb : Below W.heap.size W W') : ∀ (ts : List TypeId) (vs : List Value) (ds : List (DataW H)) (ps : List MemPlace),
    (∀ t ∈ ts, Tryd.prog.readableRec t = true ∧ t < Tryd.prog.types.size) → DataW.TrodAll enc Tryd.prog W 0 (fun _ => true) true ts vs ds ps → (∀ x ∈ ps, x.block < W.heap.size) →
    DataW.TrodAll enc Tryd.prog W' 0 (fun b => decide (b < W.heap.size)) true ts vs ds ps := by
  intro ts
  induction ts with
  | nil =>
    intro vs ds ps _ h _
    cases vs <;> cases ds <;> simp [DataW.TrodAll] at h ⊢
    exact h
  | cons t ts ih =>
    intro vs ds ps hr h hlt
    cases vs with
    | nil => simp [DataW.TrodAll] at h
    | cons v vs =>
      cases ds with
      | nil => simp [DataW.TrodAll] at h
      | cons d ds =>
        obtain ⟨p, q, h1, h2, rfl⟩ := h
        have ht := hr t (List.mem_cons_self ..)
        exact ⟨p, q, Below.trod laidOut ht.1 ht.2 h1 hb (fun x hx => hlt x (List.mem_append_left _ hx)), ih vs ds q (fun t' h' => hr t' (List.mem_cons_of_mem _ h')) h2 (fun x hx => hlt x (List.mem_append_right _ hx)), rfl⟩

/-- The post of a law's row. -/
theorem law_post {H : Type} {enc : TypeId × Value → H} {f : Func} {s : ChangeSpec} {W W' : World} {args : Array Value} {ds gs : List (DataW H)} {before : List MemPlace}
    (hvars : s.vars = []) (hres : f.resultTypes = #[4]) (hr : ∀ t ∈ f.params.toList, Tryd.prog.readableRec t = true ∧ t < Tryd.prog.types.size)
    (hs : s.fn H (ds ++ gs) = { results := [.lit (.bool true)], args := ds })
    (hW : DataW.Whole enc Tryd.prog f.params.toList s.vars false W args.toList ds gs before) (hb : Below W.heap.size W W') :
    s.post enc Tryd.prog f false true false false W args (.bool true) W' := by
  have hlt : ∀ p ∈ before, p.block < W.heap.size := fun p hp => hW.lt p hp
  obtain ⟨p, q, hA, hV, hpq, hz, hn⟩ := id hW
  have hq : q = [] := by
    rw [hvars] at hV
    cases gs with
    | nil => exact hV
    | cons _ _ => simp [DataW.TrodVars] at hV
  subst hq
  rw [List.append_nil] at hpq
  refine ⟨ds, gs, before, [], p, [], hW, ?_, ?_, ?_, World.keptBut_mono (fun x hx => ⟨hx, ?_⟩) (hb.frame (· ∈ before)), fun h => by cases h⟩
  · rw [hs, hres]
    exact trodAll_cons_mk (shut_bool Tryd.underlying4 _) trodAll_mk0
  · rw [hs]
    exact trodAll_below hb _ _ _ _ hr hA (fun x hx => hlt x (by rw [hpq]; exact hx))
  · rw [hs, hvars]; rfl
  · rw [hpq] at hx; exact .inr (.inl hx)

/-- A slice whose elements (each of 'size' cells) read as the elements of a list. -/
def SliceOf {α : Type} (w : World) (size : Nat) (R : World → α → List Value → Prop) (v : Value) (l : List α) : Prop :=
  l.length ≤ 9223372036854775807 ∧ ∃ (a : Option Addr) (c : Nat), v = .slice a l.length c ∧ l.length ≤ c ∧
    (0 < l.length → ∃ b o, a = some ⟨b, o, none⟩ ∧ ∀ i x, l[i]? = some x → ∃ cs, cs.length = size ∧ R w x cs ∧ ∀ j u, cs[j]? = some u → w.cell? ⟨b, o + i * size + j, none⟩ = some u)

theorem open_sliceOf {H : Type} {enc : TypeId × Value → H} {P : Program} {w : World} {spare : Nat → Bool} {t e : TypeId} {v : Value} {d : DataW H} {ps : List MemPlace} {α : Type} {R : World → α → List Value → Prop} {size : Nat} {base : Nat}
    (ht : P.underlying t = some (.slice e)) (hce : P.cellsOf e = size) (hsz : 0 < size) (hv : Value.okWide P w .any base t v)
    (hel : ∀ n cs y, DataW.trod enc P w 0 spare true n e cs = some y → cs.length = size → ∃ x, R w x cs)
    (h : DataW.Trod enc P w 0 spare true t v d ps) : ∃ l : List α, SliceOf w size R v l := by
  obtain ⟨a0, len, cap, rfl⟩ := okWide_slice ht hv
  obtain ⟨fuel, hf⟩ := h
  rcases Go.Deep.open_slice ht hf with ⟨hcs, _⟩ | ⟨a, len', cap', m, n, D, Pl, hcs, _, hl, hm, hmm, _, hx⟩
  · simp [Value.cells] at hcs
    obtain ⟨rfl, rfl, rfl⟩ := hcs
    exact ⟨[], by simp, none, 0, rfl, by simp, by simp⟩
  · simp [Value.cells] at hcs
    obtain ⟨rfl, rfl, rfl⟩ := hcs
    have hlm : len ≤ m := by rw [hmm]; split <;> omega
    have each : ∀ i : Fin len, ∃ x cs, cs.length = size ∧ R w x cs ∧ ∀ j u, cs[j]? = some u → w.cell? ((a.add (i * size)).add j) = some u := by
      intro i
      obtain ⟨cs, h1, h2⟩ := hx i (by omega)
      rw [hce] at h1
      obtain ⟨_, hlen, hcell⟩ := World.cells?_some h1
      obtain ⟨x, hxr⟩ := hel _ _ _ h2 hlen
      refine ⟨x, cs, hlen, hxr, fun j u hu => ?_⟩
      have hj : j < size := by rw [← hlen]; exact (List.getElem?_eq_some_iff.1 hu).1
      rw [hcell j hj]; exact hu
    let f : Fin len → α := fun i => Classical.choose (each i)
    have hf' : ∀ i : Fin len, ∃ cs, cs.length = size ∧ R w (f i) cs ∧ ∀ j u, cs[j]? = some u → w.cell? ((a.add (i * size)).add j) = some u := fun i => Classical.choose_spec (each i)
    have hlen : (List.ofFn f).length = len := List.length_ofFn
    refine ⟨List.ofFn f, by rw [hlen]; unfold maxLen at hm; omega, some a, cap, by rw [hlen], by rw [hlen]; exact hl, fun hpos => ?_⟩
    rw [hlen] at hpos
    obtain ⟨b, o, spot⟩ := a
    have hspot : spot = none := by
      obtain ⟨cs, h1, _⟩ := hx 0 (by omega)
      rw [hce] at h1
      obtain ⟨_, hl0, hcell⟩ := World.cells?_some h1
      have h2 := hcell 0 hsz
      rw [List.getElem?_eq_getElem (by omega)] at h2
      have h3 : w.cell? ⟨b, o, spot⟩ = some (cs[0]'(by omega)) := by simpa [Addr.add] using h2
      cases spot with
      | none => rfl
      | some s => simp [World.cell?] at h3; split at h3 <;> simp at h3
    subst hspot
    refine ⟨b, o, rfl, fun i x hi => ?_⟩
    have hil : i < len := by rw [← hlen]; exact (List.getElem?_eq_some_iff.1 hi).1
    obtain ⟨cs, h1, h2, h3⟩ := hf' ⟨i, hil⟩
    have hxe : x = f ⟨i, hil⟩ := by
      rw [List.getElem?_ofFn] at hi
      simp [hil] at hi
      exact hi.symm
    refine ⟨cs, h1, by rw [hxe]; exact h2, fun j u hu => ?_⟩
    have := h3 j u hu
    rw [Go.Deep.add_add] at this
    rw [Addr.add_lit] at this
    rw [Nat.add_assoc]; exact this

mutual
/-- The cells of a datum of numbers. -/
def litCells : DataW Unit → List Value
  | .lit (.int k n) => [.int k n]
  | .agg parts => litCellsAll parts
  | _ => []
def litCellsAll : List (DataW Unit) → List Value
  | [] => []
  | d :: r => litCells d ++ litCellsAll r
end
end Go.Proofs.YthjgnpicnpfmjaaDoor
