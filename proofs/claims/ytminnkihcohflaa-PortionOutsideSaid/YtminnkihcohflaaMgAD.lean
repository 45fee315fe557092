/- A part of the proofs of the laws of chapter 19: OpenX. No condition beside sizes. -/
import Derived.Test.YtminnkihcohflaaMgT
namespace Go.Proofs.Ytminnkihcohflaa
open Go.ChangeShapes Go.WideShapes Go.ChangeAt Go.RowKit

theorem okWide_arr {P : Program} {w : World} {r : Reach} {base : Nat} {t e : TypeId} {n : Nat} {v : Value} (ht : P.underlying t = some (.array n e)) (h : Value.okWide P w r base t v) : ∃ cs, v = .agg cs ∧ cs.size = P.cellsOf t := by
  simp only [Value.okWide, ht] at h
  obtain ⟨cs, h1, h2, _⟩ := h
  exact ⟨cs, h1, h2⟩
theorem cells_u4 : Try.prog.cellsOf 74 = 4 := by kernel_rfl
section
variable {H : Type} {enc : TypeId × Value → H} {w : World} {spare : Nat → Bool}
set_option maxRecDepth 10000 in
theorem open_u4_el (n : Nat) (cs : List Value) (y : DataW H × List MemPlace) (h : DataW.trod enc Try.prog w 0 spare true n 74 cs = some y) (hl : cs.length = 4) : ∃ x0 x1 x2 x3 : Nat, cs = [.int .u16 (x0 : Int), .int .u16 (x1 : Int), .int .u16 (x2 : Int), .int .u16 (x3 : Int)] ∧ x0 < 65536 ∧ x1 < 65536 ∧ x2 < 65536 ∧ x3 < 65536 := by
  obtain ⟨xs, k, hk, hxy, _, hxl, hf⟩ := DataW.trod_array Try.underlying74 h
  match cs, hl with
  | [c0, c1, c2, c3], _ =>
    match xs, hxl with
    | [y0, y1, y2, y3], _ =>
      have g0 := hf 0 (by omega)
      have g1 := hf 1 (by omega)
      have g2 := hf 2 (by omega)
      have g3 := hf 3 (by omega)
      simp [cells_w16] at g0 g1 g2 g3
      obtain ⟨k0, e0, _, w0⟩ := DataW.trod_int Try.underlying51 g0
      obtain ⟨k1, e1, _, w1⟩ := DataW.trod_int Try.underlying51 g1
      obtain ⟨k2, e2, _, w2⟩ := DataW.trod_int Try.underlying51 g2
      obtain ⟨k3, e3, _, w3⟩ := DataW.trod_int Try.underlying51 g3
      simp at e0 e1 e2 e3
      subst e0 e1 e2 e3
      obtain ⟨n0, rfl, b0⟩ := w16_of w0
      obtain ⟨n1, rfl, b1⟩ := w16_of w1
      obtain ⟨n2, rfl, b2⟩ := w16_of w2
      obtain ⟨n3, rfl, b3⟩ := w16_of w3
      exact ⟨n0, n1, n2, n3, rfl, b0, b1, b2, b3⟩
set_option maxRecDepth 100000 in
theorem open_u4 {base : Nat} {v : Value} {d : DataW H} {ps : List MemPlace} (hv : Value.okWide Try.prog w .any base 74 v) (h : DataW.Trod enc Try.prog w 0 spare true 74 v d ps) : ∃ x0 x1 x2 x3 : Nat, v = .agg #[.int .u16 (x0 : Int), .int .u16 (x1 : Int), .int .u16 (x2 : Int), .int .u16 (x3 : Int)] ∧ x0 < 65536 ∧ x1 < 65536 ∧ x2 < 65536 ∧ x3 < 65536 := by
  obtain ⟨cs, rfl, hs⟩ := okWide_arr Try.underlying74 hv
  obtain ⟨fuel, hf⟩ := h
  obtain ⟨x0, x1, x2, x3, e, hb⟩ := open_u4_el _ _ _ hf (by rw [cells_u4] at hs; simpa [Value.cells] using hs)
  obtain ⟨l⟩ := cs
  simp [Value.cells] at e
  subst e
  exact ⟨x0, x1, x2, x3, rfl, hb⟩
end
end Go.Proofs.Ytminnkihcohflaa
