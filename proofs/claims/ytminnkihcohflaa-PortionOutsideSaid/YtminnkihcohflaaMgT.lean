/- The law PortionPast: applying an update without assignments, or a deletion, of all rows never changes what was recorded at earlier instants. No condition. -/
import Derived.Test.YtminnkihcohflaaMgM
import Derived.Test.YtminnkihcohflaaMgR
import Derived.Test.YtminnkihcohflaaMgS
namespace Go.Proofs.Ytminnkihcohflaa
open Go.ChangeShapes Go.WideShapes Go.ChangeAt Go.RowKit

theorem cells_w16 : Try.prog.cellsOf 51 = 1 := by kernel_rfl
theorem cells_u6 : Try.prog.cellsOf 113 = 6 := by kernel_rfl
theorem w16_of {n : Int} (h : (Lit.int .u16 n).wf = true) : ∃ k : Nat, n = (k : Int) ∧ k < 65536 := by
  simp [Lit.wf, IntKind.min, IntKind.max, IntKind.signed, IntKind.bits] at h
  obtain ⟨k, rfl⟩ := Int.eq_ofNat_of_zero_le h.1
  exact ⟨k, rfl, by omega⟩
theorem w8_of {n : Int} (h : (Lit.int .u8 n).wf = true) : ∃ k : Nat, n = (k : Int) ∧ k < 256 := by
  simp [Lit.wf, IntKind.min, IntKind.max, IntKind.signed, IntKind.bits] at h
  obtain ⟨k, rfl⟩ := Int.eq_ofNat_of_zero_le h.1
  exact ⟨k, rfl, by omega⟩
section
variable {H : Type} {enc : TypeId × Value → H} {w : World} {spare : Nat → Bool}
set_option maxRecDepth 100000 in
theorem open_b {base : Nat} {v : Value} {d : DataW H} {ps : List MemPlace} (hv : Value.okWide Try.prog w .any base 4 v) (_h : DataW.Trod enc Try.prog w 0 spare true 4 v d ps) : ∃ b : Bool, v = .bool b := by
  exact okWide_bool Try.underlying4 hv
set_option maxRecDepth 10000 in
theorem open_u6_el (n : Nat) (cs : List Value) (y : DataW H × List MemPlace) (h : DataW.trod enc Try.prog w 0 spare true n 113 cs = some y) (hl : cs.length = 6) : ∃ x, u6E.is w free x cs ∧ x.ok := by
  obtain ⟨xs, k, hk, hxy, _, hxl, hf⟩ := DataW.trod_array Try.underlying113 h
  match cs, hl with
  | [c0, c1, c2, c3, c4, c5], _ =>
    match xs, hxl with
    | [y0, y1, y2, y3, y4, y5], _ =>
      have g0 := hf 0 (by omega)
      have g1 := hf 1 (by omega)
      have g2 := hf 2 (by omega)
      have g3 := hf 3 (by omega)
      have g4 := hf 4 (by omega)
      have g5 := hf 5 (by omega)
      simp [cells_w16] at g0 g1 g2 g3 g4 g5
      obtain ⟨k0, e0, _, w0⟩ := DataW.trod_int Try.underlying51 g0
      obtain ⟨k1, e1, _, w1⟩ := DataW.trod_int Try.underlying51 g1
      obtain ⟨k2, e2, _, w2⟩ := DataW.trod_int Try.underlying51 g2
      obtain ⟨k3, e3, _, w3⟩ := DataW.trod_int Try.underlying51 g3
      obtain ⟨k4, e4, _, w4⟩ := DataW.trod_int Try.underlying51 g4
      obtain ⟨k5, e5, _, w5⟩ := DataW.trod_int Try.underlying51 g5
      simp at e0 e1 e2 e3 e4 e5
      subst e0 e1 e2 e3 e4 e5
      obtain ⟨n0, rfl, b0⟩ := w16_of w0
      obtain ⟨n1, rfl, b1⟩ := w16_of w1
      obtain ⟨n2, rfl, b2⟩ := w16_of w2
      obtain ⟨n3, rfl, b3⟩ := w16_of w3
      obtain ⟨n4, rfl, b4⟩ := w16_of w4
      obtain ⟨n5, rfl, b5⟩ := w16_of w5
      exact ⟨⟨n0, n1, n2, n3, n4, n5⟩, rfl, b0, b1, b2, b3, b4, b5⟩
end
end Go.Proofs.Ytminnkihcohflaa

namespace Go.Proofs.Ytminnkihcohflaa
open Go.ChangeShapes Go.WideShapes Go.ChangeAt Go.RowKit
open Go.ChangeMaps (open_string)

set_option maxRecDepth 100000 in
theorem ppast_contract (H : Type) (enc : TypeId × Value → H) (W : World) (base : Nat) (args : Array Value) (ds gs : List (DataW H)) (before : List MemPlace)
    (hval : ∀ (j : Nat) t v, Try.f6.params[j]? = some t → args[j]? = some v → Value.okWide Try.prog W .any base t v)
    (hW : DataW.Whole enc Try.prog Try.f6.params.toList Rows.portionPastSpec.vars false W args.toList ds gs before) :
    Calls Try.prog 6 args W fun e W' => ∃ v, e = .returned v ∧ Rows.portionPastSpec.post enc Try.prog Try.f6 false true false false W args v W' := by
  have hW' := hW
  obtain ⟨p, q, hA0, hV, rfl, hfz, hnd⟩ := hW
  have hA : DataW.TrodAll enc Try.prog W 0 (fun _ => true) true Try.f6.params.toList args.toList ds p := hA0
  rw [Try.params6] at hA hval
  obtain ⟨v0, vs0, d0, ds0, p0, q0, hargs, rfl, rfl, h0, r0⟩ := trodAll_cons hA
  obtain ⟨v1, vs1, d1, ds1, p1, q1, rfl, rfl, rfl, h1, r1⟩ := trodAll_cons r0
  obtain ⟨v2, vs2, d2, ds2, p2, q2, rfl, rfl, rfl, h2, r2⟩ := trodAll_cons r1
  obtain ⟨v3, vs3, d3, ds3, p3, q3, rfl, rfl, rfl, h3, r3⟩ := trodAll_cons r2
  obtain ⟨v4, vs4, d4, ds4, p4, q4, rfl, rfl, rfl, h4, r4⟩ := trodAll_cons r3
  obtain ⟨v5, vs5, d5, ds5, p5, q5, rfl, rfl, rfl, h5, r5⟩ := trodAll_cons r4
  obtain ⟨rfl, rfl, rfl⟩ := trodAll_nil r5
  obtain rfl : args = #[v0, v1, v2, v3, v4, v5] := by cases args; simp_all
  obtain ⟨rfl, rfl⟩ := trodVars_none hV
  obtain ⟨l0, hl0, hp0⟩ := open_sl u6E U6.ok Try.underlying50 cells_u6 (hval 0 50 v0 rfl rfl) open_u6_el h0
  obtain ⟨z1, rfl, rfl, rfl, wz1⟩ := open_int Try.underlying51 (hval 1 51 v1 rfl rfl) h1; obtain ⟨x1, rfl, b1⟩ := w16_of wz1
  obtain ⟨z2, rfl, rfl, rfl, wz2⟩ := open_int Try.underlying51 (hval 2 51 v2 rfl rfl) h2; obtain ⟨x2, rfl, b2⟩ := w16_of wz2
  obtain ⟨z3, rfl, rfl, rfl, wz3⟩ := open_int Try.underlying5 (hval 3 5 v3 rfl rfl) h3; obtain ⟨x3, rfl, b3⟩ := w8_of wz3
  obtain ⟨z4, rfl, rfl, rfl, wz4⟩ := open_int Try.underlying5 (hval 4 5 v4 rfl rfl) h4; obtain ⟨x4, rfl, b4⟩ := w8_of wz4
  obtain ⟨x5, rfl⟩ := open_b (hval 5 4 v5 rfl rfl) h5
  refine (past_walk v0 l0 x1 x2 x3 x4 x5 W hl0 hp0 b1 b2 b3 b4).mono fun e W' ⟨he, hb⟩ => ⟨_, he, ?_⟩
  refine law_post rfl rfl (by intro t ht; rw [Try.params6] at ht; simp at ht; rcases ht with rfl | rfl | rfl | rfl <;> exact ⟨by kernel_rfl, of_decide_eq_true (by kernel_rfl)⟩) rfl hW' hb

set_option maxRecDepth 100000 in
theorem ppast_lifted (os : Os) (started : os.Started) (H : Type) (enc : TypeId × Value → H) :
    ReturnsInHanded {} Try.checked os 6 .any (Rows.portionPastSpec.pre6 enc Try.prog Try.f6 Rows.portionPastRow.domain false) (Rows.portionPastSpec.post enc Try.prog Try.f6 false true false false) := by
  refine returnsInHanded_of_change (C := Try.checked) own started (by kernel_rfl) Try.func6
    (ChangeSpec.witness6 (enc := enc) (C := Try.checked) false ⟨#[], #[.slice none 0 0, .int .u16 0, .int .u16 0, .int .u8 0, .int .u8 0, .bool false], []⟩ 8 (by kernel_rfl) (by kernel_rfl) (by kernel_rfl) (by kernel_rfl)) ?_
  intro W base args ds gs before hval hW _ _
  exact ppast_contract H enc W base args ds gs before hval hW

theorem ppast_said : Rows.PortionPastSaid :=
  OpenClaim.holds_of_wide 6 Try.f6 rfl rfl rfl rfl rfl rfl rfl ⟨rfl, rfl, rfl, rfl, rfl⟩ rfl rfl rfl rfl rfl (by kernel_rfl) Try.func6 (by kernel_rfl)
    (of_decide_eq_true (by kernel_rfl)) (by unfold Func.isWrapper; first | (rw [if_pos (by decide +kernel)]; kernel_rfl) | (rw [if_neg (by decide +kernel)]; exact ⟨rfl, rfl⟩))
    (fun os started H enc _ => ppast_lifted os started H enc)
end Go.Proofs.Ytminnkihcohflaa
