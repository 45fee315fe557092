/- The law PortionOutside: an update or a deletion does not change the current rows on days outside its portion. No condition. -/
import Derived.Test.YtminnkihcohflaaMgAB
import Derived.Test.YtminnkihcohflaaMgAD
import Derived.Test.YtminnkihcohflaaMgM
namespace Go.Proofs.Ytminnkihcohflaa
open Go.ChangeShapes Go.WideShapes Go.ChangeAt Go.RowKit
open Go.ChangeMaps (open_string)

set_option maxRecDepth 100000 in
theorem pout_contract (H : Type) (enc : TypeId × Value → H) (W : World) (base : Nat) (args : Array Value) (ds gs : List (DataW H)) (before : List MemPlace)
    (hval : ∀ (j : Nat) t v, Try.f11.params[j]? = some t → args[j]? = some v → Value.okWide Try.prog W .any base t v)
    (hW : DataW.Whole enc Try.prog Try.f11.params.toList Rows.portionOutsideSpec.vars false W args.toList ds gs before) :
    Calls Try.prog 11 args W fun e W' => ∃ v, e = .returned v ∧ Rows.portionOutsideSpec.post enc Try.prog Try.f11 false true false false W args v W' := by
  have hW' := hW
  obtain ⟨p, q, hA0, hV, rfl, hfz, hnd⟩ := hW
  have hA : DataW.TrodAll enc Try.prog W 0 (fun _ => true) true Try.f11.params.toList args.toList ds p := hA0
  rw [Try.params11] at hA hval
  obtain ⟨v0, vs0, d0, ds0, p0, q0, hargs, rfl, rfl, h0, r0⟩ := trodAll_cons hA
  obtain ⟨v1, vs1, d1, ds1, p1, q1, rfl, rfl, rfl, h1, r1⟩ := trodAll_cons r0
  obtain ⟨v2, vs2, d2, ds2, p2, q2, rfl, rfl, rfl, h2, r2⟩ := trodAll_cons r1
  obtain ⟨v3, vs3, d3, ds3, p3, q3, rfl, rfl, rfl, h3, r3⟩ := trodAll_cons r2
  obtain ⟨v4, vs4, d4, ds4, p4, q4, rfl, rfl, rfl, h4, r4⟩ := trodAll_cons r3
  obtain ⟨v5, vs5, d5, ds5, p5, q5, rfl, rfl, rfl, h5, r5⟩ := trodAll_cons r4
  obtain ⟨rfl, rfl, rfl⟩ := trodAll_nil r5
  obtain rfl : args = #[v0, v1, v2, v3, v4, v5] := by cases args; simp_all
  obtain ⟨rfl, rfl⟩ := trodVars_none hV
  obtain ⟨l0, hl0, hp0⟩ := open_sl u6E U6.ok Try.underlying50 cells_u6 (hval 0 50 v0 rfl rfl) open_u6_el h0
  obtain ⟨z1, rfl, rfl, rfl, wz1⟩ := open_int Try.underlying51 (hval 1 51 v1 rfl rfl) h1; obtain ⟨x1, rfl, b1⟩ := w16_of wz1
  obtain ⟨z2, rfl, rfl, rfl, wz2⟩ := open_int Try.underlying51 (hval 2 51 v2 rfl rfl) h2; obtain ⟨x2, rfl, b2⟩ := w16_of wz2
  obtain ⟨y30, y31, y32, y33, rfl, z30, z31, z32, z33⟩ := open_u4 (hval 3 74 v3 rfl rfl) h3
  obtain ⟨x4, rfl⟩ := open_b (hval 4 4 v4 rfl rfl) h4
  obtain ⟨z5, rfl, rfl, rfl, wz5⟩ := open_int Try.underlying51 (hval 5 51 v5 rfl rfl) h5; obtain ⟨x5, rfl, b5⟩ := w16_of wz5
  refine (out_walk v0 l0 x1 x2 y30 y31 y32 y33 x5 x4 W hl0 hp0 b1 b2 z30 z31 z32 z33 b5).mono fun e W' ⟨he, hb⟩ => ⟨_, he, ?_⟩
  refine law_post rfl rfl (by intro t ht; rw [Try.params11] at ht; simp at ht; rcases ht with rfl | rfl | rfl | rfl | rfl <;> exact ⟨by kernel_rfl, of_decide_eq_true (by kernel_rfl)⟩) rfl hW' hb

set_option maxRecDepth 100000 in
theorem pout_lifted (os : Os) (started : os.Started) (H : Type) (enc : TypeId × Value → H) :
    ReturnsInHanded {} Try.checked os 11 .any (Rows.portionOutsideSpec.pre6 enc Try.prog Try.f11 Rows.portionOutsideRow.domain false) (Rows.portionOutsideSpec.post enc Try.prog Try.f11 false true false false) := by
  refine returnsInHanded_of_change (C := Try.checked) own started (by kernel_rfl) Try.func11
    (ChangeSpec.witness6 (enc := enc) (C := Try.checked) false ⟨#[], #[.slice none 0 0, .int .u16 0, .int .u16 0, .agg #[.int .u16 0, .int .u16 0, .int .u16 0, .int .u16 0], .bool false, .int .u16 0], []⟩ 8 (by kernel_rfl) (by kernel_rfl) (by kernel_rfl) (by kernel_rfl)) ?_
  intro W base args ds gs before hval hW _ _
  exact pout_contract H enc W base args ds gs before hval hW

theorem pout_said : Rows.PortionOutsideSaid :=
  OpenClaim.holds_of_wide 11 Try.f11 rfl rfl rfl rfl rfl rfl rfl ⟨rfl, rfl, rfl, rfl, rfl⟩ rfl rfl rfl rfl rfl (by kernel_rfl) Try.func11 (by kernel_rfl)
    (of_decide_eq_true (by kernel_rfl)) (by unfold Func.isWrapper; first | (rw [if_pos (by decide +kernel)]; kernel_rfl) | (rw [if_neg (by decide +kernel)]; exact ⟨rfl, rfl⟩))
    (fun os started H enc _ => pout_lifted os started H enc)
end Go.Proofs.Ytminnkihcohflaa
