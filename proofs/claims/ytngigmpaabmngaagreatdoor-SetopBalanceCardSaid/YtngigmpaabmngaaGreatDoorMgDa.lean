/- A part of the proofs: LawSBal. No condition beside sizes and tables that read as laid. -/
import Derived.Test.YtngigmpaabmngaaGreatDoorMgAf
import Derived.Test.YtngigmpaabmngaaGreatDoorMgAg
import Derived.Test.YtngigmpaabmngaaGreatDoorCards
import Derived.Test.YtngigmpaabmngaaGreatDoorTie
namespace Go.Proofs.YtngigmpaabmngaaGreatDoor
open Go.ChangeShapes Go.WideShapes Go.ChangeAt Go.RowKit
open Go.ChangeMaps (open_string)

set_option maxRecDepth 100000 in
theorem sbal_contract (H : Type) (enc : TypeId × Value → H) (W : World) (base : Nat) (args : Array Value) (ds gs : List (DataW H)) (before : List MemPlace)
    (hval : ∀ (j : Nat) t v, Tryz.f7.params[j]? = some t → args[j]? = some v → Value.okWide Tryz.prog W .any base t v)
    (hW : DataW.Whole enc Tryz.prog Tryz.f7.params.toList Rows.setopBalanceSpec.vars false W args.toList ds gs before) (hT : Pow W) :
    Calls Tryz.prog 7 args W fun e W' => ∃ v, e = .returned v ∧ Rows.setopBalanceSpec.post enc Tryz.prog Tryz.f7 false true false false W args v W' := by
  have hW' := hW
  obtain ⟨p, q, hA0, hV, rfl, hfz, hnd⟩ := hW
  have hA : DataW.TrodAll enc Tryz.prog W 0 (fun _ => true) true Tryz.f7.params.toList args.toList ds p := hA0
  rw [Tryz.params7] at hA hval
  obtain ⟨v0, vs0, d0, ds0, p0, q0, hargs, rfl, rfl, h0, r0⟩ := trodAll_cons hA
  obtain ⟨v1, vs1, d1, ds1, p1, q1, rfl, rfl, rfl, h1, r1⟩ := trodAll_cons r0
  obtain ⟨v2, vs2, d2, ds2, p2, q2, rfl, rfl, rfl, h2, r2⟩ := trodAll_cons r1
  obtain ⟨rfl, rfl, rfl⟩ := trodAll_nil r2
  obtain rfl : args = #[v0, v1, v2] := by cases args; simp_all
  obtain ⟨rfl, rfl⟩ := trodVars_none hV
  obtain ⟨l0, hl0, hp0⟩ := open_sl u5E U5.ok Tryz.underlying22 cells_u5 (hval 0 22 v0 rfl rfl) open_u5_el h0
  obtain ⟨l1, hl1, hp1⟩ := open_sl u5E U5.ok Tryz.underlying22 cells_u5 (hval 1 22 v1 rfl rfl) open_u5_el h1
  obtain ⟨z2, rfl, rfl, rfl, wz2⟩ := open_int Tryz.underlying34 (hval 2 34 v2 rfl rfl) h2; obtain ⟨x2, rfl, b2⟩ := u16_of wz2
  refine (sbal_walk v0 v1 l0 l1 x2 W hl0 hp0 hl1 hp1 b2 hT).mono fun e W' ⟨he, hb⟩ => ⟨_, he, ?_⟩
  refine law_post rfl rfl (by intro t ht; rw [Tryz.params7] at ht; simp at ht; rcases ht with rfl | rfl <;> exact ⟨by kernel_rfl, of_decide_eq_true (by kernel_rfl)⟩) rfl hW' hb

theorem sbal_reads (os : Os) {H : Type} (enc : TypeId × Value → H) : ∃ places, DataW.whole enc Tryz.prog ((laidWorld os).forCall (fun _ _ => 0) ⟨#[], #[.slice none 0 0, .slice none 0 0, .int .u16 0], []⟩).memory Tryz.f7.params.toList Rows.setopBalanceSpec.vars false (#[.slice none 0 0, .slice none 0 0, .int .u16 0] : Array Value).toList 8 = some ([.nil, .nil, .lit (.int .u16 0)], [], places) :=
  ⟨[], by kernel_rfl⟩

set_option maxRecDepth 100000 in
theorem sbal_lifted (os : Os) (started : os.Started) (H : Type) (enc : TypeId × Value → H) (F : Stop.Interp) :
    ReturnsInHanded {} Tryz.checked os 7 .any ((OpenSpec.ofChange Rows.setopBalanceSpec).preRow enc Tryz.prog Tryz.f7 Rows.setopBalanceRow.domain false Rows.setopBalanceRow.laid) (((OpenSpec.ofChange Rows.setopBalanceSpec).at F).post enc Tryz.prog Tryz.f7 false true false false) := by
  obtain ⟨places, hx⟩ := sbal_reads os enc
  refine returnsInHanded_of_row (C := Tryz.checked) (s := OpenSpec.ofChange Rows.setopBalanceSpec) own started (by kernel_rfl) Tryz.func7
    (witness_row_at (enc := enc) (C := Tryz.checked) false (laidWorld os) #[.slice none 0 0, .slice none 0 0, .int .u16 0] rfl (by kernel_rfl) (by kernel_rfl) (by kernel_rfl)
      (OpenSpec.preRow_of_cond 8 hx (by kernel_rfl) (fun k hk => by cases hk) (by kernel_rfl) (laid_met os _))) ?_
  intro W base args ds gs before hval hW _ hcond _ hlaid hsh _
  exact sbal_contract H enc W base args ds gs before hval hW (pow_of_laid hlaid)

theorem sbal_said : Rows.SetopBalanceSaid :=
  OpenClaim.holds_of_cond 7 Tryz.f7 rfl rfl rfl rfl rfl rfl rfl ⟨rfl, rfl, rfl, rfl, rfl⟩ rfl rfl rfl rfl rfl (by kernel_rfl) Tryz.func7 (by kernel_rfl)
    (of_decide_eq_true (by kernel_rfl)) (by unfold Func.isWrapper; first | (rw [if_pos (by decide +kernel)]; kernel_rfl) | (rw [if_neg (by decide +kernel)]; exact ⟨rfl, rfl⟩))
    (fun os started H enc _ F => by rw [OpenClaim.pre_eq_preRow]; exact sbal_lifted os started H enc F)

/-- No parameter wants a stand-in; the program's own looks are off. -/
theorem sbal_plain (f : FuncId) (fn : Func) (hf : Tryz.pinned.checked.prog.funcNamed "annalist/annalistlaw15.SetopBalance" = some f) (hfn : Tryz.pinned.checked.prog.funcs[f]? = some fn) :
    false = Tryz.pinned.checked.prog.looks [] ∧ ∀ (j : Nat) t, fn.params[j]? = some t → Tryz.pinned.checked.prog.wantsStandIn t = false := by
  obtain rfl : f = 7 := Option.some.inj ((show Tryz.prog.funcNamed "annalist/annalistlaw15.SetopBalance" = some 7 by kernel_rfl).symm.trans hf) |>.symm
  obtain rfl : fn = Tryz.f7 := (Option.some.inj (Tryz.func7.symm.trans hfn)).symm
  refine ⟨by kernel_rfl, fun j t ht => ?_⟩
  rw [Tryz.params7] at ht
  have hm := Array.mem_of_getElem? ht
  simp at hm
  rcases hm with rfl | rfl
  · exact (show Tryz.prog.wantsStandIn 22 = false by kernel_rfl)
  · exact (show Tryz.prog.wantsStandIn 34 = false by kernel_rfl)

/-- The card. -/
theorem sbal_card : Rows.SetopBalanceCardSaid :=
  Claim7.holds_tied_plain_at .later [] _ _ _ _ sbal_said (fun _ h => by cases h) (by kernel_rfl) (fun _ h => by cases h) setopBalance_row_tie rfl ⟨rfl, rfl⟩ (by kernel_rfl) rfl sbal_plain (by kernel_rfl)
end Go.Proofs.YtngigmpaabmngaaGreatDoor
