/- A part of the proofs: Weq, LawTEqu. No condition beside sizes and tables that read as laid. -/
import Derived.Test.YtnfccpkmaebbiaaGreatDoorMgAd
import Derived.Test.YtnfccpkmaebbiaaGreatDoorMgBa
import Derived.Test.YtnfccpkmaebbiaaGreatDoorCards
import Derived.Test.YtnfccpkmaebbiaaGreatDoorTie
namespace Go.Proofs.YtnfccpkmaebbiaaGreatDoor
open Go.RowKit Go.Lib

set_option maxHeartbeats 8000000 in
set_option maxRecDepth 100000 in
theorem tequiv_walk (v u : Value) (xs ys : List U5) (w : World) (hv : Sl u5E w free v xs) (hu : Sl u5E w free u ys) (hok : ∀ x ∈ xs, x.ok) (hok2 : ∀ x ∈ ys, x.ok) (hT : Pow w) :
    Calls Tryz.prog 10 #[v, u] w fun e w' => e = .returned (.bool true) ∧ Below w.heap.size w w' := by
  have HTU := Lib.hid (tuples_any v xs 12 (by decide) w hv hok)
  have HTV := Lib.hid (fun W (h : Below w.heap.size w W) => Lib.hid (tuples_any u ys 12 (by decide) W (hu.below h) hok2))
  have ha := tups_keyable xs 12
  have hb := tups_keyable ys 12
  have sa := tups_small xs 12
  have sb := tups_small ys 12
  have la := tupsOf_length xs 12
  have lb := tupsOf_length ys 12
  obtain ⟨a, ha0⟩ : ∃ l, l = tupsOf xs 12 := ⟨_, rfl⟩
  obtain ⟨b, hb0⟩ : ∃ l, l = tupsOf ys 12 := ⟨_, rfl⟩
  rw [← ha0] at HTU ha sa la
  rw [← hb0] at HTV hb sb lb
  have HKA := Lib.hid ha
  have HKB := Lib.hid hb
  have HSA := Lib.hid sa
  have HSB := Lib.hid sb
  have HT := Lib.hid hT
  clear hv hu hok hok2 ha hb sa sb hT ha0 hb0
  go_enter Tryz.func10, Tryz.ntmps10
  go_wp2_with fail
  refine HTU.out.mono ?_
  rintro _ w1 ⟨va, rfl, hO1, hb1⟩
  obtain ⟨aa, ca, rfl⟩ := hO1.shape
  have HA1 := Lib.hid hO1.sl
  have HB1 := Lib.hid hb1
  have HTV1 := HTV.out w1 hb1
  clear hO1 hb1 HTU HTV
  go_wp2_with fail
  refine HTV1.out.mono ?_
  rintro _ w2 ⟨vb, rfl, hO2, hb2⟩
  obtain ⟨ab, cb, rfl⟩ := hO2.shape
  have HA2 := Lib.hid (HA1.out.below hb2)
  have HD2 := Lib.hid hO2.sl
  have HB2 := Lib.hid (below_keep HB1.out hb2)
  have HAW := Lib.hid (awake10_any w2 (HT.out.below HB2.out))
  clear hO2 hb2 HTV1 HA1
  go_wp2_with fail
  refine HAW.out.mono ?_
  rintro _ w3 ⟨rfl, hb3⟩
  have HA3 := Lib.hid (HA2.out.below hb3)
  have HD3 := Lib.hid (HD2.out.below hb3)
  have HB3 := Lib.hid (below_keep HB2.out hb3)
  have HE := Lib.hid (equiv_any _ _ a b w3 HA3.out HD3.out (by omega) (by omega) HKA.out HKB.out (HT.out.below HB3.out))
  clear hb3 HA2 HD2 HAW
  go_wp2_with fail
  refine HE.out.mono ?_
  rintro _ w4 ⟨q, hq, rfl, hb4⟩
  have HQ := hq
  have HA4 := Lib.hid (HA3.out.below hb4)
  have HD4 := Lib.hid (HD3.out.below hb4)
  have HB4 := Lib.hid (below_keep HB3.out hb4)
  have HE2 := Lib.hid (requiv_any _ _ a b w4 HA4.out HD4.out (by omega) (by omega) HSA.out HSB.out)
  clear hb4 HA3 HD3 HE hq
  go_wp2_with fail
  refine HE2.out.mono ?_
  rintro _ w5 ⟨q2, hq2, rfl, hb5⟩
  obtain rfl : q2 = q := bool_iff hq2.out HQ.out
  have HA5 := Lib.hid (HA4.out.below hb5)
  have HB5 := Lib.hid (below_keep HB4.out hb5)
  have HE3 := Lib.hid (equiv_any _ _ a a w5 HA5.out HA5.out (by omega) (by omega) HKA.out HKA.out (HT.out.below HB5.out))
  have hqq : (q2 == q2) = true := by simp
  clear hb5 HA4 HD4 HE2 hq2
  go_wp2_with fail
  refine HE3.out.mono ?_
  rintro _ w6 ⟨q3, hq3, rfl, hb6⟩
  obtain rfl : q3 = true := hq3.out.2 fun t => List.Perm.refl _
  have HB6 := Lib.hid (below_keep HB5.out hb6)
  clear hb6 hq3 HE3
  go_wp2_with fail
  go_ret
  exact ⟨rfl, HB6.out⟩
end Go.Proofs.YtnfccpkmaebbiaaGreatDoor

namespace Go.Proofs.YtnfccpkmaebbiaaGreatDoor
open Go.ChangeShapes Go.WideShapes Go.ChangeAt Go.RowKit
open Go.ChangeMaps (open_string)

set_option maxRecDepth 100000 in
theorem tequ_contract (H : Type) (enc : TypeId × Value → H) (W : World) (base : Nat) (args : Array Value) (ds gs : List (DataW H)) (before : List MemPlace)
    (hval : ∀ (j : Nat) t v, Tryz.f10.params[j]? = some t → args[j]? = some v → Value.okWide Tryz.prog W .any base t v)
    (hW : DataW.Whole enc Tryz.prog Tryz.f10.params.toList Rows.tupleEquivalentSpec.vars false W args.toList ds gs before) (hT : Pow W) :
    Calls Tryz.prog 10 args W fun e W' => ∃ v, e = .returned v ∧ Rows.tupleEquivalentSpec.post enc Tryz.prog Tryz.f10 false true false false W args v W' := by
  have hW' := hW
  obtain ⟨p, q, hA0, hV, rfl, hfz, hnd⟩ := hW
  have hA : DataW.TrodAll enc Tryz.prog W 0 (fun _ => true) true Tryz.f10.params.toList args.toList ds p := hA0
  rw [Tryz.params10] at hA hval
  obtain ⟨v0, vs0, d0, ds0, p0, q0, hargs, rfl, rfl, h0, r0⟩ := trodAll_cons hA
  obtain ⟨v1, vs1, d1, ds1, p1, q1, rfl, rfl, rfl, h1, r1⟩ := trodAll_cons r0
  obtain ⟨rfl, rfl, rfl⟩ := trodAll_nil r1
  obtain rfl : args = #[v0, v1] := by cases args; simp_all
  obtain ⟨rfl, rfl⟩ := trodVars_none hV
  obtain ⟨l0, hl0, hp0⟩ := open_sl u5E U5.ok Tryz.underlying28 cells_u5 (hval 0 28 v0 rfl rfl) open_u5_el h0
  obtain ⟨l1, hl1, hp1⟩ := open_sl u5E U5.ok Tryz.underlying28 cells_u5 (hval 1 28 v1 rfl rfl) open_u5_el h1
  refine (tequiv_walk v0 v1 l0 l1 W hl0 hl1 hp0 hp1 hT).mono fun e W' ⟨he, hb⟩ => ⟨_, he, ?_⟩
  refine law_post rfl rfl (by intro t ht; rw [Tryz.params10] at ht; simp at ht; subst ht; exact ⟨by kernel_rfl, of_decide_eq_true (by kernel_rfl)⟩) rfl hW' hb

theorem tequ_reads (os : Os) {H : Type} (enc : TypeId × Value → H) : ∃ places, DataW.whole enc Tryz.prog ((laidWorld os).forCall (fun _ _ => 0) ⟨#[], #[.slice none 0 0, .slice none 0 0], []⟩).memory Tryz.f10.params.toList Rows.tupleEquivalentSpec.vars false (#[.slice none 0 0, .slice none 0 0] : Array Value).toList 8 = some ([.nil, .nil], [], places) :=
  ⟨[], by kernel_rfl⟩

set_option maxRecDepth 100000 in
theorem tequ_lifted (os : Os) (started : os.Started) (H : Type) (enc : TypeId × Value → H) (F : Stop.Interp) :
    ReturnsInHanded {} Tryz.checked os 10 .any ((OpenSpec.ofChange Rows.tupleEquivalentSpec).preRow enc Tryz.prog Tryz.f10 Rows.tupleEquivalentRow.domain false Rows.tupleEquivalentRow.laid) (((OpenSpec.ofChange Rows.tupleEquivalentSpec).at F).post enc Tryz.prog Tryz.f10 false true false false) := by
  obtain ⟨places, hx⟩ := tequ_reads os enc
  refine returnsInHanded_of_row (C := Tryz.checked) (s := OpenSpec.ofChange Rows.tupleEquivalentSpec) own started (by kernel_rfl) Tryz.func10
    (witness_row_at (enc := enc) (C := Tryz.checked) false (laidWorld os) #[.slice none 0 0, .slice none 0 0] rfl (by kernel_rfl) (by kernel_rfl) (by kernel_rfl)
      (OpenSpec.preRow_of_cond 8 hx (by kernel_rfl) (fun k hk => by cases hk) (by kernel_rfl) (laid_met os _))) ?_
  intro W base args ds gs before hval hW _ hcond _ hlaid hsh _
  exact tequ_contract H enc W base args ds gs before hval hW (pow_of_laid hlaid)

theorem tequ_said : Rows.TupleEquivalentSaid :=
  OpenClaim.holds_of_cond 10 Tryz.f10 rfl rfl rfl rfl rfl rfl rfl ⟨rfl, rfl, rfl, rfl, rfl⟩ rfl rfl rfl rfl rfl (by kernel_rfl) Tryz.func10 (by kernel_rfl)
    (of_decide_eq_true (by kernel_rfl)) (by unfold Func.isWrapper; first | (rw [if_pos (by decide +kernel)]; kernel_rfl) | (rw [if_neg (by decide +kernel)]; exact ⟨rfl, rfl⟩))
    (fun os started H enc _ F => by rw [OpenClaim.pre_eq_preRow]; exact tequ_lifted os started H enc F)

/-- No parameter wants a stand-in; the program's own looks are off. -/
theorem tequ_plain (f : FuncId) (fn : Func) (hf : Tryz.pinned.checked.prog.funcNamed "annalist/annalistlaw10.TupleEquivalent" = some f) (hfn : Tryz.pinned.checked.prog.funcs[f]? = some fn) :
    false = Tryz.pinned.checked.prog.looks [] ∧ ∀ (j : Nat) t, fn.params[j]? = some t → Tryz.pinned.checked.prog.wantsStandIn t = false := by
  obtain rfl : f = 10 := Option.some.inj ((show Tryz.prog.funcNamed "annalist/annalistlaw10.TupleEquivalent" = some 10 by kernel_rfl).symm.trans hf) |>.symm
  obtain rfl : fn = Tryz.f10 := (Option.some.inj (Tryz.func10.symm.trans hfn)).symm
  refine ⟨by kernel_rfl, fun j t ht => ?_⟩
  rw [Tryz.params10] at ht
  obtain rfl : t = 28 := by simpa using Array.mem_of_getElem? ht
  exact (show Tryz.prog.wantsStandIn 28 = false by kernel_rfl)

/-- The card. -/
theorem tequ_card : Rows.TupleEquivalentCardSaid :=
  Claim7.holds_tied_plain_at .later [] _ _ _ _ tequ_said (fun _ h => by cases h) (by kernel_rfl) (fun _ h => by cases h) tupleEquivalent_row_tie rfl ⟨rfl, rfl⟩ (by kernel_rfl) rfl tequ_plain (by kernel_rfl)
end Go.Proofs.YtnfccpkmaebbiaaGreatDoor
