/- A part of the proofs: Wcd, LawCDef. No condition beside sizes and tables that read as laid. -/
import Derived.Test.YtnfccpkmaebbiaaGreatDoorMgAd
import Derived.Test.YtnfccpkmaebbiaaGreatDoorMgBa
import Derived.Test.YtnfccpkmaebbiaaGreatDoorCards
import Derived.Test.YtnfccpkmaebbiaaGreatDoorTie
namespace Go.Proofs.YtnfccpkmaebbiaaGreatDoor
open Go.RowKit Go.Lib

set_option maxHeartbeats 8000000 in
set_option maxRecDepth 100000 in
theorem cdef_walk (v : Value) (l : List Tup) (w : World) (hv : Tups w v l) (hT : Pow w) (hKf : few l 16 = true → ∀ x ∈ l, Keyable x.row) :
    Calls Tryz.prog 3 #[v] w fun e w' => e = .returned (.bool true) ∧ Below w.heap.size w w' := by
  have HF : Hid (Calls Tryz.prog 13 #[v, .int .i64 16] w fun e w' => e = .returned (.bool (few l 16)) ∧ w = w') := (few_any v l 16 (by omega) w hv).mono fun _ _ ⟨h1, h2⟩ => ⟨h1, h2.symm⟩
  have HAW := Lib.hid (fun W (h : Below w.heap.size w W) => Lib.hid (awake11_any W (hT.below h)))
  obtain ⟨a, c, rfl⟩ := hv.shape
  cases hfew : few l 16
  · rw [hfew] at HF
    have HA := HAW.out w (.refl _ _)
    clear hfew hKf hv hT HAW
    generalize l.length = n at HF ⊢
    go_enter Tryz.func3, Tryz.ntmps3
    go_wp2_with fail
    refine HF.out.mono ?_
    rintro _ w1 ⟨rfl, rfl⟩
    go_wp2_with fail
    refine HA.out.mono ?_
    rintro _ w2 ⟨rfl, hb⟩
    have HB := Lib.hid hb
    clear hb
    go_wp2_with fail
    go_ret
    exact ⟨rfl, HB.out⟩
  · rw [hfew] at HF
    obtain ⟨hl, hs⟩ := few_of hfew
    have hk := hKf hfew
    have HV := Lib.hid hv
    have HK := Lib.hid hk
    have HT := Lib.hid hT
    have HR := Lib.hid (rcoalesce_any _ l w hv (by omega) hs)
    obtain ⟨n, hn⟩ : ∃ n, n = l.length := ⟨_, rfl⟩
    have HN := Lib.hid hn
    rw [← hn] at HF HV HR hl ⊢
    clear hfew hKf hv hT hs hk hn
    go_enter Tryz.func3, Tryz.ntmps3
    go_wp2_with fail
    refine HF.out.mono ?_
    rintro _ w1 ⟨rfl, rfl⟩
    go_wp2_with fail
    refine HR.out.mono ?_
    rintro _ w2 ⟨T, hT, vT, rfl, hO2, hb2⟩
    obtain ⟨aT, cT, rfl⟩ := hO2.shape
    have HNF := Lib.hid hT
    have HKT : Hid (∀ x ∈ T, Keyable x.row) := Lib.hid (hT.keyable (bares_keyable HK.out))
    have HO2 := Lib.hid hO2.sl
    have HB2 := Lib.hid hb2
    have HA2 := HAW.out w2 hb2
    clear hT hO2 hb2 HF HR HAW
    go_wp2_with fail
    refine HA2.out.mono ?_
    rintro _ w3 ⟨rfl, hb3⟩
    have HB3 := Lib.hid (below_keep HB2.out hb3)
    have HO3 := Lib.hid (HO2.out.below hb3)
    have HV3 := Lib.hid (HV.out.below HB3.out)
    have HC := Lib.hid (coalesce_any _ l w3 HV3.out (by rw [← HN.out]; omega) HK.out (HT.out.below HB3.out))
    clear hb3 HA2 HO2
    go_wp2_with fail
    refine HC.out.mono ?_
    rintro _ w4 ⟨T2, hT2, hTl, v2, rfl, hO4, hb4⟩
    have HTL := Lib.hid hTl
    obtain ⟨a2, c2, rfl⟩ := hO4.shape
    obtain rfl : T2 = T := hT2.unique HNF.out
    have HB4 := Lib.hid (below_keep HB3.out hb4)
    have HO34 := Lib.hid (HO3.out.below hb4)
    have HSM := Lib.hid (sameTups_any _ _ T2 T2 w4 hO4.sl HO34.out)
    rw [sameTups_iff.2 rfl] at HSM
    clear hT2 hTl hO4 hb4 HC HO3
    go_wp2_with fail
    refine HSM.out.mono ?_
    rintro _ w5 ⟨rfl, hb5⟩
    have HB5 := Lib.hid (below_keep HB4.out hb5)
    have HO5 := Lib.hid (HO34.out.below hb5)
    have HV5 := Lib.hid (HV.out.below HB5.out)
    have HI := Lib.hid (isco_any _ l w5 HV5.out (by rw [← HN.out]; omega) HK.out (HT.out.below HB5.out))
    clear hb5 HSM HO34
    go_wp2_with fail
    refine HI.out.mono ?_
    rintro _ w6 ⟨T3, hT3, rfl, hb6⟩
    obtain rfl : T3 = T2 := hT3.unique HNF.out
    have HB6 := Lib.hid (below_keep HB5.out hb6)
    have HO6 := Lib.hid (HO5.out.below hb6)
    have HV6 := Lib.hid (HV.out.below HB6.out)
    have HSM2 := Lib.hid (sameTups_any _ _ l T3 w6 HV6.out HO6.out)
    generalize sameTups l T3 = q at HSM2 ⊢
    have hqq : (q == q) = true := by simp
    clear hb6 hT3 HI HO5
    go_wp2_with fail
    refine HSM2.out.mono ?_
    rintro _ w7 ⟨rfl, hb7⟩
    have HB7 := Lib.hid (below_keep HB6.out hb7)
    have HO7 := Lib.hid (HO6.out.below hb7)
    have HI2 := Lib.hid (isco_any _ T3 w7 HO7.out (by have := HTL.out; rw [← HN.out] at this; omega) HKT.out (HT.out.below HB7.out))
    clear hb7 HSM2 HO6
    go_wp2_with fail
    refine HI2.out.mono ?_
    rintro _ w8 ⟨T4, hT4, rfl, hb8⟩
    obtain rfl : T4 = T3 := hT4.unique (nf_twice HNF.out)
    rw [sameTups_iff.2 rfl]
    have HB8 := Lib.hid (below_keep HB7.out hb8)
    clear hb8 hT4 HI2
    go_wp2_with fail
    go_ret
    exact ⟨rfl, HB8.out⟩
end Go.Proofs.YtnfccpkmaebbiaaGreatDoor

namespace Go.Proofs.YtnfccpkmaebbiaaGreatDoor
open Go.ChangeShapes Go.WideShapes Go.ChangeAt Go.RowKit
open Go.ChangeMaps (open_string)

set_option maxRecDepth 100000 in
theorem cdef_contract (H : Type) (enc : TypeId × Value → H) (W : World) (base : Nat) (args : Array Value) (ds gs : List (DataW H)) (before : List MemPlace)
    (hval : ∀ (j : Nat) t v, Tryz.f3.params[j]? = some t → args[j]? = some v → Value.okWide Tryz.prog W .any base t v)
    (hW : DataW.Whole enc Tryz.prog Tryz.f3.params.toList Rows.coalesceDefinitionSpec.vars false W args.toList ds gs before) (hk : Rows.uptoSmall H (ds ++ gs) = true) (hT : Pow W) :
    Calls Tryz.prog 3 args W fun e W' => ∃ v, e = .returned v ∧ Rows.coalesceDefinitionSpec.post enc Tryz.prog Tryz.f3 false true false false W args v W' := by
  have hW' := hW
  obtain ⟨p, q, hA0, hV, rfl, hfz, hnd⟩ := hW
  have hA : DataW.TrodAll enc Tryz.prog W 0 (fun _ => true) true Tryz.f3.params.toList args.toList ds p := hA0
  rw [Tryz.params3] at hA hval
  obtain ⟨v0, vs0, d0, ds0, p0, q0, hargs, rfl, rfl, h0, r0⟩ := trodAll_cons hA
  obtain ⟨rfl, rfl, rfl⟩ := trodAll_nil r0
  obtain rfl : args = #[v0] := by cases args; simp_all
  obtain ⟨rfl, rfl⟩ := trodVars_none hV
  obtain ⟨l0, hl0, hp0⟩ := open_tups_b (hval 0 22 v0 rfl rfl) h0 (bulk_le hk (by simp))
  refine (cdef_walk v0 l0 W hl0 hT (keyable_few hp0)).mono fun e W' ⟨he, hb⟩ => ⟨_, he, ?_⟩
  refine law_post rfl rfl (by intro t ht; rw [Tryz.params3] at ht; simp at ht; subst ht; exact ⟨by kernel_rfl, of_decide_eq_true (by kernel_rfl)⟩) rfl hW' hb

theorem cdef_reads (os : Os) {H : Type} (enc : TypeId × Value → H) : ∃ places, DataW.whole enc Tryz.prog ((laidWorld os).forCall (fun _ _ => 0) ⟨#[], #[.slice none 0 0], []⟩).memory Tryz.f3.params.toList Rows.coalesceDefinitionSpec.vars false (#[.slice none 0 0] : Array Value).toList 8 = some ([.nil], [], places) :=
  ⟨[], by kernel_rfl⟩

set_option maxRecDepth 100000 in
theorem cdef_lifted (os : Os) (started : os.Started) (H : Type) (enc : TypeId × Value → H) (F : Stop.Interp) :
    ReturnsInHanded {} Tryz.checked os 3 .any ((Rows.OpenSpec.upto Rows.coalesceDefinitionSpec).preRow enc Tryz.prog Tryz.f3 Rows.coalesceDefinitionUptoRow.domain false Rows.coalesceDefinitionUptoRow.laid) (((Rows.OpenSpec.upto Rows.coalesceDefinitionSpec).at F).post enc Tryz.prog Tryz.f3 false true false false) := by
  obtain ⟨places, hx⟩ := cdef_reads os enc
  refine returnsInHanded_of_row (C := Tryz.checked) (s := Rows.OpenSpec.upto Rows.coalesceDefinitionSpec) own started (by kernel_rfl) Tryz.func3
    (witness_row_at (enc := enc) (C := Tryz.checked) false (laidWorld os) #[.slice none 0 0] rfl (by kernel_rfl) (by kernel_rfl) (by kernel_rfl)
      (OpenSpec.preRow_of_cond 8 hx (by kernel_rfl) (fun k hk => by cases hk; kernel_rfl) (by kernel_rfl) (laid_met os _))) ?_
  intro W base args ds gs before hval hW _ hcond _ hlaid hsh _
  exact cdef_contract H enc W base args ds gs before hval hW (hcond _ rfl) (pow_of_laid hlaid)

theorem cdef_said : Rows.CoalesceDefinitionUptoSaid :=
  OpenClaim.holds_of_cond 3 Tryz.f3 rfl rfl rfl rfl rfl rfl rfl ⟨rfl, rfl, rfl, rfl, rfl⟩ rfl rfl rfl rfl rfl (by kernel_rfl) Tryz.func3 (by kernel_rfl)
    (of_decide_eq_true (by kernel_rfl)) (by unfold Func.isWrapper; first | (rw [if_pos (by decide +kernel)]; kernel_rfl) | (rw [if_neg (by decide +kernel)]; exact ⟨rfl, rfl⟩))
    (fun os started H enc _ F => by rw [OpenClaim.pre_eq_preRow]; exact cdef_lifted os started H enc F)

/-- No parameter wants a stand-in; the program's own looks are off. -/
theorem cdef_plain (f : FuncId) (fn : Func) (hf : Tryz.pinned.checked.prog.funcNamed "annalist/annalistlaw11.CoalesceDefinition" = some f) (hfn : Tryz.pinned.checked.prog.funcs[f]? = some fn) :
    false = Tryz.pinned.checked.prog.looks [] ∧ ∀ (j : Nat) t, fn.params[j]? = some t → Tryz.pinned.checked.prog.wantsStandIn t = false := by
  obtain rfl : f = 3 := Option.some.inj ((show Tryz.prog.funcNamed "annalist/annalistlaw11.CoalesceDefinition" = some 3 by kernel_rfl).symm.trans hf) |>.symm
  obtain rfl : fn = Tryz.f3 := (Option.some.inj (Tryz.func3.symm.trans hfn)).symm
  refine ⟨by kernel_rfl, fun j t ht => ?_⟩
  rw [Tryz.params3] at ht
  obtain rfl : t = 22 := by simpa using Array.mem_of_getElem? ht
  exact (show Tryz.prog.wantsStandIn 22 = false by kernel_rfl)

/-- The card. -/
theorem cdef_card : Rows.CoalesceDefinitionUptoCardSaid :=
  Claim7.holds_tied_plain_at .later [] _ _ _ _ cdef_said (fun _ h => by cases h) (by kernel_rfl) (fun _ h => by cases h) coalesceDefinitionUpto_row_tie rfl ⟨rfl, rfl⟩ (by kernel_rfl) rfl cdef_plain (by kernel_rfl)
end Go.Proofs.YtnfccpkmaebbiaaGreatDoor
