/- A part of the proofs: Suw, LawSUni. No condition beside sizes and tables that read as laid. -/
import Derived.Test.YtngigmpaabmngaaGreatDoorMgBb
import Derived.Test.YtngigmpaabmngaaGreatDoorMgAf
import Derived.Test.YtngigmpaabmngaaGreatDoorMgAg
import Derived.Test.YtngigmpaabmngaaGreatDoorCards
import Derived.Test.YtngigmpaabmngaaGreatDoorTie
namespace Go.Proofs.YtngigmpaabmngaaGreatDoor
open Go.RowKit Go.Lib

set_option maxHeartbeats 8000000 in
set_option maxRecDepth 100000 in
theorem sunion_walk (v u : Value) (a b : List Tup) (w : World) (hv : Tups w v a) (hu : Tups w u b) (hT : Pow w) (hKa : few a 10 = true → ∀ x ∈ a, Keyable x.row) (hKb : few b 10 = true → ∀ x ∈ b, Keyable x.row) :
    Calls Tryz.prog 4 #[v, u] w fun e w' => e = .returned (.bool true) ∧ Below w.heap.size w w' := by
  have HF := Lib.hid (few15_any v u a b w hv hu)
  have HT := Lib.hid hT
  have HVA := Lib.hid hv
  have HVB := Lib.hid hu
  obtain ⟨a1, c1, rfl⟩ := hv.shape
  obtain ⟨a2, c2, rfl⟩ := hu.shape
  cases hfew : (few a 10 && few b 10)
  · rw [hfew] at HF
    clear hfew hKa hKb hv hu hT HVA HVB
    generalize a.length = na at HF ⊢
    generalize b.length = nb at HF ⊢
    go_enter Tryz.func4, Tryz.ntmps4
    go_wp2_with fail
    refine HF.out.mono ?_
    rintro _ w1 ⟨rfl, hb1⟩
    have HB1 := Lib.hid hb1
    have HA := Lib.hid (awake15_any w1 (HT.out.below hb1))
    clear hb1
    go_wp2_with fail
    refine HA.out.mono ?_
    rintro _ w2 ⟨rfl, hb2⟩
    have HB2 := Lib.hid (below_keep HB1.out hb2)
    clear hb2
    go_wp2_with fail
    go_ret
    exact ⟨rfl, HB2.out⟩
  · rw [hfew] at HF
    rw [Bool.and_eq_true] at hfew
    obtain ⟨hla, hsa⟩ := few_six hfew.1
    obtain ⟨hlb, hsb⟩ := few_six hfew.2
    have HKA := Lib.hid (mem_two (hKa hfew.1) (hKb hfew.2))
    have HQA : Hid (∀ x ∈ a ++ b, x.lin.length ≤ 6) := Lib.hid (mem_two (fun x hx => (hsa x hx).2) (fun x hx => (hsb x hx).2))
    have HA40 : Hid (∀ x ∈ a, x.vals.length ≤ 1000 ∧ x.lin.length ≤ 40) := Lib.hid (fun x hx => by have := hsa x hx; omega)
    have HB40 : Hid (∀ x ∈ b, x.vals.length ≤ 1000 ∧ x.lin.length ≤ 40) := Lib.hid (fun x hx => by have := hsb x hx; omega)
    clear hfew hKa hKb hv hu hT hsa hsb
    go_enter Tryz.func4, Tryz.ntmps4
    have HC1 := Lib.hid (HF.out)
    go_wp2_with fail
    refine HC1.out.mono ?_
    rintro _ w1 ⟨rfl, hb1⟩
    have A_1 := Lib.hid (HVA.out.below hb1)
    have B_1 := Lib.hid (HVB.out.below hb1)
    have HB_1 := Lib.hid hb1
    clear hb1 HC1 HVA HVB HF
    have HC2 := Lib.hid (awake15_any w1 (HT.out.below HB_1.out))
    go_wp2_with fail
    refine HC2.out.mono ?_
    rintro _ w2 ⟨rfl, hb2⟩
    have A_2 := Lib.hid (A_1.out.below hb2)
    have B_2 := Lib.hid (B_1.out.below hb2)
    have HB_2 := Lib.hid (below_keep HB_1.out hb2)
    clear hb2 HC2 A_1 B_1 HB_1 
    have HC3 := Lib.hid (union_any _ _ a b w2 A_2.out B_2.out (by omega) HKA.out (HT.out.below HB_2.out))
    go_wp2_with fail
    refine HC3.out.mono ?_
    rintro _ w3 ⟨U, hU, hlU, vU, rfl, hOU, hb3⟩
    obtain ⟨aU, cU, rfl⟩ := hOU.shape
    have NU := Lib.hid hU
    have A_3 := Lib.hid (A_2.out.below hb3)
    have B_3 := Lib.hid (B_2.out.below hb3)
    have HB_3 := Lib.hid (below_keep HB_2.out hb3)
    have FU_3 := Lib.hid (hOU.sl)
    clear hb3 HC3 A_2 B_2 HB_2 hOU hU hlU
    have HC4 := Lib.hid (binary_any 0 (by decide) _ _ a b w3 A_3.out B_3.out (fun h => absurd h (by decide)) (by omega) (by first | omega | simp) HA40.out HB40.out)
    go_wp2_with fail
    refine HC4.out.mono ?_
    rintro _ w4 ⟨UR, hUR, vUR, rfl, hOUR, hb4⟩
    obtain ⟨aUR, cUR, rfl⟩ := hOUR.shape
    obtain rfl : U = UR := (bin_uni NU.out hUR).symm
    have A_4 := Lib.hid (A_3.out.below hb4)
    have B_4 := Lib.hid (B_3.out.below hb4)
    have FU_4 := Lib.hid (FU_3.out.below hb4)
    have HB_4 := Lib.hid (below_keep HB_3.out hb4)
    have FU2_4 := Lib.hid (hOUR.sl)
    clear hb4 HC4 A_3 B_3 FU_3 HB_3 hOUR hUR NU
    have HC5 := Lib.hid (sameTups_true _ _ U w4 FU_4.out FU2_4.out)
    go_wp2_with fail
    refine HC5.out.mono ?_
    rintro _ w5 ⟨rfl, hb5⟩
    have A_5 := Lib.hid (A_4.out.below hb5)
    have B_5 := Lib.hid (B_4.out.below hb5)
    have FU_5 := Lib.hid (FU_4.out.below hb5)
    have FU2_5 := Lib.hid (FU2_4.out.below hb5)
    have HB_5 := Lib.hid (below_keep HB_4.out hb5)
    clear hb5 HC5 A_4 B_4 FU_4 FU2_4 HB_4 
    have HC6 := Lib.hid (distinct_any _ a 6 w5 A_5.out (mem_left HKA.out) (mem_left HQA.out) (by simp; omega) (sop_small (by simp; omega)) (HT.out.below HB_5.out))
    go_wp2_with fail
    refine HC6.out.mono ?_
    rintro _ w6 ⟨E, hE, hlE, vE, rfl, hOE, hb6⟩
    obtain ⟨aE, cE, rfl⟩ := hOE.shape
    have NE := Lib.hid hE
    have A_6 := Lib.hid (A_5.out.below hb6)
    have B_6 := Lib.hid (B_5.out.below hb6)
    have HB_6 := Lib.hid (below_keep HB_5.out hb6)
    have FE_6 := Lib.hid (hOE.sl)
    clear hb6 HC6 A_5 B_5 HB_5 hOE hE hlE
    have HC7 := Lib.hid (binary_any 3 (by decide) _ (.slice none 0 0) a [] w6 A_6.out (Sl.nil _ _ _ 0 none) (fun _ => rfl) (by omega) (by first | omega | simp) HA40.out (fun _ h => by cases h))
    go_wp2_with fail
    refine HC7.out.mono ?_
    rintro _ w7 ⟨ER, hER, vER, rfl, hOER, hb7⟩
    obtain ⟨aER, cER, rfl⟩ := hOER.shape
    obtain rfl : E = ER := (bin_dis NE.out hER).symm
    have A_7 := Lib.hid (A_6.out.below hb7)
    have B_7 := Lib.hid (B_6.out.below hb7)
    have FE_7 := Lib.hid (FE_6.out.below hb7)
    have HB_7 := Lib.hid (below_keep HB_6.out hb7)
    have FE2_7 := Lib.hid (hOER.sl)
    clear hb7 HC7 A_6 B_6 FE_6 HB_6 hOER hER NE
    have HC8 := Lib.hid (sameTups_true _ _ E w7 FE_7.out FE2_7.out)
    go_wp2_with fail
    refine HC8.out.mono ?_
    rintro _ w8 ⟨rfl, hb8⟩
    have A_8 := Lib.hid (A_7.out.below hb8)
    have B_8 := Lib.hid (B_7.out.below hb8)
    have FE_8 := Lib.hid (FE_7.out.below hb8)
    have FE2_8 := Lib.hid (FE2_7.out.below hb8)
    have HB_8 := Lib.hid (below_keep HB_7.out hb8)
    clear hb8 HC8 A_7 B_7 FE_7 FE2_7 HB_7 
    go_wp2_with fail
    go_ret
    exact ⟨rfl, HB_8.out⟩
end Go.Proofs.YtngigmpaabmngaaGreatDoor

namespace Go.Proofs.YtngigmpaabmngaaGreatDoor
open Go.ChangeShapes Go.WideShapes Go.ChangeAt Go.RowKit
open Go.ChangeMaps (open_string)

set_option maxRecDepth 100000 in
theorem suni_contract (H : Type) (enc : TypeId × Value → H) (W : World) (base : Nat) (args : Array Value) (ds gs : List (DataW H)) (before : List MemPlace)
    (hval : ∀ (j : Nat) t v, Tryz.f4.params[j]? = some t → args[j]? = some v → Value.okWide Tryz.prog W .any base t v)
    (hW : DataW.Whole enc Tryz.prog Tryz.f4.params.toList Rows.setopUnionSpec.vars false W args.toList ds gs before) (hk : Rows.uptoSmall H (ds ++ gs) = true) (hT : Pow W) :
    Calls Tryz.prog 4 args W fun e W' => ∃ v, e = .returned v ∧ Rows.setopUnionSpec.post enc Tryz.prog Tryz.f4 false true false false W args v W' := by
  have hW' := hW
  obtain ⟨p, q, hA0, hV, rfl, hfz, hnd⟩ := hW
  have hA : DataW.TrodAll enc Tryz.prog W 0 (fun _ => true) true Tryz.f4.params.toList args.toList ds p := hA0
  rw [Tryz.params4] at hA hval
  obtain ⟨v0, vs0, d0, ds0, p0, q0, hargs, rfl, rfl, h0, r0⟩ := trodAll_cons hA
  obtain ⟨v1, vs1, d1, ds1, p1, q1, rfl, rfl, rfl, h1, r1⟩ := trodAll_cons r0
  obtain ⟨rfl, rfl, rfl⟩ := trodAll_nil r1
  obtain rfl : args = #[v0, v1] := by cases args; simp_all
  obtain ⟨rfl, rfl⟩ := trodVars_none hV
  obtain ⟨l0, hl0, hp0⟩ := open_tups_b (hval 0 24 v0 rfl rfl) h0 (bulk_le hk (by simp))
  obtain ⟨l1, hl1, hp1⟩ := open_tups_b (hval 1 24 v1 rfl rfl) h1 (bulk_le hk (by simp))
  refine (sunion_walk v0 v1 l0 l1 W hl0 hl1 hT (keyable_few hp0) (keyable_few hp1)).mono fun e W' ⟨he, hb⟩ => ⟨_, he, ?_⟩
  refine law_post rfl rfl (by intro t ht; rw [Tryz.params4] at ht; simp at ht; subst ht; exact ⟨by kernel_rfl, of_decide_eq_true (by kernel_rfl)⟩) rfl hW' hb

theorem suni_reads (os : Os) {H : Type} (enc : TypeId × Value → H) : ∃ places, DataW.whole enc Tryz.prog ((laidWorld os).forCall (fun _ _ => 0) ⟨#[], #[.slice none 0 0, .slice none 0 0], []⟩).memory Tryz.f4.params.toList Rows.setopUnionSpec.vars false (#[.slice none 0 0, .slice none 0 0] : Array Value).toList 8 = some ([.nil, .nil], [], places) :=
  ⟨[], by kernel_rfl⟩

set_option maxRecDepth 100000 in
theorem suni_lifted (os : Os) (started : os.Started) (H : Type) (enc : TypeId × Value → H) (F : Stop.Interp) :
    ReturnsInHanded {} Tryz.checked os 4 .any ((Rows.OpenSpec.upto Rows.setopUnionSpec).preRow enc Tryz.prog Tryz.f4 Rows.setopUnionUptoRow.domain false Rows.setopUnionUptoRow.laid) (((Rows.OpenSpec.upto Rows.setopUnionSpec).at F).post enc Tryz.prog Tryz.f4 false true false false) := by
  obtain ⟨places, hx⟩ := suni_reads os enc
  refine returnsInHanded_of_row (C := Tryz.checked) (s := Rows.OpenSpec.upto Rows.setopUnionSpec) own started (by kernel_rfl) Tryz.func4
    (witness_row_at (enc := enc) (C := Tryz.checked) false (laidWorld os) #[.slice none 0 0, .slice none 0 0] rfl (by kernel_rfl) (by kernel_rfl) (by kernel_rfl)
      (OpenSpec.preRow_of_cond 8 hx (by kernel_rfl) (fun k hk => by cases hk; kernel_rfl) (by kernel_rfl) (laid_met os _))) ?_
  intro W base args ds gs before hval hW _ hcond _ hlaid hsh _
  exact suni_contract H enc W base args ds gs before hval hW (hcond _ rfl) (pow_of_laid hlaid)

theorem suni_said : Rows.SetopUnionUptoSaid :=
  OpenClaim.holds_of_cond 4 Tryz.f4 rfl rfl rfl rfl rfl rfl rfl ⟨rfl, rfl, rfl, rfl, rfl⟩ rfl rfl rfl rfl rfl (by kernel_rfl) Tryz.func4 (by kernel_rfl)
    (of_decide_eq_true (by kernel_rfl)) (by unfold Func.isWrapper; first | (rw [if_pos (by decide +kernel)]; kernel_rfl) | (rw [if_neg (by decide +kernel)]; exact ⟨rfl, rfl⟩))
    (fun os started H enc _ F => by rw [OpenClaim.pre_eq_preRow]; exact suni_lifted os started H enc F)

/-- No parameter wants a stand-in; the program's own looks are off. -/
theorem suni_plain (f : FuncId) (fn : Func) (hf : Tryz.pinned.checked.prog.funcNamed "annalist/annalistlaw15.SetopUnion" = some f) (hfn : Tryz.pinned.checked.prog.funcs[f]? = some fn) :
    false = Tryz.pinned.checked.prog.looks [] ∧ ∀ (j : Nat) t, fn.params[j]? = some t → Tryz.pinned.checked.prog.wantsStandIn t = false := by
  obtain rfl : f = 4 := Option.some.inj ((show Tryz.prog.funcNamed "annalist/annalistlaw15.SetopUnion" = some 4 by kernel_rfl).symm.trans hf) |>.symm
  obtain rfl : fn = Tryz.f4 := (Option.some.inj (Tryz.func4.symm.trans hfn)).symm
  refine ⟨by kernel_rfl, fun j t ht => ?_⟩
  rw [Tryz.params4] at ht
  obtain rfl : t = 24 := by simpa using Array.mem_of_getElem? ht
  exact (show Tryz.prog.wantsStandIn 24 = false by kernel_rfl)

/-- The card. -/
theorem suni_card : Rows.SetopUnionUptoCardSaid :=
  Claim7.holds_tied_plain_at .later [] _ _ _ _ suni_said (fun _ h => by cases h) (by kernel_rfl) (fun _ h => by cases h) setopUnionUpto_row_tie rfl ⟨rfl, rfl⟩ (by kernel_rfl) rfl suni_plain (by kernel_rfl)
end Go.Proofs.YtngigmpaabmngaaGreatDoor
