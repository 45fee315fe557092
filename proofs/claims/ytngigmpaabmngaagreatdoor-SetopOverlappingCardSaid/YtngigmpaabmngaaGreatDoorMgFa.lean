/- A part of the proofs: Sow, LawSOvl. No condition beside sizes and tables that read as laid. -/
import Derived.Test.YtngigmpaabmngaaGreatDoorMgBb
import Derived.Test.YtngigmpaabmngaaGreatDoorMgAf
import Derived.Test.YtngigmpaabmngaaGreatDoorMgAg
import Derived.Test.YtngigmpaabmngaaGreatDoorCards
import Derived.Test.YtngigmpaabmngaaGreatDoorTie
namespace Go.Proofs.YtngigmpaabmngaaGreatDoor
open Go.RowKit Go.Lib

set_option maxHeartbeats 8000000 in
set_option maxRecDepth 100000 in
theorem sover_walk (v u : Value) (xs ys : List U5) (w : World) (hv : Sl u5E w free v xs) (hok : ∀ x ∈ xs, x.ok) (hu : Sl u5E w free u ys) (hok2 : ∀ x ∈ ys, x.ok) (hT : Pow w) :
    Calls Tryz.prog 6 #[v, u] w fun e w' => e = .returned (.bool true) ∧ Below w.heap.size w w' := by
  have HT := Lib.hid hT
  have HTA := Lib.hid (tuples_any v xs 10 (by decide) w hv hok)
  have HTB := Lib.hid (fun W (h : Below w.heap.size w W) => tuples_any u ys 10 (by decide) W (hu.below h) hok2)
  have hla := tupsOf_length xs 10
  have hlb := tupsOf_length ys 10
  have hka := mem_two (tups_keyable xs 10) (tups_keyable ys 10)
  have hqa := mem_two (tups_lin1 xs 10) (tups_lin1 ys 10)
  have hsa := tups_small xs 10
  have hsb := tups_small ys 10
  obtain ⟨a, ha⟩ : ∃ l, l = tupsOf xs 10 := ⟨_, rfl⟩
  obtain ⟨b, hb⟩ : ∃ l, l = tupsOf ys 10 := ⟨_, rfl⟩
  rw [← ha] at HTA hla hka hqa hsa
  rw [← hb] at HTB hlb hka hqa hsb
  have HKA := Lib.hid hka
  have HQA := Lib.hid hqa
  have HA40 : Hid (∀ x ∈ a, x.vals.length ≤ 1000 ∧ x.lin.length ≤ 40) := Lib.hid (fun x hx => ⟨(hsa x hx).1, by have := mem_left hqa x hx; omega⟩)
  have HB40 : Hid (∀ x ∈ b, x.vals.length ≤ 1000 ∧ x.lin.length ≤ 40) := Lib.hid (fun x hx => ⟨(hsb x hx).1, by have := mem_right hqa x hx; omega⟩)
  clear hv hok hu hok2 hT ha hb hka hqa hsa hsb
  go_enter Tryz.func6, Tryz.ntmps6
  have HC1 := Lib.hid (HTA.out)
  go_wp2_with fail
  refine HC1.out.mono ?_
  rintro _ w1 ⟨vA, rfl, hOA, hb1⟩
  obtain ⟨aA, cA, rfl⟩ := hOA.shape
  have HB_1 := Lib.hid hb1
  have A_1 := Lib.hid (hOA.sl)
  clear hb1 HC1  hOA HTA
  have HC2 := Lib.hid (HTB.out w1 HB_1.out)
  go_wp2_with fail
  refine HC2.out.mono ?_
  rintro _ w2 ⟨vB, rfl, hOB, hb2⟩
  obtain ⟨aB, cB, rfl⟩ := hOB.shape
  have A_2 := Lib.hid (A_1.out.below hb2)
  have HB_2 := Lib.hid (below_keep HB_1.out hb2)
  have B_2 := Lib.hid (hOB.sl)
  clear hb2 HC2 A_1 HB_1 hOB HTB
  have HC3 := Lib.hid (awake15_any w2 (HT.out.below HB_2.out))
  go_wp2_with fail
  refine HC3.out.mono ?_
  rintro _ w3 ⟨rfl, hb3⟩
  have A_3 := Lib.hid (A_2.out.below hb3)
  have B_3 := Lib.hid (B_2.out.below hb3)
  have HB_3 := Lib.hid (below_keep HB_2.out hb3)
  clear hb3 HC3 A_2 B_2 HB_2 
  have HC4 := Lib.hid (except_any _ _ a b 1 w3 A_3.out B_3.out HKA.out HQA.out (by omega) (sop_small (by omega)) (HT.out.below HB_3.out))
  go_wp2_with fail
  refine HC4.out.mono ?_
  rintro _ w4 ⟨D, hD, hlD, vD, rfl, hOD, hb4⟩
  obtain ⟨aD, cD, rfl⟩ := hOD.shape
  have ND := Lib.hid hD
  have A_4 := Lib.hid (A_3.out.below hb4)
  have B_4 := Lib.hid (B_3.out.below hb4)
  have HB_4 := Lib.hid (below_keep HB_3.out hb4)
  have FD_4 := Lib.hid (hOD.sl)
  clear hb4 HC4 A_3 B_3 HB_3 hOD hD hlD
  have HC5 := Lib.hid (binary_any 1 (by decide) _ _ a b w4 A_4.out B_4.out (fun h => absurd h (by decide)) (by omega) (by first | omega | simp) HA40.out HB40.out)
  go_wp2_with fail
  refine HC5.out.mono ?_
  rintro _ w5 ⟨DR, hDR, vDR, rfl, hODR, hb5⟩
  obtain ⟨aDR, cDR, rfl⟩ := hODR.shape
  obtain rfl : D = DR := (bin_exc ND.out hDR).symm
  have A_5 := Lib.hid (A_4.out.below hb5)
  have B_5 := Lib.hid (B_4.out.below hb5)
  have FD_5 := Lib.hid (FD_4.out.below hb5)
  have HB_5 := Lib.hid (below_keep HB_4.out hb5)
  have FD2_5 := Lib.hid (hODR.sl)
  clear hb5 HC5 A_4 B_4 FD_4 HB_4 hODR hDR ND
  have HC6 := Lib.hid (sameTups_true _ _ D w5 FD_5.out FD2_5.out)
  go_wp2_with fail
  refine HC6.out.mono ?_
  rintro _ w6 ⟨rfl, hb6⟩
  have A_6 := Lib.hid (A_5.out.below hb6)
  have B_6 := Lib.hid (B_5.out.below hb6)
  have FD_6 := Lib.hid (FD_5.out.below hb6)
  have FD2_6 := Lib.hid (FD2_5.out.below hb6)
  have HB_6 := Lib.hid (below_keep HB_5.out hb6)
  clear hb6 HC6 A_5 B_5 FD_5 FD2_5 HB_5 
  have HC7 := Lib.hid (intersect_any _ _ a b 1 w6 A_6.out B_6.out HKA.out HQA.out (by omega) (sop_small (by omega)) (HT.out.below HB_6.out))
  go_wp2_with fail
  refine HC7.out.mono ?_
  rintro _ w7 ⟨M, hM, hlM, vM, rfl, hOM, hb7⟩
  obtain ⟨aM, cM, rfl⟩ := hOM.shape
  have NM := Lib.hid hM
  have A_7 := Lib.hid (A_6.out.below hb7)
  have B_7 := Lib.hid (B_6.out.below hb7)
  have HB_7 := Lib.hid (below_keep HB_6.out hb7)
  have FM_7 := Lib.hid (hOM.sl)
  clear hb7 HC7 A_6 B_6 HB_6 hOM hM hlM
  have HC8 := Lib.hid (binary_any 2 (by decide) _ _ a b w7 A_7.out B_7.out (fun h => absurd h (by decide)) (by omega) (by first | omega | simp) HA40.out HB40.out)
  go_wp2_with fail
  refine HC8.out.mono ?_
  rintro _ w8 ⟨MR, hMR, vMR, rfl, hOMR, hb8⟩
  obtain ⟨aMR, cMR, rfl⟩ := hOMR.shape
  obtain rfl : M = MR := (bin_int NM.out hMR).symm
  have A_8 := Lib.hid (A_7.out.below hb8)
  have B_8 := Lib.hid (B_7.out.below hb8)
  have FM_8 := Lib.hid (FM_7.out.below hb8)
  have HB_8 := Lib.hid (below_keep HB_7.out hb8)
  have FM2_8 := Lib.hid (hOMR.sl)
  clear hb8 HC8 A_7 B_7 FM_7 HB_7 hOMR hMR NM
  have HC9 := Lib.hid (sameTups_true _ _ M w8 FM_8.out FM2_8.out)
  go_wp2_with fail
  refine HC9.out.mono ?_
  rintro _ w9 ⟨rfl, hb9⟩
  have A_9 := Lib.hid (A_8.out.below hb9)
  have B_9 := Lib.hid (B_8.out.below hb9)
  have FM_9 := Lib.hid (FM_8.out.below hb9)
  have FM2_9 := Lib.hid (FM2_8.out.below hb9)
  have HB_9 := Lib.hid (below_keep HB_8.out hb9)
  clear hb9 HC9 A_8 B_8 FM_8 FM2_8 HB_8 
  have HC10 := Lib.hid (distinct_any _ a 1 w9 A_9.out (mem_left HKA.out) (mem_left HQA.out) (by simp; omega) (sop_small (by simp; omega)) (HT.out.below HB_9.out))
  go_wp2_with fail
  refine HC10.out.mono ?_
  rintro _ w10 ⟨E, hE, hlE, vE, rfl, hOE, hb10⟩
  obtain ⟨aE, cE, rfl⟩ := hOE.shape
  have NE := Lib.hid hE
  have A_10 := Lib.hid (A_9.out.below hb10)
  have B_10 := Lib.hid (B_9.out.below hb10)
  have HB_10 := Lib.hid (below_keep HB_9.out hb10)
  have FE_10 := Lib.hid (hOE.sl)
  clear hb10 HC10 A_9 B_9 HB_9 hOE hE hlE
  have HC11 := Lib.hid (binary_any 3 (by decide) _ (.slice none 0 0) a [] w10 A_10.out (Sl.nil _ _ _ 0 none) (fun _ => rfl) (by omega) (by first | omega | simp) HA40.out (fun _ h => by cases h))
  go_wp2_with fail
  refine HC11.out.mono ?_
  rintro _ w11 ⟨ER, hER, vER, rfl, hOER, hb11⟩
  obtain ⟨aER, cER, rfl⟩ := hOER.shape
  obtain rfl : E = ER := (bin_dis NE.out hER).symm
  have A_11 := Lib.hid (A_10.out.below hb11)
  have B_11 := Lib.hid (B_10.out.below hb11)
  have FE_11 := Lib.hid (FE_10.out.below hb11)
  have HB_11 := Lib.hid (below_keep HB_10.out hb11)
  have FE2_11 := Lib.hid (hOER.sl)
  clear hb11 HC11 A_10 B_10 FE_10 HB_10 hOER hER NE
  have HC12 := Lib.hid (sameTups_true _ _ E w11 FE_11.out FE2_11.out)
  go_wp2_with fail
  refine HC12.out.mono ?_
  rintro _ w12 ⟨rfl, hb12⟩
  have A_12 := Lib.hid (A_11.out.below hb12)
  have B_12 := Lib.hid (B_11.out.below hb12)
  have FE_12 := Lib.hid (FE_11.out.below hb12)
  have FE2_12 := Lib.hid (FE2_11.out.below hb12)
  have HB_12 := Lib.hid (below_keep HB_11.out hb12)
  clear hb12 HC12 A_11 B_11 FE_11 FE2_11 HB_11 
  go_wp2_with fail
  go_ret
  exact ⟨rfl, HB_12.out⟩
end Go.Proofs.YtngigmpaabmngaaGreatDoor

namespace Go.Proofs.YtngigmpaabmngaaGreatDoor
open Go.ChangeShapes Go.WideShapes Go.ChangeAt Go.RowKit
open Go.ChangeMaps (open_string)

set_option maxRecDepth 100000 in
theorem sovl_contract (H : Type) (enc : TypeId × Value → H) (W : World) (base : Nat) (args : Array Value) (ds gs : List (DataW H)) (before : List MemPlace)
    (hval : ∀ (j : Nat) t v, Tryz.f6.params[j]? = some t → args[j]? = some v → Value.okWide Tryz.prog W .any base t v)
    (hW : DataW.Whole enc Tryz.prog Tryz.f6.params.toList Rows.setopOverlappingSpec.vars false W args.toList ds gs before) (hT : Pow W) :
    Calls Tryz.prog 6 args W fun e W' => ∃ v, e = .returned v ∧ Rows.setopOverlappingSpec.post enc Tryz.prog Tryz.f6 false true false false W args v W' := by
  have hW' := hW
  obtain ⟨p, q, hA0, hV, rfl, hfz, hnd⟩ := hW
  have hA : DataW.TrodAll enc Tryz.prog W 0 (fun _ => true) true Tryz.f6.params.toList args.toList ds p := hA0
  rw [Tryz.params6] at hA hval
  obtain ⟨v0, vs0, d0, ds0, p0, q0, hargs, rfl, rfl, h0, r0⟩ := trodAll_cons hA
  obtain ⟨v1, vs1, d1, ds1, p1, q1, rfl, rfl, rfl, h1, r1⟩ := trodAll_cons r0
  obtain ⟨rfl, rfl, rfl⟩ := trodAll_nil r1
  obtain rfl : args = #[v0, v1] := by cases args; simp_all
  obtain ⟨rfl, rfl⟩ := trodVars_none hV
  obtain ⟨l0, hl0, hp0⟩ := open_sl u5E U5.ok Tryz.underlying22 cells_u5 (hval 0 22 v0 rfl rfl) open_u5_el h0
  obtain ⟨l1, hl1, hp1⟩ := open_sl u5E U5.ok Tryz.underlying22 cells_u5 (hval 1 22 v1 rfl rfl) open_u5_el h1
  refine (sover_walk v0 v1 l0 l1 W hl0 hp0 hl1 hp1 hT).mono fun e W' ⟨he, hb⟩ => ⟨_, he, ?_⟩
  refine law_post rfl rfl (by intro t ht; rw [Tryz.params6] at ht; simp at ht; subst ht; exact ⟨by kernel_rfl, of_decide_eq_true (by kernel_rfl)⟩) rfl hW' hb

theorem sovl_reads (os : Os) {H : Type} (enc : TypeId × Value → H) : ∃ places, DataW.whole enc Tryz.prog ((laidWorld os).forCall (fun _ _ => 0) ⟨#[], #[.slice none 0 0, .slice none 0 0], []⟩).memory Tryz.f6.params.toList Rows.setopOverlappingSpec.vars false (#[.slice none 0 0, .slice none 0 0] : Array Value).toList 8 = some ([.nil, .nil], [], places) :=
  ⟨[], by kernel_rfl⟩

set_option maxRecDepth 100000 in
theorem sovl_lifted (os : Os) (started : os.Started) (H : Type) (enc : TypeId × Value → H) (F : Stop.Interp) :
    ReturnsInHanded {} Tryz.checked os 6 .any ((OpenSpec.ofChange Rows.setopOverlappingSpec).preRow enc Tryz.prog Tryz.f6 Rows.setopOverlappingRow.domain false Rows.setopOverlappingRow.laid) (((OpenSpec.ofChange Rows.setopOverlappingSpec).at F).post enc Tryz.prog Tryz.f6 false true false false) := by
  obtain ⟨places, hx⟩ := sovl_reads os enc
  refine returnsInHanded_of_row (C := Tryz.checked) (s := OpenSpec.ofChange Rows.setopOverlappingSpec) own started (by kernel_rfl) Tryz.func6
    (witness_row_at (enc := enc) (C := Tryz.checked) false (laidWorld os) #[.slice none 0 0, .slice none 0 0] rfl (by kernel_rfl) (by kernel_rfl) (by kernel_rfl)
      (OpenSpec.preRow_of_cond 8 hx (by kernel_rfl) (fun k hk => by cases hk) (by kernel_rfl) (laid_met os _))) ?_
  intro W base args ds gs before hval hW _ hcond _ hlaid hsh _
  exact sovl_contract H enc W base args ds gs before hval hW (pow_of_laid hlaid)

theorem sovl_said : Rows.SetopOverlappingSaid :=
  OpenClaim.holds_of_cond 6 Tryz.f6 rfl rfl rfl rfl rfl rfl rfl ⟨rfl, rfl, rfl, rfl, rfl⟩ rfl rfl rfl rfl rfl (by kernel_rfl) Tryz.func6 (by kernel_rfl)
    (of_decide_eq_true (by kernel_rfl)) (by unfold Func.isWrapper; first | (rw [if_pos (by decide +kernel)]; kernel_rfl) | (rw [if_neg (by decide +kernel)]; exact ⟨rfl, rfl⟩))
    (fun os started H enc _ F => by rw [OpenClaim.pre_eq_preRow]; exact sovl_lifted os started H enc F)

/-- No parameter wants a stand-in; the program's own looks are off. -/
theorem sovl_plain (f : FuncId) (fn : Func) (hf : Tryz.pinned.checked.prog.funcNamed "annalist/annalistlaw15.SetopOverlapping" = some f) (hfn : Tryz.pinned.checked.prog.funcs[f]? = some fn) :
    false = Tryz.pinned.checked.prog.looks [] ∧ ∀ (j : Nat) t, fn.params[j]? = some t → Tryz.pinned.checked.prog.wantsStandIn t = false := by
  obtain rfl : f = 6 := Option.some.inj ((show Tryz.prog.funcNamed "annalist/annalistlaw15.SetopOverlapping" = some 6 by kernel_rfl).symm.trans hf) |>.symm
  obtain rfl : fn = Tryz.f6 := (Option.some.inj (Tryz.func6.symm.trans hfn)).symm
  refine ⟨by kernel_rfl, fun j t ht => ?_⟩
  rw [Tryz.params6] at ht
  obtain rfl : t = 22 := by simpa using Array.mem_of_getElem? ht
  exact (show Tryz.prog.wantsStandIn 22 = false by kernel_rfl)

/-- The card. -/
theorem sovl_card : Rows.SetopOverlappingCardSaid :=
  Claim7.holds_tied_plain_at .later [] _ _ _ _ sovl_said (fun _ h => by cases h) (by kernel_rfl) (fun _ h => by cases h) setopOverlapping_row_tie rfl ⟨rfl, rfl⟩ (by kernel_rfl) rfl sovl_plain (by kernel_rfl)
end Go.Proofs.YtngigmpaabmngaaGreatDoor
