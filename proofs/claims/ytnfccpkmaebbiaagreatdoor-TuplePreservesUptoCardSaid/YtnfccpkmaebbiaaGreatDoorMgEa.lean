/- A part of the proofs: Wpr, LawTPres. No condition beside sizes and tables that read as laid. -/
import Derived.Test.YtnfccpkmaebbiaaGreatDoorMgAd
import Derived.Test.YtnfccpkmaebbiaaGreatDoorCards
import Derived.Test.YtnfccpkmaebbiaaGreatDoorTie
namespace Go.Proofs.YtnfccpkmaebbiaaGreatDoor
open Go.RowKit Go.Lib

set_option maxHeartbeats 4000000 in
set_option maxRecDepth 100000 in
theorem tpres_walk (v : Value) (l : List Tup) (t : Int) (w : World) (hv : Tups w v l) (hT : Pow w) (hKf : few l 16 = true → ∀ x ∈ l, Keyable x.row) :
    Calls Tryz.prog 6 #[v, .int .i64 t] w fun e w' => e = .returned (.bool true) ∧ Below w.heap.size w w' := by
  have HF : Hid (Calls Tryz.prog 13 #[v, .int .i64 16] w fun e w' => e = .returned (.bool (few l 16)) ∧ w = w') := (few_any v l 16 (by omega) w hv).mono fun _ _ ⟨h1, h2⟩ => ⟨h1, h2.symm⟩
  have HAW := Lib.hid (awake10_any w hT)
  obtain ⟨a, c, rfl⟩ := hv.shape
  have HV := Lib.hid hv
  have HT := Lib.hid hT
  cases hfew : few l 16
  · rw [hfew] at HF
    clear hfew hKf hv hT
    generalize l.length = n at HF ⊢
    go_enter Tryz.func6, Tryz.ntmps6
    go_wp2_with fail
    refine HF.out.mono ?_
    rintro _ w1 ⟨rfl, rfl⟩
    go_wp2_with fail
    refine HAW.out.mono ?_
    rintro _ w2 ⟨rfl, hb⟩
    have HB := Lib.hid hb
    clear hb
    go_wp2_with fail
    go_ret
    exact ⟨rfl, HB.out⟩
  · rw [hfew] at HF
    obtain ⟨hl, hs⟩ := few_of hfew
    have hk := hKf hfew
    have HN := fun W (h : Below w.heap.size w W) => Lib.hid (normalize_any _ l W (hv.below h) (by omega) hk (hT.below h))
    have HTS := fun W (h : Below w.heap.size w W) => Lib.hid (timeslice_any _ l t W (hv.below h) (by omega) hs)
    have HTT : ∀ T, IsNF l T → ∀ x ∈ T, x.vals.length ≤ 1000 ∧ x.lin.length ≤ 1000 := fun T h => h.small hk
    have HN' := Lib.hid HN
    have HTS' := Lib.hid HTS
    have HTT' := Lib.hid HTT
    generalize l.length = n at HF HN' HTS' hl ⊢
    clear hfew hKf hv hT hs hk HN HTS HTT
    go_enter Tryz.func6, Tryz.ntmps6
    go_wp2_with fail
    refine HF.out.mono ?_
    rintro _ w1 ⟨rfl, rfl⟩
    go_wp2_with fail
    refine HAW.out.mono ?_
    rintro _ w2 ⟨rfl, hb2⟩
    have HB2 := Lib.hid hb2
    have HN2 := HN'.out w2 hb2
    clear hb2 HAW HF
    go_wp2_with fail
    refine HN2.out.mono ?_
    rintro _ w3 ⟨T, hT, hTl, vT, rfl, hO3, hb3⟩
    obtain ⟨aT, cT, rfl⟩ := hO3.shape
    have HD := Lib.hid (sortR_day hT.day t)
    have HB3 := Lib.hid (below_keep HB2.out hb3)
    have HT1 := Lib.hid (timeslice_any _ T t w3 hO3.sl (by omega) (HTT'.out T hT))
    rw [HD.out] at HT1
    clear hT hTl hO3 hb3 HN2 HN' HTT'
    go_wp2_with fail
    refine HT1.out.mono ?_
    rintro _ w4 ⟨vr, rfl, hO4, hb4⟩
    obtain ⟨ar, cr, rfl⟩ := hO4.shape
    have HR4 := Lib.hid hO4.sl
    have HB4 := Lib.hid (below_keep HB3.out hb4)
    have HT2 := HTS'.out w4 HB4.out
    clear hO4 hb4 HT1 HTS'
    go_wp2_with fail
    refine HT2.out.mono ?_
    rintro _ w5 ⟨vq, rfl, hO5, hb5⟩
    obtain ⟨aq, cq, rfl⟩ := hO5.shape
    have HB5 := Lib.hid (below_keep HB4.out hb5)
    have HSM := Lib.hid (sameRows_eq _ _ _ w5 (HR4.out.below hb5) hO5.sl)
    clear hO5 hb5 HT2
    go_wp2_with fail
    refine HSM.out.mono ?_
    rintro _ w6 ⟨rfl, hb6⟩
    have HB6 := Lib.hid (below_keep HB5.out hb6)
    clear hb6
    go_wp2_with fail
    go_ret
    exact ⟨rfl, HB6.out⟩
end Go.Proofs.YtnfccpkmaebbiaaGreatDoor

namespace Go.Proofs.YtnfccpkmaebbiaaGreatDoor
open Go.ChangeShapes Go.WideShapes Go.ChangeAt Go.RowKit
open Go.ChangeMaps (open_string)

set_option maxRecDepth 100000 in
theorem tpres_contract (H : Type) (enc : TypeId × Value → H) (W : World) (base : Nat) (args : Array Value) (ds gs : List (DataW H)) (before : List MemPlace)
    (hval : ∀ (j : Nat) t v, Tryz.f6.params[j]? = some t → args[j]? = some v → Value.okWide Tryz.prog W .any base t v)
    (hW : DataW.Whole enc Tryz.prog Tryz.f6.params.toList Rows.tuplePreservesSpec.vars false W args.toList ds gs before) (hk : Rows.uptoSmall H (ds ++ gs) = true) (hT : Pow W) :
    Calls Tryz.prog 6 args W fun e W' => ∃ v, e = .returned v ∧ Rows.tuplePreservesSpec.post enc Tryz.prog Tryz.f6 false true false false W args v W' := by
  have hW' := hW
  obtain ⟨p, q, hA0, hV, rfl, hfz, hnd⟩ := hW
  have hA : DataW.TrodAll enc Tryz.prog W 0 (fun _ => true) true Tryz.f6.params.toList args.toList ds p := hA0
  rw [Tryz.params6] at hA hval
  obtain ⟨v0, vs0, d0, ds0, p0, q0, hargs, rfl, rfl, h0, r0⟩ := trodAll_cons hA
  obtain ⟨v1, vs1, d1, ds1, p1, q1, rfl, rfl, rfl, h1, r1⟩ := trodAll_cons r0
  obtain ⟨rfl, rfl, rfl⟩ := trodAll_nil r1
  obtain rfl : args = #[v0, v1] := by cases args; simp_all
  obtain ⟨rfl, rfl⟩ := trodVars_none hV
  obtain ⟨l0, hl0, hp0⟩ := open_tups_b (hval 0 22 v0 rfl rfl) h0 (bulk_le hk (by simp))
  obtain ⟨x1, rfl, rfl, rfl, wx1⟩ := open_int Tryz.underlying3 (hval 1 3 v1 rfl rfl) h1
  refine (tpres_walk v0 l0 x1 W hl0 hT (keyable_few hp0)).mono fun e W' ⟨he, hb⟩ => ⟨_, he, ?_⟩
  refine law_post rfl rfl (by intro t ht; rw [Tryz.params6] at ht; simp at ht; rcases ht with rfl | rfl <;> exact ⟨by kernel_rfl, of_decide_eq_true (by kernel_rfl)⟩) rfl hW' hb

theorem tpres_reads (os : Os) {H : Type} (enc : TypeId × Value → H) : ∃ places, DataW.whole enc Tryz.prog ((laidWorld os).forCall (fun _ _ => 0) ⟨#[], #[.slice none 0 0, .int .i64 0], []⟩).memory Tryz.f6.params.toList Rows.tuplePreservesSpec.vars false (#[.slice none 0 0, .int .i64 0] : Array Value).toList 8 = some ([.nil, .lit (.int .i64 0)], [], places) :=
  ⟨[], by kernel_rfl⟩

set_option maxRecDepth 100000 in
theorem tpres_lifted (os : Os) (started : os.Started) (H : Type) (enc : TypeId × Value → H) (F : Stop.Interp) :
    ReturnsInHanded {} Tryz.checked os 6 .any ((Rows.OpenSpec.upto Rows.tuplePreservesSpec).preRow enc Tryz.prog Tryz.f6 Rows.tuplePreservesUptoRow.domain false Rows.tuplePreservesUptoRow.laid) (((Rows.OpenSpec.upto Rows.tuplePreservesSpec).at F).post enc Tryz.prog Tryz.f6 false true false false) := by
  obtain ⟨places, hx⟩ := tpres_reads os enc
  refine returnsInHanded_of_row (C := Tryz.checked) (s := Rows.OpenSpec.upto Rows.tuplePreservesSpec) own started (by kernel_rfl) Tryz.func6
    (witness_row_at (enc := enc) (C := Tryz.checked) false (laidWorld os) #[.slice none 0 0, .int .i64 0] rfl (by kernel_rfl) (by kernel_rfl) (by kernel_rfl)
      (OpenSpec.preRow_of_cond 8 hx (by kernel_rfl) (fun k hk => by cases hk; kernel_rfl) (by kernel_rfl) (laid_met os _))) ?_
  intro W base args ds gs before hval hW _ hcond _ hlaid hsh _
  exact tpres_contract H enc W base args ds gs before hval hW (hcond _ rfl) (pow_of_laid hlaid)

theorem tpres_said : Rows.TuplePreservesUptoSaid :=
  OpenClaim.holds_of_cond 6 Tryz.f6 rfl rfl rfl rfl rfl rfl rfl ⟨rfl, rfl, rfl, rfl, rfl⟩ rfl rfl rfl rfl rfl (by kernel_rfl) Tryz.func6 (by kernel_rfl)
    (of_decide_eq_true (by kernel_rfl)) (by unfold Func.isWrapper; first | (rw [if_pos (by decide +kernel)]; kernel_rfl) | (rw [if_neg (by decide +kernel)]; exact ⟨rfl, rfl⟩))
    (fun os started H enc _ F => by rw [OpenClaim.pre_eq_preRow]; exact tpres_lifted os started H enc F)

/-- No parameter wants a stand-in; the program's own looks are off. -/
theorem tpres_plain (f : FuncId) (fn : Func) (hf : Tryz.pinned.checked.prog.funcNamed "annalist/annalistlaw10.TuplePreserves" = some f) (hfn : Tryz.pinned.checked.prog.funcs[f]? = some fn) :
    false = Tryz.pinned.checked.prog.looks [] ∧ ∀ (j : Nat) t, fn.params[j]? = some t → Tryz.pinned.checked.prog.wantsStandIn t = false := by
  obtain rfl : f = 6 := Option.some.inj ((show Tryz.prog.funcNamed "annalist/annalistlaw10.TuplePreserves" = some 6 by kernel_rfl).symm.trans hf) |>.symm
  obtain rfl : fn = Tryz.f6 := (Option.some.inj (Tryz.func6.symm.trans hfn)).symm
  refine ⟨by kernel_rfl, fun j t ht => ?_⟩
  rw [Tryz.params6] at ht
  have hm := Array.mem_of_getElem? ht
  simp at hm
  rcases hm with rfl | rfl
  · exact (show Tryz.prog.wantsStandIn 22 = false by kernel_rfl)
  · exact (show Tryz.prog.wantsStandIn 3 = false by kernel_rfl)

/-- The card. -/
theorem tpres_card : Rows.TuplePreservesUptoCardSaid :=
  Claim7.holds_tied_plain_at .later [] _ _ _ _ tpres_said (fun _ h => by cases h) (by kernel_rfl) (fun _ h => by cases h) tuplePreservesUpto_row_tie rfl ⟨rfl, rfl⟩ (by kernel_rfl) rfl tpres_plain (by kernel_rfl)
end Go.Proofs.YtnfccpkmaebbiaaGreatDoor
