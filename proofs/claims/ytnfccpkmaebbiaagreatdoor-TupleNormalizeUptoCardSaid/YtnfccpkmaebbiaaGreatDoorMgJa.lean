/- A part of the proofs: Wno, LawTNorm. No condition beside sizes and tables that read as laid. -/
import Derived.Test.YtnfccpkmaebbiaaGreatDoorMgAd
import Derived.Test.YtnfccpkmaebbiaaGreatDoorMgBa
import Derived.Test.YtnfccpkmaebbiaaGreatDoorCards
import Derived.Test.YtnfccpkmaebbiaaGreatDoorTie
namespace Go.Proofs.YtnfccpkmaebbiaaGreatDoor
open Go.RowKit Go.Lib

set_option maxHeartbeats 4000000 in
set_option maxRecDepth 100000 in
theorem tnorm_walk (v : Value) (l : List Tup) (w : World) (hv : Tups w v l) (hT : Pow w) (hKf : few l 16 = true → ∀ x ∈ l, Keyable x.row) :
    Calls Tryz.prog 5 #[v] w fun e w' => e = .returned (.bool true) ∧ Below w.heap.size w w' := by
  have HF : Hid (Calls Tryz.prog 13 #[v, .int .i64 16] w fun e w' => e = .returned (.bool (few l 16)) ∧ w = w') := (few_any v l 16 (by omega) w hv).mono fun _ _ ⟨h1, h2⟩ => ⟨h1, h2.symm⟩
  have HAW := Lib.hid (awake10_any w hT)
  obtain ⟨a, c, rfl⟩ := hv.shape
  cases hfew : few l 16
  · rw [hfew] at HF
    clear hfew hKf hv hT
    generalize l.length = n at HF ⊢
    go_enter Tryz.func5, Tryz.ntmps5
    go_wp2_with fail
    refine HF.out.mono ?_
    rintro _ w1 ⟨rfl, rfl⟩
    go_wp2_with fail
    refine HAW.out.mono ?_
    rintro _ w2 ⟨rfl, hb⟩
    have HB := Lib.hid hb
    clear hb
    go_wp2_with fail
    go_ret
    exact ⟨rfl, HB.out⟩
  · rw [hfew] at HF
    obtain ⟨hl, hs⟩ := few_of hfew
    have hk := hKf hfew
    have HN := fun W (h : Below w.heap.size w W) => Lib.hid (normalize_any _ l W (hv.below h) (by omega) hk (hT.below h))
    have HR := fun W (h : Below w.heap.size w W) => Lib.hid (rnormalize_any _ l W (hv.below h) (by omega) hs)
    have HN' := Lib.hid HN
    have HR' := Lib.hid HR
    generalize l.length = n at HF HN' HR' hl ⊢
    clear hfew hKf hv hT hs hk HN HR
    go_enter Tryz.func5, Tryz.ntmps5
    go_wp2_with fail
    refine HF.out.mono ?_
    rintro _ w1 ⟨rfl, rfl⟩
    go_wp2_with fail
    refine HAW.out.mono ?_
    rintro _ w2 ⟨rfl, hb2⟩
    have HB2 := Lib.hid hb2
    have HN2 := HN'.out w2 hb2
    clear hb2 HAW HF
    go_wp2_with fail
    refine HN2.out.mono ?_
    rintro _ w3 ⟨T, hT, hTl, vT, rfl, hO3, hb3⟩
    obtain ⟨aT, cT, rfl⟩ := hO3.shape
    have HT := Lib.hid hT
    have HO3 := Lib.hid hO3.sl
    have HB3 := Lib.hid (below_keep HB2.out hb3)
    have HR3 := HR'.out w3 HB3.out
    clear hT hTl hO3 hb3 HN2 HN'
    go_wp2_with fail
    refine HR3.out.mono ?_
    rintro _ w4 ⟨T2, hT2, v2, rfl, hO4, hb4⟩
    obtain ⟨a2, c2, rfl⟩ := hO4.shape
    have e : T2 = T := hT2.unique HT.out
    subst e
    have HSM := Lib.hid (sameTups_any _ _ T2 T2 w4 (HO3.out.below hb4) hO4.sl)
    rw [sameTups_iff.2 rfl] at HSM
    have HB4 := Lib.hid (below_keep HB3.out hb4)
    clear hT2 hO4 hb4 HR3 HR'
    go_wp2_with fail
    refine HSM.out.mono ?_
    rintro _ w6 ⟨rfl, hb6⟩
    have HB6 := Lib.hid (below_keep HB4.out hb6)
    clear hb6
    go_wp2_with fail
    go_ret
    exact ⟨rfl, HB6.out⟩
end Go.Proofs.YtnfccpkmaebbiaaGreatDoor

namespace Go.Proofs.YtnfccpkmaebbiaaGreatDoor
open Go.ChangeShapes Go.WideShapes Go.ChangeAt Go.RowKit
open Go.ChangeMaps (open_string)

set_option maxRecDepth 100000 in
theorem tnorm_contract (H : Type) (enc : TypeId × Value → H) (W : World) (base : Nat) (args : Array Value) (ds gs : List (DataW H)) (before : List MemPlace)
    (hval : ∀ (j : Nat) t v, Tryz.f5.params[j]? = some t → args[j]? = some v → Value.okWide Tryz.prog W .any base t v)
    (hW : DataW.Whole enc Tryz.prog Tryz.f5.params.toList Rows.tupleNormalizeSpec.vars false W args.toList ds gs before) (hk : Rows.uptoSmall H (ds ++ gs) = true) (hT : Pow W) :
    Calls Tryz.prog 5 args W fun e W' => ∃ v, e = .returned v ∧ Rows.tupleNormalizeSpec.post enc Tryz.prog Tryz.f5 false true false false W args v W' := by
  have hW' := hW
  obtain ⟨p, q, hA0, hV, rfl, hfz, hnd⟩ := hW
  have hA : DataW.TrodAll enc Tryz.prog W 0 (fun _ => true) true Tryz.f5.params.toList args.toList ds p := hA0
  rw [Tryz.params5] at hA hval
  obtain ⟨v0, vs0, d0, ds0, p0, q0, hargs, rfl, rfl, h0, r0⟩ := trodAll_cons hA
  obtain ⟨rfl, rfl, rfl⟩ := trodAll_nil r0
  obtain rfl : args = #[v0] := by cases args; simp_all
  obtain ⟨rfl, rfl⟩ := trodVars_none hV
  obtain ⟨l0, hl0, hp0⟩ := open_tups_b (hval 0 22 v0 rfl rfl) h0 (bulk_le hk (by simp))
  refine (tnorm_walk v0 l0 W hl0 hT (keyable_few hp0)).mono fun e W' ⟨he, hb⟩ => ⟨_, he, ?_⟩
  refine law_post rfl rfl (by intro t ht; rw [Tryz.params5] at ht; simp at ht; subst ht; exact ⟨by kernel_rfl, of_decide_eq_true (by kernel_rfl)⟩) rfl hW' hb

theorem tnorm_reads (os : Os) {H : Type} (enc : TypeId × Value → H) : ∃ places, DataW.whole enc Tryz.prog ((laidWorld os).forCall (fun _ _ => 0) ⟨#[], #[.slice none 0 0], []⟩).memory Tryz.f5.params.toList Rows.tupleNormalizeSpec.vars false (#[.slice none 0 0] : Array Value).toList 8 = some ([.nil], [], places) :=
  ⟨[], by kernel_rfl⟩

set_option maxRecDepth 100000 in
theorem tnorm_lifted (os : Os) (started : os.Started) (H : Type) (enc : TypeId × Value → H) (F : Stop.Interp) :
    ReturnsInHanded {} Tryz.checked os 5 .any ((Rows.OpenSpec.upto Rows.tupleNormalizeSpec).preRow enc Tryz.prog Tryz.f5 Rows.tupleNormalizeUptoRow.domain false Rows.tupleNormalizeUptoRow.laid) (((Rows.OpenSpec.upto Rows.tupleNormalizeSpec).at F).post enc Tryz.prog Tryz.f5 false true false false) := by
  obtain ⟨places, hx⟩ := tnorm_reads os enc
  refine returnsInHanded_of_row (C := Tryz.checked) (s := Rows.OpenSpec.upto Rows.tupleNormalizeSpec) own started (by kernel_rfl) Tryz.func5
    (witness_row_at (enc := enc) (C := Tryz.checked) false (laidWorld os) #[.slice none 0 0] rfl (by kernel_rfl) (by kernel_rfl) (by kernel_rfl)
      (OpenSpec.preRow_of_cond 8 hx (by kernel_rfl) (fun k hk => by cases hk; kernel_rfl) (by kernel_rfl) (laid_met os _))) ?_
  intro W base args ds gs before hval hW _ hcond _ hlaid hsh _
  exact tnorm_contract H enc W base args ds gs before hval hW (hcond _ rfl) (pow_of_laid hlaid)

theorem tnorm_said : Rows.TupleNormalizeUptoSaid :=
  OpenClaim.holds_of_cond 5 Tryz.f5 rfl rfl rfl rfl rfl rfl rfl ⟨rfl, rfl, rfl, rfl, rfl⟩ rfl rfl rfl rfl rfl (by kernel_rfl) Tryz.func5 (by kernel_rfl)
    (of_decide_eq_true (by kernel_rfl)) (by unfold Func.isWrapper; first | (rw [if_pos (by decide +kernel)]; kernel_rfl) | (rw [if_neg (by decide +kernel)]; exact ⟨rfl, rfl⟩))
    (fun os started H enc _ F => by rw [OpenClaim.pre_eq_preRow]; exact tnorm_lifted os started H enc F)

/-- No parameter wants a stand-in; the program's own looks are off. -/
theorem tnorm_plain (f : FuncId) (fn : Func) (hf : Tryz.pinned.checked.prog.funcNamed "annalist/annalistlaw10.TupleNormalize" = some f) (hfn : Tryz.pinned.checked.prog.funcs[f]? = some fn) :
    false = Tryz.pinned.checked.prog.looks [] ∧ ∀ (j : Nat) t, fn.params[j]? = some t → Tryz.pinned.checked.prog.wantsStandIn t = false := by
  obtain rfl : f = 5 := Option.some.inj ((show Tryz.prog.funcNamed "annalist/annalistlaw10.TupleNormalize" = some 5 by kernel_rfl).symm.trans hf) |>.symm
  obtain rfl : fn = Tryz.f5 := (Option.some.inj (Tryz.func5.symm.trans hfn)).symm
  refine ⟨by kernel_rfl, fun j t ht => ?_⟩
  rw [Tryz.params5] at ht
  obtain rfl : t = 22 := by simpa using Array.mem_of_getElem? ht
  exact (show Tryz.prog.wantsStandIn 22 = false by kernel_rfl)

/-- The card. -/
theorem tnorm_card : Rows.TupleNormalizeUptoCardSaid :=
  Claim7.holds_tied_plain_at .later [] _ _ _ _ tnorm_said (fun _ h => by cases h) (by kernel_rfl) (fun _ h => by cases h) tupleNormalizeUpto_row_tie rfl ⟨rfl, rfl⟩ (by kernel_rfl) rfl tnorm_plain (by kernel_rfl)
end Go.Proofs.YtnfccpkmaebbiaaGreatDoor
