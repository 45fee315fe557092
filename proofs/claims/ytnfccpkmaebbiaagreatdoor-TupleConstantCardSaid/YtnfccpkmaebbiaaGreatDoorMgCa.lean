/- A part of the proofs: Wcs, LawTConst. No condition beside sizes and tables that read as laid. -/
import Derived.Test.YtnfccpkmaebbiaaGreatDoorMgAd
import Derived.Test.YtnfccpkmaebbiaaGreatDoorCards
import Derived.Test.YtnfccpkmaebbiaaGreatDoorTie
namespace Go.Proofs.YtnfccpkmaebbiaaGreatDoor
open Go.RowKit Go.Lib

set_option maxHeartbeats 4000000 in
set_option maxRecDepth 100000 in
theorem tconst_walk (v : Value) (xs : List U5) (t : Nat) (w : World) (hv : Sl u5E w free v xs) (hok : ∀ x ∈ xs, x.ok) (ht : t < 65536) (hT : Pow w) :
    Calls Tryz.prog 7 #[v, .int .u16 (t : Int)] w fun e w' => e = .returned (.bool true) ∧ Below w.heap.size w w' := by
  have HTU := Lib.hid (tuples_any v xs 14 (by decide) w hv hok)
  have hk := tups_keyable xs 14
  have hs := tups_small xs 14
  have hl := tupsOf_length xs 14
  obtain ⟨l, hl0⟩ : ∃ l, l = tupsOf xs 14 := ⟨_, rfl⟩
  rw [← hl0] at HTU hk hs hl
  have HK := Lib.hid hk
  have HS := Lib.hid hs
  have HT := Lib.hid hT
  obtain ⟨day, hday⟩ : ∃ d : Int, d = (t : Int) % 60 := ⟨_, rfl⟩
  have hd1 : (t : Int) % 60 = day := hday.symm
  have hd2 : 0 ≤ day ∧ day < 60 := by omega
  have hd3 : IntKind.i64.wrap day = day := IntWalk.i64_in _ (by omega)
  have HB4 := fun W (h : Tups W v l) => h
  clear HB4 hv hok hk hs hT hl0 hday
  go_enter Tryz.func7, Tryz.ntmps7
  go_wp2_with fail
  refine HTU.out.mono ?_
  rintro _ w1 ⟨vl, rfl, hO1, hb1⟩
  obtain ⟨al, cl, rfl⟩ := hO1.shape
  have HL1 := Lib.hid hO1.sl
  have HB1 := Lib.hid hb1
  have HBN := Lib.hid (bnds_any _ l w1 hO1.sl (by omega))
  clear hO1 hb1 HTU
  go_wp2_with fail
  refine HBN.out.mono ?_
  rintro _ w2 ⟨vb, rfl, hO2, hb2⟩
  obtain ⟨ab, cb, rfl⟩ := hO2.shape
  have HP2 := Lib.hid hO2.sl
  have HL2 := Lib.hid (HL1.out.below hb2)
  have HB2 := Lib.hid (below_keep HB1.out hb2)
  have hpl := bnds_length l
  obtain ⟨ps, hps⟩ : ∃ ps, ps = bnds l := ⟨_, rfl⟩
  rw [← hps] at HP2 hpl ⊢
  have HPS := Lib.hid hps
  obtain ⟨n, hn⟩ : ∃ n, n = ps.length := ⟨_, rfl⟩
  have HN := Lib.hid hn
  rw [← hn] at HP2 hpl ⊢
  clear hO2 hb2 HBN HL1 HB1 hps hn
  go_wp2_with fail
  go_loop [19, 7] (fun s19 s7 => ∃ k : Nat, k ≤ n ∧ s19 = .int .i64 k ∧ s7 = .int .i64 (lastUp (ps.take k) day)) (fun s19 _ => n - (intOf s19).toNat)
  case atStart => exact ⟨0, Nat.zero_le _, rfl, rfl⟩
  case round =>
    obtain ⟨k, hk, rfl, rfl⟩ := hrel
    by_cases hlt : k < n
    · obtain ⟨p, hp⟩ := lget_some ps k (by rw [← HN.out]; exact hlt)
      obtain ⟨b, o, rfl, p0⟩ := ints_at' HP2.out hp
      have HX : Hid (lastUp (ps.take (k + 1)) day = if p ≤ day then p else lastUp (ps.take k) day) := by show _ = _; rw [take_get hp, lastUp_snoc]
      obtain ⟨z, hz⟩ : ∃ z, z = lastUp (ps.take k) day := ⟨_, rfl⟩
      rw [← hz] at HX ⊢
      clear hp hz
      by_cases hc : p ≤ day
      · have HX' : Hid (lastUp (ps.take (k + 1)) day = p) := by show _ = _; rw [HX.out, if_pos hc]
        go_wp2_with fail
        go_round
        case rel => exact ⟨k + 1, by omega, by go_num, by rw [HX'.out]⟩
        case measure => simp [intOf]; omega
      · have HX' : Hid (lastUp (ps.take (k + 1)) day = z) := by show _ = _; rw [HX.out, if_neg hc]
        go_wp2_with fail
        go_round
        case rel => exact ⟨k + 1, by omega, by go_num, by rw [HX'.out]⟩
        case measure => simp [intOf]; omega
    · have hkk : ps.take k = ps := List.take_of_length_le (by rw [← HN.out]; omega)
      rw [hkk]
      have hlr := last_rows (l := l) (ps := ps) (t := day) (by rw [HPS.out]; exact (bnds_asc l).imp (by intro a b h; omega)) (by intro p; rw [HPS.out]; exact bnds_mem l p)
      obtain ⟨z, hz⟩ : ∃ z, z = lastUp ps day := ⟨_, rfl⟩
      rw [← hz] at hlr ⊢
      have HLR1 := Lib.hid hlr.1
      have HLR2 := Lib.hid hlr.2
      have HTS := Lib.hid (timeslice_any _ l day w2 HL2.out (by omega) HS.out)
      obtain ⟨rows, hrows⟩ : ∃ rows, rows = sortR (atDay l day) := ⟨_, rfl⟩
      rw [← hrows] at HTS
      have HR := Lib.hid hrows
      clear hkk hlr hz hrows
      go_wp2_with fail
      refine HTS.out.mono ?_
      rintro _ w3 ⟨vr, rfl, hO3, hb3⟩
      obtain ⟨ar, cr, rfl⟩ := hO3.shape
      have HR3 := Lib.hid hO3.sl
      have HL3 := Lib.hid (HL2.out.below hb3)
      have HB3 := Lib.hid (below_keep HB2.out hb3)
      have HAW := Lib.hid (awake10_any w3 (HT.out.below HB3.out))
      clear hO3 hb3 HTS
      by_cases hz0 : z < 0
      · have hrl : rows.length = 0 := by rw [HR.out, sortR_length, HLR1.out hz0]; rfl
        rw [hrl]
        clear hrl
        go_wp2_with fail
        refine HAW.out.mono ?_
        rintro _ w4 ⟨rfl, hb4⟩
        have HB4 := Lib.hid (below_keep HB3.out hb4)
        clear hb4
        go_wp2_with fail
        go_ret
        exact ⟨rfl, HB4.out⟩
      · have HE : Hid (rows = sortR (atDay l z)) := by show _ = _; rw [HR.out, HLR2.out (by omega)]
        go_wp2_with fail
        refine HAW.out.mono ?_
        rintro _ w4 ⟨rfl, hb4⟩
        have HB4 := Lib.hid (below_keep HB3.out hb4)
        have HR4 := Lib.hid (HR3.out.below hb4)
        have HTS := Lib.hid (timeslice_any _ l z w4 (HL3.out.below hb4) (by omega) HS.out)
        rw [← HE.out] at HTS
        clear hb4
        go_wp2_with fail
        refine HTS.out.mono ?_
        rintro _ w5 ⟨vq, rfl, hO5, hb5⟩
        obtain ⟨aq, cq, rfl⟩ := hO5.shape
        have HB5 := Lib.hid (below_keep HB4.out hb5)
        have HSM := Lib.hid (sameRows_eq _ _ rows w5 (HR4.out.below hb5) hO5.sl)
        clear hO5 hb5
        go_wp2_with fail
        refine HSM.out.mono ?_
        rintro _ w6 ⟨rfl, hb6⟩
        have HB6 := Lib.hid (below_keep HB5.out hb6)
        clear hb6
        go_wp2_with fail
        go_ret
        exact ⟨rfl, HB6.out⟩
end Go.Proofs.YtnfccpkmaebbiaaGreatDoor

namespace Go.Proofs.YtnfccpkmaebbiaaGreatDoor
open Go.ChangeShapes Go.WideShapes Go.ChangeAt Go.RowKit
open Go.ChangeMaps (open_string)

set_option maxRecDepth 100000 in
theorem tconst_contract (H : Type) (enc : TypeId × Value → H) (W : World) (base : Nat) (args : Array Value) (ds gs : List (DataW H)) (before : List MemPlace)
    (hval : ∀ (j : Nat) t v, Tryz.f7.params[j]? = some t → args[j]? = some v → Value.okWide Tryz.prog W .any base t v)
    (hW : DataW.Whole enc Tryz.prog Tryz.f7.params.toList Rows.tupleConstantSpec.vars false W args.toList ds gs before) (hT : Pow W) :
    Calls Tryz.prog 7 args W fun e W' => ∃ v, e = .returned v ∧ Rows.tupleConstantSpec.post enc Tryz.prog Tryz.f7 false true false false W args v W' := by
  have hW' := hW
  obtain ⟨p, q, hA0, hV, rfl, hfz, hnd⟩ := hW
  have hA : DataW.TrodAll enc Tryz.prog W 0 (fun _ => true) true Tryz.f7.params.toList args.toList ds p := hA0
  rw [Tryz.params7] at hA hval
  obtain ⟨v0, vs0, d0, ds0, p0, q0, hargs, rfl, rfl, h0, r0⟩ := trodAll_cons hA
  obtain ⟨v1, vs1, d1, ds1, p1, q1, rfl, rfl, rfl, h1, r1⟩ := trodAll_cons r0
  obtain ⟨rfl, rfl, rfl⟩ := trodAll_nil r1
  obtain rfl : args = #[v0, v1] := by cases args; simp_all
  obtain ⟨rfl, rfl⟩ := trodVars_none hV
  obtain ⟨l0, hl0, hp0⟩ := open_sl u5E U5.ok Tryz.underlying28 cells_u5 (hval 0 28 v0 rfl rfl) open_u5_el h0
  obtain ⟨z1, rfl, rfl, rfl, wz1⟩ := open_int Tryz.underlying29 (hval 1 29 v1 rfl rfl) h1; obtain ⟨x1, rfl, b1⟩ := u16_of wz1
  refine (tconst_walk v0 l0 x1 W hl0 hp0 b1 hT).mono fun e W' ⟨he, hb⟩ => ⟨_, he, ?_⟩
  refine law_post rfl rfl (by intro t ht; rw [Tryz.params7] at ht; simp at ht; rcases ht with rfl | rfl <;> exact ⟨by kernel_rfl, of_decide_eq_true (by kernel_rfl)⟩) rfl hW' hb

theorem tconst_reads (os : Os) {H : Type} (enc : TypeId × Value → H) : ∃ places, DataW.whole enc Tryz.prog ((laidWorld os).forCall (fun _ _ => 0) ⟨#[], #[.slice none 0 0, .int .u16 0], []⟩).memory Tryz.f7.params.toList Rows.tupleConstantSpec.vars false (#[.slice none 0 0, .int .u16 0] : Array Value).toList 8 = some ([.nil, .lit (.int .u16 0)], [], places) :=
  ⟨[], by kernel_rfl⟩

set_option maxRecDepth 100000 in
theorem tconst_lifted (os : Os) (started : os.Started) (H : Type) (enc : TypeId × Value → H) (F : Stop.Interp) :
    ReturnsInHanded {} Tryz.checked os 7 .any ((OpenSpec.ofChange Rows.tupleConstantSpec).preRow enc Tryz.prog Tryz.f7 Rows.tupleConstantRow.domain false Rows.tupleConstantRow.laid) (((OpenSpec.ofChange Rows.tupleConstantSpec).at F).post enc Tryz.prog Tryz.f7 false true false false) := by
  obtain ⟨places, hx⟩ := tconst_reads os enc
  refine returnsInHanded_of_row (C := Tryz.checked) (s := OpenSpec.ofChange Rows.tupleConstantSpec) own started (by kernel_rfl) Tryz.func7
    (witness_row_at (enc := enc) (C := Tryz.checked) false (laidWorld os) #[.slice none 0 0, .int .u16 0] rfl (by kernel_rfl) (by kernel_rfl) (by kernel_rfl)
      (OpenSpec.preRow_of_cond 8 hx (by kernel_rfl) (fun k hk => by cases hk) (by kernel_rfl) (laid_met os _))) ?_
  intro W base args ds gs before hval hW _ hcond _ hlaid hsh _
  exact tconst_contract H enc W base args ds gs before hval hW (pow_of_laid hlaid)

theorem tconst_said : Rows.TupleConstantSaid :=
  OpenClaim.holds_of_cond 7 Tryz.f7 rfl rfl rfl rfl rfl rfl rfl ⟨rfl, rfl, rfl, rfl, rfl⟩ rfl rfl rfl rfl rfl (by kernel_rfl) Tryz.func7 (by kernel_rfl)
    (of_decide_eq_true (by kernel_rfl)) (by unfold Func.isWrapper; first | (rw [if_pos (by decide +kernel)]; kernel_rfl) | (rw [if_neg (by decide +kernel)]; exact ⟨rfl, rfl⟩))
    (fun os started H enc _ F => by rw [OpenClaim.pre_eq_preRow]; exact tconst_lifted os started H enc F)

/-- No parameter wants a stand-in; the program's own looks are off. -/
theorem tconst_plain (f : FuncId) (fn : Func) (hf : Tryz.pinned.checked.prog.funcNamed "annalist/annalistlaw10.TupleConstant" = some f) (hfn : Tryz.pinned.checked.prog.funcs[f]? = some fn) :
    false = Tryz.pinned.checked.prog.looks [] ∧ ∀ (j : Nat) t, fn.params[j]? = some t → Tryz.pinned.checked.prog.wantsStandIn t = false := by
  obtain rfl : f = 7 := Option.some.inj ((show Tryz.prog.funcNamed "annalist/annalistlaw10.TupleConstant" = some 7 by kernel_rfl).symm.trans hf) |>.symm
  obtain rfl : fn = Tryz.f7 := (Option.some.inj (Tryz.func7.symm.trans hfn)).symm
  refine ⟨by kernel_rfl, fun j t ht => ?_⟩
  rw [Tryz.params7] at ht
  have hm := Array.mem_of_getElem? ht
  simp at hm
  rcases hm with rfl | rfl
  · exact (show Tryz.prog.wantsStandIn 28 = false by kernel_rfl)
  · exact (show Tryz.prog.wantsStandIn 29 = false by kernel_rfl)

/-- The card. -/
theorem tconst_card : Rows.TupleConstantCardSaid :=
  Claim7.holds_tied_plain_at .later [] _ _ _ _ tconst_said (fun _ h => by cases h) (by kernel_rfl) (fun _ h => by cases h) tupleConstant_row_tie rfl ⟨rfl, rfl⟩ (by kernel_rfl) rfl tconst_plain (by kernel_rfl)
end Go.Proofs.YtnfccpkmaebbiaaGreatDoor
