/- A part of the proofs: Wun, LawTUniq. No condition beside sizes and tables that read as laid. -/
import Derived.Test.YtnfccpkmaebbiaaGreatDoorMgAd
import Derived.Test.YtnfccpkmaebbiaaGreatDoorCards
import Derived.Test.YtnfccpkmaebbiaaGreatDoorTie
namespace Go.Proofs.YtnfccpkmaebbiaaGreatDoor
open Go.RowKit Go.Lib

/-- Whether the rows of two relations agree at some points. -/
def agreeAt (a b : List Tup) (ps : List Int) : Bool := ps.all fun t => sameRowsL (sortR (atDay a t)) (sortR (atDay b t))
theorem agreeAt_snoc (a b : List Tup) (ps : List Int) (p : Int) : agreeAt a b (ps ++ [p]) = (agreeAt a b ps && sameRowsL (sortR (atDay a p)) (sortR (atDay b p))) := by unfold agreeAt; rw [List.all_append]; simp
theorem agreeAt_iff (a b : List Tup) : agreeAt a b (bnds a ++ bnds b) = true ↔ ∀ t, (atDay a t).Perm (atDay b t) := by
  unfold agreeAt
  rw [List.all_eq_true]
  constructor
  · intro h t
    refine days_agree (fun p hp => ?_) t
    refine sortR_inj (sameRowsL_iff.1 (h p ?_))
    rw [List.mem_append, bnds_mem, bnds_mem]
    exact hp
  · intro h t _
    rw [sortR_congr (h t)]
    exact sameRowsL_iff.2 rfl
theorem bool_iff {p q : Bool} {A : Prop} (h : p = true ↔ A) (k : q = true ↔ A) : p = q := by
  rw [Bool.eq_iff_iff, h, k]
set_option maxHeartbeats 8000000 in
set_option maxRecDepth 100000 in
theorem tuniq_walk (v u : Value) (xs ys : List U5) (w : World) (hv : Sl u5E w free v xs) (hu : Sl u5E w free u ys) (hok : ∀ x ∈ xs, x.ok) (hok2 : ∀ x ∈ ys, x.ok) (hT : Pow w) :
    Calls Tryz.prog 12 #[v, u] w fun e w' => e = .returned (.bool true) ∧ Below w.heap.size w w' := by
  have HTU := Lib.hid (tuples_any v xs 8 (by decide) w hv hok)
  have HTV := Lib.hid (fun W (h : Below w.heap.size w W) => Lib.hid (tuples_any u ys 8 (by decide) W (hu.below h) hok2))
  have ha := tups_keyable xs 8
  have hb := tups_keyable ys 8
  have sa := tups_small xs 8
  have sb := tups_small ys 8
  have la := tupsOf_length xs 8
  have lb := tupsOf_length ys 8
  obtain ⟨a, ha0⟩ : ∃ l, l = tupsOf xs 8 := ⟨_, rfl⟩
  obtain ⟨b, hb0⟩ : ∃ l, l = tupsOf ys 8 := ⟨_, rfl⟩
  rw [← ha0] at HTU ha sa la
  rw [← hb0] at HTV hb sb lb
  have HKA := Lib.hid ha
  have HKB := Lib.hid hb
  have HSA := Lib.hid sa
  have HSB := Lib.hid sb
  have HT := Lib.hid hT
  have pa := bnds_length a
  have pb := bnds_length b
  clear hv hu hok hok2 ha hb sa sb hT ha0 hb0
  go_enter Tryz.func12, Tryz.ntmps12
  go_wp2_with fail
  refine HTU.out.mono ?_
  rintro _ w1 ⟨va, rfl, hO1, hb1⟩
  obtain ⟨aa, ca, rfl⟩ := hO1.shape
  have HA1 := Lib.hid hO1.sl
  have HB1 := Lib.hid hb1
  have HTV1 := HTV.out w1 hb1
  clear hO1 hb1 HTU HTV
  go_wp2_with fail
  refine HTV1.out.mono ?_
  rintro _ w2 ⟨vb, rfl, hO2, hb2⟩
  obtain ⟨ab, cb, rfl⟩ := hO2.shape
  have HA2 := Lib.hid (HA1.out.below hb2)
  have HBB2 := Lib.hid hO2.sl
  have HB2 := Lib.hid (below_keep HB1.out hb2)
  have HN1 := Lib.hid (bnds_any _ a w2 HA2.out (by omega))
  have HA2' := HA2
  have HBB2' := HBB2
  clear hO2 hb2 HTV1 HA1 HB1
  go_wp2_with fail
  refine HN1.out.mono ?_
  rintro _ w3 ⟨vp, rfl, hO3, hb3⟩
  obtain ⟨ap, cp, rfl⟩ := hO3.shape
  have HP3 := Lib.hid hO3
  have HA3 := Lib.hid (HA2.out.below hb3)
  have HBB3 := Lib.hid (HBB2.out.below hb3)
  have HB3 := Lib.hid (below_keep HB2.out hb3)
  have HN2 := Lib.hid (bnds_any _ b w3 HBB3.out (by omega))
  have HB23 := Lib.hid hb3
  clear hO3 hb3 HN1 HA2 HBB2
  go_wp2_with fail
  refine HN2.out.mono ?_
  rintro _ w4 ⟨vq, rfl, hO4, hb4⟩
  obtain ⟨aq, cq, rfl⟩ := hO4.shape
  have HP4 := Lib.hid (HP3.out.below hb4)
  have HQ4 := Lib.hid hO4.sl
  have HA4 := Lib.hid (HA3.out.below hb4)
  have HBB4 := Lib.hid (HBB3.out.below hb4)
  have HB34 := Lib.hid (below_keep HB23.out hb4)
  have hcl : ∀ k, (Value.slice aq (bnds b).length cq).ownBlock = some k → ¬ (Value.slice ap (bnds a).length cp).ownBlock = some k := fun k h1 h2 => by
    have g1 := (hO4.lt k h1).1
    have g2 := (HP3.out.lt k h2).2
    omega
  have HCL := Lib.hid hcl
  clear hO4 hb4 HN2 HA3 HBB3 HP3 hcl
  have hiff := agreeAt_iff a b
  obtain ⟨qa, hqa⟩ : ∃ qa, qa = bnds a := ⟨_, rfl⟩
  obtain ⟨qb, hqb⟩ : ∃ qb, qb = bnds b := ⟨_, rfl⟩
  rw [← hqa] at HP4 pa HCL hiff ⊢
  rw [← hqb] at HQ4 pb HCL hiff ⊢
  have HIFF := Lib.hid hiff
  clear hqa hqb hiff
  have hz24 : w2.heap.size ≤ w4.heap.size := Nat.le_trans HB34.out.size (Nat.le_refl _)
  obtain ⟨n, hn⟩ : ∃ n, n = qa.length + qb.length := ⟨_, rfl⟩
  have hn16 : n ≤ 32 := by omega
  have HNQ := Lib.hid hn
  clear hn
  go_wp2_with (at_builtin; refine wpList_join rfl (.tmp 15) (.tmp 17) 34 rfl intE Tryz.underlying34 w2.heap.size (.slice ap qa.length cp) (.slice aq qb.length cq) qa qb rfl rfl HP4.out (Sl.of_ints HQ4.out.ints (fun k h1 h2 => HCL.out k h1 h2.symm)) (by unfold maxLen; omega) (by show _ * 8 ≤ _; omega) hz24 n HNQ.out.symm ?_; intro x1 y1 w5 hJ)
  have hbx := HB34.out.trans hJ.below
  have HA5 := Lib.hid (HA2'.out.below hbx)
  have HBB5 := Lib.hid (HBB2'.out.below hbx)
  have HB5 := Lib.hid (below_keep HB2.out hbx)
  have HP5 := Lib.hid hJ.own.sl
  obtain ⟨ps, hps⟩ : ∃ ps, ps = qa ++ qb := ⟨_, rfl⟩
  have HN : Hid (n = ps.length) := Lib.hid (by rw [hps, List.length_append]; exact HNQ.out)
  rw [← hps] at HP5 HIFF
  clear hJ hbx hps HNQ HCL HP4 HQ4 HA4 HBB4 HB34 HA2' HBB2'
  go_wp2_with fail
  go_loopw [20, 7] (fun s20 s7 wr => ∃ k : Nat, k ≤ n ∧ s20 = .int .i64 k ∧ s7 = .bool (agreeAt a b (ps.take k)) ∧ Hid (Below w5.heap.size w5 wr)) (fun s20 _ _ => n - (intOf s20).toNat)
  case atStart => exact ⟨0, Nat.zero_le _, rfl, rfl, Lib.hid (.refl _ _)⟩
  case round =>
    obtain ⟨k, hk, rfl, rfl, HBL⟩ := hrel
    obtain ⟨wo, rfl⟩ : ∃ wo : World, wo = wr := ⟨_, rfl⟩
    by_cases hlt : k < n
    · obtain ⟨p, hp⟩ := lget_some ps k (by rw [← HN.out]; exact hlt)
      obtain ⟨bb, oo, rfl, p0⟩ := ints_at' (HP5.out.below HBL.out) hp
      have HX : Hid (agreeAt a b (ps.take (k + 1)) = (agreeAt a b (ps.take k) && sameRowsL (sortR (atDay a p)) (sortR (atDay b p)))) := by show _ = _; rw [take_get hp, agreeAt_snoc]
      obtain ⟨q, hq⟩ : ∃ q, q = agreeAt a b (ps.take k) := ⟨_, rfl⟩
      rw [← hq] at HX ⊢
      clear hp hq
      cases q
      · have HX' : Hid (agreeAt a b (ps.take (k + 1)) = false) := by show _ = _; rw [HX.out]; rfl
        go_wp2_with fail
        go_roundw
        case rel => exact ⟨k + 1, by omega, by go_num, by rw [HX'.out], HBL⟩
        case measure => simp [intOf]; omega
      · have HX' : Hid (agreeAt a b (ps.take (k + 1)) = sameRowsL (sortR (atDay a p)) (sortR (atDay b p))) := by show _ = _; rw [HX.out]; rfl
        have HS1 := Lib.hid (timeslice_any _ a p wo (HA5.out.below HBL.out) (by omega) HSA.out)
        obtain ⟨r1, hr1⟩ : ∃ r, r = sortR (atDay a p) := ⟨_, rfl⟩
        obtain ⟨r2, hr2⟩ : ∃ r, r = sortR (atDay b p) := ⟨_, rfl⟩
        rw [← hr1] at HS1
        rw [← hr1, ← hr2] at HX'
        have HR2 := Lib.hid hr2
        clear hr1 hr2
        go_wp2_with fail
        refine HS1.out.mono ?_
        rintro _ w6 ⟨v6, rfl, hO6, hb6⟩
        obtain ⟨a6, c6, rfl⟩ := hO6.shape
        have HR6 := Lib.hid hO6.sl
        have HBL6 := Lib.hid (below_keep HBL.out hb6)
        have HS2 := Lib.hid (timeslice_any _ b p w6 (HBB5.out.below HBL6.out) (by omega) HSB.out)
        rw [← HR2.out] at HS2
        clear hO6 hb6 HS1
        go_wp2_with fail
        refine HS2.out.mono ?_
        rintro _ w7 ⟨v7, rfl, hO7, hb7⟩
        obtain ⟨a7, c7, rfl⟩ := hO7.shape
        have HBL7 := Lib.hid (below_keep HBL6.out hb7)
        have HSM := Lib.hid (sameRows_any _ _ r1 r2 w7 (HR6.out.below hb7) hO7.sl)
        obtain ⟨q2, hq2⟩ : ∃ q, q = sameRowsL r1 r2 := ⟨_, rfl⟩
        rw [← hq2] at HSM HX'
        clear hO7 hb7 HS2 hq2
        go_wp2_with fail
        refine HSM.out.mono ?_
        rintro _ w8 ⟨rfl, hb8⟩
        have HBL8 := Lib.hid (below_keep HBL7.out hb8)
        clear hb8
        go_wp2_with fail
        go_roundw
        case rel => exact ⟨k + 1, by omega, by go_num, by rw [HX'.out], HBL8⟩
        case measure => simp [intOf]; omega
    · have hkk : ps.take k = ps := List.take_of_length_le (by rw [← HN.out]; omega)
      rw [hkk]
      have hiff := HIFF.out
      obtain ⟨q, hq⟩ : ∃ q, q = agreeAt a b ps := ⟨_, rfl⟩
      rw [← hq] at hiff ⊢
      have HIF := Lib.hid hiff
      have HB6 := Lib.hid (below_keep HB5.out HBL.out)
      have HA6 := Lib.hid (HA5.out.below HBL.out)
      have HBB6 := Lib.hid (HBB5.out.below HBL.out)
      have HAW := Lib.hid (awake10_any wo (HT.out.below HB6.out))
      clear hkk hq hiff HBL HA5 HBB5
      go_wp2_with fail
      refine HAW.out.mono ?_
      rintro _ w7 ⟨rfl, hb7⟩
      have HB7 := Lib.hid (below_keep HB6.out hb7)
      have HA7 := Lib.hid (HA6.out.below hb7)
      have HBB7 := Lib.hid (HBB6.out.below hb7)
      have HEQ := Lib.hid (equiv_any _ _ a b w7 HA7.out HBB7.out (by omega) (by omega) HKA.out HKB.out (HT.out.below HB7.out))
      clear hb7 HAW HA6 HBB6
      go_wp2_with fail
      refine HEQ.out.mono ?_
      rintro _ w8 ⟨q1, hq1, rfl, hb8⟩
      obtain rfl : q1 = q := bool_iff hq1.out HIF.out
      have HB8 := Lib.hid (below_keep HB7.out hb8)
      have HA8 := Lib.hid (HA7.out.below hb8)
      have HBB8 := Lib.hid (HBB7.out.below hb8)
      have HN1 := Lib.hid (normalize_any _ a w8 HA8.out (by omega) HKA.out (HT.out.below HB8.out))
      clear hb8 HEQ HA7 HBB7 hq1
      have hq2 : (q1 == q1) = true := by simp
      go_wp2_with fail
      refine HN1.out.mono ?_
      rintro _ w9 ⟨S, hS, _, vS, rfl, hOS, hb9⟩
      obtain ⟨aS, cS, rfl⟩ := hOS.shape
      have HSN := Lib.hid hS
      have HSS := Lib.hid hOS.sl
      have HB9 := Lib.hid (below_keep HB8.out hb9)
      have HN2 := Lib.hid (normalize_any _ b w9 (HBB8.out.below hb9) (by omega) HKB.out (HT.out.below HB9.out))
      clear hS hOS hb9 HN1
      go_wp2_with fail
      refine HN2.out.mono ?_
      rintro _ w10 ⟨T, hTn, _, vT, rfl, hOT, hb10⟩
      obtain ⟨aT, cT, rfl⟩ := hOT.shape
      have HB10 := Lib.hid (below_keep HB9.out hb10)
      have HSM := Lib.hid (sameTups_any _ _ S T w10 (HSS.out.below hb10) hOT.sl)
      obtain rfl : sameTups S T = q1 := bool_iff (sameTups_iff.trans (HSN.out.iff hTn)) HIF.out
      clear hTn hOT hb10 HN2
      generalize sameTups S T = q3 at *
      go_wp2_with fail
      refine HSM.out.mono ?_
      rintro _ w11 ⟨rfl, hb11⟩
      have HB11 := Lib.hid (below_keep HB10.out hb11)
      clear hb11
      go_wp2_with fail
      go_ret
      exact ⟨rfl, HB11.out⟩
end Go.Proofs.YtnfccpkmaebbiaaGreatDoor

namespace Go.Proofs.YtnfccpkmaebbiaaGreatDoor
open Go.ChangeShapes Go.WideShapes Go.ChangeAt Go.RowKit
open Go.ChangeMaps (open_string)

set_option maxRecDepth 100000 in
theorem tuniq_contract (H : Type) (enc : TypeId × Value → H) (W : World) (base : Nat) (args : Array Value) (ds gs : List (DataW H)) (before : List MemPlace)
    (hval : ∀ (j : Nat) t v, Tryz.f12.params[j]? = some t → args[j]? = some v → Value.okWide Tryz.prog W .any base t v)
    (hW : DataW.Whole enc Tryz.prog Tryz.f12.params.toList Rows.tupleUniqueSpec.vars false W args.toList ds gs before) (hT : Pow W) :
    Calls Tryz.prog 12 args W fun e W' => ∃ v, e = .returned v ∧ Rows.tupleUniqueSpec.post enc Tryz.prog Tryz.f12 false true false false W args v W' := by
  have hW' := hW
  obtain ⟨p, q, hA0, hV, rfl, hfz, hnd⟩ := hW
  have hA : DataW.TrodAll enc Tryz.prog W 0 (fun _ => true) true Tryz.f12.params.toList args.toList ds p := hA0
  rw [Tryz.params12] at hA hval
  obtain ⟨v0, vs0, d0, ds0, p0, q0, hargs, rfl, rfl, h0, r0⟩ := trodAll_cons hA
  obtain ⟨v1, vs1, d1, ds1, p1, q1, rfl, rfl, rfl, h1, r1⟩ := trodAll_cons r0
  obtain ⟨rfl, rfl, rfl⟩ := trodAll_nil r1
  obtain rfl : args = #[v0, v1] := by cases args; simp_all
  obtain ⟨rfl, rfl⟩ := trodVars_none hV
  obtain ⟨l0, hl0, hp0⟩ := open_sl u5E U5.ok Tryz.underlying28 cells_u5 (hval 0 28 v0 rfl rfl) open_u5_el h0
  obtain ⟨l1, hl1, hp1⟩ := open_sl u5E U5.ok Tryz.underlying28 cells_u5 (hval 1 28 v1 rfl rfl) open_u5_el h1
  refine (tuniq_walk v0 v1 l0 l1 W hl0 hl1 hp0 hp1 hT).mono fun e W' ⟨he, hb⟩ => ⟨_, he, ?_⟩
  refine law_post rfl rfl (by intro t ht; rw [Tryz.params12] at ht; simp at ht; subst ht; exact ⟨by kernel_rfl, of_decide_eq_true (by kernel_rfl)⟩) rfl hW' hb

theorem tuniq_reads (os : Os) {H : Type} (enc : TypeId × Value → H) : ∃ places, DataW.whole enc Tryz.prog ((laidWorld os).forCall (fun _ _ => 0) ⟨#[], #[.slice none 0 0, .slice none 0 0], []⟩).memory Tryz.f12.params.toList Rows.tupleUniqueSpec.vars false (#[.slice none 0 0, .slice none 0 0] : Array Value).toList 8 = some ([.nil, .nil], [], places) :=
  ⟨[], by kernel_rfl⟩

set_option maxRecDepth 100000 in
theorem tuniq_lifted (os : Os) (started : os.Started) (H : Type) (enc : TypeId × Value → H) (F : Stop.Interp) :
    ReturnsInHanded {} Tryz.checked os 12 .any ((OpenSpec.ofChange Rows.tupleUniqueSpec).preRow enc Tryz.prog Tryz.f12 Rows.tupleUniqueRow.domain false Rows.tupleUniqueRow.laid) (((OpenSpec.ofChange Rows.tupleUniqueSpec).at F).post enc Tryz.prog Tryz.f12 false true false false) := by
  obtain ⟨places, hx⟩ := tuniq_reads os enc
  refine returnsInHanded_of_row (C := Tryz.checked) (s := OpenSpec.ofChange Rows.tupleUniqueSpec) own started (by kernel_rfl) Tryz.func12
    (witness_row_at (enc := enc) (C := Tryz.checked) false (laidWorld os) #[.slice none 0 0, .slice none 0 0] rfl (by kernel_rfl) (by kernel_rfl) (by kernel_rfl)
      (OpenSpec.preRow_of_cond 8 hx (by kernel_rfl) (fun k hk => by cases hk) (by kernel_rfl) (laid_met os _))) ?_
  intro W base args ds gs before hval hW _ hcond _ hlaid hsh _
  exact tuniq_contract H enc W base args ds gs before hval hW (pow_of_laid hlaid)

theorem tuniq_said : Rows.TupleUniqueSaid :=
  OpenClaim.holds_of_cond 12 Tryz.f12 rfl rfl rfl rfl rfl rfl rfl ⟨rfl, rfl, rfl, rfl, rfl⟩ rfl rfl rfl rfl rfl (by kernel_rfl) Tryz.func12 (by kernel_rfl)
    (of_decide_eq_true (by kernel_rfl)) (by unfold Func.isWrapper; first | (rw [if_pos (by decide +kernel)]; kernel_rfl) | (rw [if_neg (by decide +kernel)]; exact ⟨rfl, rfl⟩))
    (fun os started H enc _ F => by rw [OpenClaim.pre_eq_preRow]; exact tuniq_lifted os started H enc F)

/-- No parameter wants a stand-in; the program's own looks are off. -/
theorem tuniq_plain (f : FuncId) (fn : Func) (hf : Tryz.pinned.checked.prog.funcNamed "annalist/annalistlaw10.TupleUnique" = some f) (hfn : Tryz.pinned.checked.prog.funcs[f]? = some fn) :
    false = Tryz.pinned.checked.prog.looks [] ∧ ∀ (j : Nat) t, fn.params[j]? = some t → Tryz.pinned.checked.prog.wantsStandIn t = false := by
  obtain rfl : f = 12 := Option.some.inj ((show Tryz.prog.funcNamed "annalist/annalistlaw10.TupleUnique" = some 12 by kernel_rfl).symm.trans hf) |>.symm
  obtain rfl : fn = Tryz.f12 := (Option.some.inj (Tryz.func12.symm.trans hfn)).symm
  refine ⟨by kernel_rfl, fun j t ht => ?_⟩
  rw [Tryz.params12] at ht
  obtain rfl : t = 28 := by simpa using Array.mem_of_getElem? ht
  exact (show Tryz.prog.wantsStandIn 28 = false by kernel_rfl)

/-- The card. -/
theorem tuniq_card : Rows.TupleUniqueCardSaid :=
  Claim7.holds_tied_plain_at .later [] _ _ _ _ tuniq_said (fun _ h => by cases h) (by kernel_rfl) (fun _ h => by cases h) tupleUnique_row_tie rfl ⟨rfl, rfl⟩ (by kernel_rfl) rfl tuniq_plain (by kernel_rfl)
end Go.Proofs.YtnfccpkmaebbiaaGreatDoor
