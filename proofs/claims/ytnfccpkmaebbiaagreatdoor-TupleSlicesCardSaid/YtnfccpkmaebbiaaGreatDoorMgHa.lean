/- A part of the proofs: Wts, LawTSlic. No condition beside sizes and tables that read as laid. -/
import Derived.Test.YtnfccpkmaebbiaaGreatDoorMgAd
import Derived.Test.YtnfccpkmaebbiaaGreatDoorCards
import Derived.Test.YtnfccpkmaebbiaaGreatDoorTie
namespace Go.Proofs.YtnfccpkmaebbiaaGreatDoor
open Go.RowKit Go.Lib

set_option maxHeartbeats 4000000 in
set_option maxRecDepth 100000 in
theorem tslice_walk (v : Value) (l : List Tup) (t lo hi : Int) (w : World) (hv : Tups w v l) (hT : Pow w) (hKf : few l 25 = true → ∀ x ∈ l, ∀ g ∈ x.vals, g.s.size ≤ maxLen) :
    Calls Tryz.prog 9 #[v, .int .i64 t, .agg #[.int .i64 lo, .int .i64 hi]] w fun e w' => e = .returned (.bool true) ∧ Below w.heap.size w w' := by
  have hb0 := below_alloc w (.cells #[.int .i64 lo, .int .i64 hi] 43)
  have hbx := World.alloc_heap_new w (.cells #[.int .i64 lo, .int .i64 hi] 43)
  obtain ⟨W0, hW0⟩ : ∃ W0, W0 = w.alloc (.cells #[.int .i64 lo, .int .i64 hi] 43) := ⟨_, rfl⟩
  rw [← hW0] at hb0 hbx
  have HF : Hid (Calls Tryz.prog 13 #[v, .int .i64 25] W0 fun e w' => e = .returned (.bool (few l 25)) ∧ W0 = w') := (few_any v l 25 (by omega) W0 (hv.below hb0)).mono fun _ _ ⟨h1, h2⟩ => ⟨h1, h2.symm⟩
  have HAW := Lib.hid (awake10_any W0 (hT.below hb0))
  obtain ⟨a, c, rfl⟩ := hv.shape
  have HV := Lib.hid (hv.below hb0)
  have HT := Lib.hid (hT.below hb0)
  have HB0 := Lib.hid hb0
  have HBX := Lib.hid hbx
  have HW0 := Lib.hid hW0
  cases hfew : few l 25
  · rw [hfew] at HF
    clear hfew hKf hv hT hb0 hbx hW0
    generalize l.length = n at HF HV ⊢
    go_enter Tryz.func9, Tryz.ntmps9
    go_upto_region 1 with fail
    rw [← HW0.out]
    go_wp2_with fail
    refine HF.out.mono ?_
    rintro _ w1 ⟨rfl, rfl⟩
    go_wp2_with fail
    refine HAW.out.mono ?_
    rintro _ w2 ⟨rfl, hb⟩
    have HB := Lib.hid (below_keep HB0.out hb)
    clear hb
    go_wp2_with fail
    go_ret
    exact ⟨rfl, HB.out⟩
  · rw [hfew] at HF
    obtain ⟨hl, hs⟩ := few_of hfew
    have hk := hKf hfew
    have HTS := Lib.hid (timeslice_any _ l t W0 (hv.below hb0) (by omega) hs)
    have HRT := fun W (h : Below W0.heap.size W0 W) => Lib.hid (rtimeslice_any _ l t W ((hv.below hb0).below h) (by omega) hs)
    have HRT' := Lib.hid HRT
    have HS := Lib.hid hs
    have HK := Lib.hid hk
    obtain ⟨n, hn⟩ : ∃ n, n = l.length := ⟨_, rfl⟩
    have HN := Lib.hid hn
    rw [← hn] at HF HV HTS HRT' hl ⊢
    clear hfew hKf hv hT hb0 hbx hW0 hs hk HRT hn
    go_enter Tryz.func9, Tryz.ntmps9
    go_upto_region 1 with fail
    rw [← HW0.out]
    go_wp2_with fail
    refine HF.out.mono ?_
    rintro _ w1 ⟨rfl, rfl⟩
    go_wp2_with fail
    refine HTS.out.mono ?_
    rintro _ w2 ⟨vr, rfl, hO2, hb2⟩
    obtain ⟨ar, cr, rfl⟩ := hO2.shape
    obtain ⟨rows, hrows⟩ : ∃ r, r = sortR (atDay l t) := ⟨_, rfl⟩
    have HROWS := Lib.hid hrows
    rw [← hrows] at hO2 ⊢
    have HR2 := Lib.hid hO2.sl
    have HB2 := Lib.hid hb2
    clear hO2 hb2 hrows HTS HAW HF
    go_wp2_with fail
    go_loopw [19] (fun i wr => ∃ k : Nat, k ≤ n ∧ i = .int .i64 k ∧ Hid (Below w2.heap.size w2 wr)) (fun i _ => n - (intOf i).toNat)
    case atStart => exact ⟨0, Nat.zero_le _, rfl, Lib.hid (.refl _ _)⟩
    case round =>
      obtain ⟨k, hk, rfl, HB⟩ := hrel
      obtain ⟨wo, rfl⟩ : ∃ wo : World, wo = wr := ⟨_, rfl⟩
      have HBO := Lib.hid (HB2.out.trans (HB.out.mono HB2.out.size))
      by_cases hlt : k < n
      · obtain ⟨x, hx⟩ := lget_some l k (by rw [← HN.out]; exact hlt)
        obtain ⟨b, o, a1, n1, e1, m1, rfl, hvv, hll, p0, p1, p2, p3⟩ := tups_at (HV.out.below HBO.out) hx
        have hxs := HK.out x (List.mem_of_getElem? hx)
        obtain ⟨xv, xlo, xhi, xl⟩ := x
        dsimp only at p0 p1 p2 p3 hvv hll hxs
        have hba := below_alloc wo (.cells #[.slice a1 xv.length n1, .int .i64 xlo, .int .i64 xhi, .slice e1 xl.length m1] 45)
        have hgx := World.alloc_heap_new wo (.cells #[.slice a1 xv.length n1, .int .i64 xlo, .int .i64 xhi, .slice e1 xl.length m1] 45)
        obtain ⟨w3, hw3⟩ : ∃ w3, w3 = wo.alloc (.cells #[.slice a1 xv.length n1, .int .i64 xlo, .int .i64 xhi, .slice e1 xl.length m1] 45) := ⟨_, rfl⟩
        rw [← hw3] at hba hgx
        have C1 := fun W (h : Below w3.heap.size w3 W) => Lib.hid (tvalid_any _ _ xv xl xlo xhi W ((hvv.below hba).below h) ((hll.below hba).below h) hxs)
        have C2 := fun W (h : Below w3.heap.size w3 W) => Lib.hid (rtvalid_any _ _ xv xl xlo xhi W ((hvv.below hba).below h) ((hll.below hba).below h) hxs)
        generalize tupValid ⟨xv, xlo, xhi, xl⟩ = q at C1 C2
        obtain ⟨⟨d0, d1, d2, d3⟩, _⟩ := box_four hgx
        have HW3 := Lib.hid hw3
        have HB3 := Lib.hid (below_keep HB.out hba)
        rw [hw3] at d0 d1 d2 d3
        clear hx hvv hll hxs hba hgx hw3
        have C1' := Lib.hid C1
        have C2' := Lib.hid C2
        clear C1 C2
        go_upto_region 7 with fail
        rw [← HW3.out] at d0 d1 d2 d3 ⊢
        have hbb : Below w3.heap.size w3 w3 := .refl _ _
        go_region_held3 (fun W => Below w3.heap.size w3 W ∧ W.cell? ⟨wo.heap.size, 0, none⟩ = some (.slice a1 xv.length n1) ∧ W.cell? ⟨wo.heap.size, 1, none⟩ = some (.int .i64 xlo) ∧ W.cell? ⟨wo.heap.size, 2, none⟩ = some (.int .i64 xhi) ∧ W.cell? ⟨wo.heap.size, 3, none⟩ = some (.slice e1 xl.length m1))
          ((go_split_ands; refine ⟨?_, ?_, ?_, ?_, ?_⟩ <;> (first | with_reducible assumption | with_reducible exact Below.drew (by assumption) | with_reducible exact cell_drew (by assumption) | with_reducible exact below_keep (by assumption) (by assumption) | with_reducible exact cell_keep (by assumption) (by assumption))))
          (first
            | (go_at_call 28; go_split_ands; refine (C1'.out _ (by first | assumption | exact Below.drew (by assumption))).out.mono ?_; rintro e' wK ⟨rfl, hbK⟩)
            | (go_at_call 29; go_split_ands; refine (C2'.out _ (by first | assumption | exact Below.drew (by assumption))).out.mono ?_; rintro e' wK2 ⟨rfl, hbK2⟩))
        all_goals (
          go_split_ands
          go_wp2_with fail
          exact ⟨⟨k + 1, by omega, by go_num, Lib.hid (below_keep HB3.out (by assumption))⟩, by simp [intOf]; omega⟩)
      · obtain rfl : k = n := by omega
        have CTS := fun W (h : Below W0.heap.size W0 W) => (HRT'.out W h).out
        rw [← HROWS.out] at CTS
        have CTS' := Lib.hid CTS
        have CB := fun W (h : Below W0.heap.size W0 W) => bnds_any _ l W (HV.out.below h) (by have := HN.out; omega)
        have CRB := fun W (h : Below W0.heap.size W0 W) => refBnd_any _ l W (HV.out.below h) (by have := HN.out; omega)
        obtain ⟨bs, hbs⟩ : ∃ bs, bs = bnds l := ⟨_, rfl⟩
        rw [← bnds_ref] at CRB
        rw [← hbs] at CB CRB
        have CB' := Lib.hid CB
        have CRB' := Lib.hid CRB
        have hrs : rows.length ≤ 100000 ∧ ∀ x ∈ rows, x.vals.length ≤ 1000 ∧ x.lin.length ≤ 1000 := by
          rw [HROWS.out]
          exact ⟨Nat.le_trans (by rw [sortR_length]; exact atDay_len l t) (by rw [← HN.out]; omega), fun x hx => atDay_small HS.out t x ((sortR_perm _).mem_iff.1 hx)⟩
        have CF := fun W (h : Below w2.heap.size w2 W) => fromRows_any _ rows lo hi W (HR2.out.below h) hrs.1 hrs.2
        have CRF := fun W (h : Below w2.heap.size w2 W) => rfromRows_any _ rows lo hi W (HR2.out.below h) hrs.1 hrs.2
        obtain ⟨fr, hfr⟩ : ∃ fr, fr = fromR lo hi rows := ⟨_, rfl⟩
        rw [← hfr] at CF CRF
        have CF' := Lib.hid CF
        have CRF' := Lib.hid CRF
        have CST : Hid (∀ v u W, Tups W v fr → Tups W u fr → Calls Tryz.prog 16 #[v, u] W fun e w' => e = .returned (.bool true) ∧ Below W.heap.size W w') := Lib.hid fun v u W h1 h2 => by have := sameTups_any v u fr fr W h1 h2; rwa [sameTups_iff.2 rfl] at this
        obtain ⟨d0, d1, _, _⟩ := box_two (box_kept (box_kept HBX.out HB2.out) HB.out)
        have CA := Lib.hid fun W (h : Below w2.heap.size w2 W) => awake10_any W (HT.out.below (below_keep HB2.out h))
        have hbb := HB.out
        clear CTS CB CRB hbs hfr hrs CF CRF HRT' HROWS HS HK
        go_upto_region 10 with fail
        go_region_held3 (fun W => Below w2.heap.size w2 W ∧ W.cell? ⟨w.heap.size, 0, none⟩ = some (.int .i64 lo) ∧ W.cell? ⟨w.heap.size, 1, none⟩ = some (.int .i64 hi))
          ((go_split_ands; refine ⟨?_, ?_, ?_⟩ <;> (first | with_reducible assumption | with_reducible exact Below.drew (by assumption) | with_reducible exact cell_drew (by assumption) | with_reducible exact below_keep (by assumption) (by assumption) | with_reducible exact cell_keep (by assumption) (by assumption))))
          (first
            | (go_at_call 22; go_split_ands; refine (CA.out _ (by first | assumption | exact Below.drew (by assumption))).mono ?_; rintro e' wA ⟨rfl, hbA⟩)
            | (go_at_call 30; go_split_ands; refine (CTS'.out _ (below_keep HB2.out (by first | assumption | exact Below.drew (by assumption)))).mono ?_; rintro e' wB ⟨vB, rfl, hOB, hbB⟩; obtain ⟨aB, cB, rfl⟩ := hOB.shape)
            | (go_at_call 25; go_split_ands; refine (sameRows_eq _ _ rows _ (HR2.out.below (by first | assumption | exact Below.drew (by assumption))) (by first | exact hOB.sl | exact hOB.sl.below (Below.refl _ _).drew)).mono ?_; rintro e' wC ⟨rfl, hbC⟩)
            | (go_at_call 26; go_split_ands; refine (CB'.out _ (below_keep HB2.out (by first | assumption | exact Below.drew (by assumption)))).mono ?_; rintro e' wD ⟨vD, rfl, hOD, hbD⟩; obtain ⟨aD, cD, rfl⟩ := hOD.shape)
            | (go_at_call 32; go_split_ands; refine (CRB'.out _ (below_keep HB2.out (by first | assumption | exact Below.drew (by assumption)))).mono ?_; rintro e' wE ⟨vE, rfl, hOE, hbE⟩; obtain ⟨aE, cE, rfl⟩ := hOE.shape; have hDE := hOD.sl.below (by first | exact hbE | exact (below_keep (Below.refl _ _).drew hbE)))
            | (go_at_call 31; go_split_ands; refine (sameInts_q _ _ bs _ (by first | exact hDE | exact hDE.below (Below.refl _ _).drew) (by first | exact hOE.sl | exact hOE.sl.below (Below.refl _ _).drew)).mono ?_; rintro e' wF ⟨rfl, hbF⟩)
            | (go_at_call 33; go_split_ands; refine (CF'.out _ (by first | assumption | exact Below.drew (by assumption))).mono ?_; rintro e' wG ⟨vG, rfl, hOG, hbG⟩; obtain ⟨aG, cG, rfl⟩ := hOG.shape)
            | (go_at_call 34; go_split_ands; refine (CRF'.out _ (by first | assumption | exact Below.drew (by assumption))).mono ?_; rintro e' wH ⟨vH, rfl, hOH, hbH⟩; obtain ⟨aH, cH, rfl⟩ := hOH.shape; have hGH := hOG.sl.below (by first | exact hbH | exact (below_keep (Below.refl _ _).drew hbH)))
            | (go_at_call 16; go_split_ands; refine (CST.out _ _ _ (by first | exact hGH | exact hGH.below (Below.refl _ _).drew) (by first | exact hOH.sl | exact hOH.sl.below (Below.refl _ _).drew)).mono ?_; rintro e' wI ⟨rfl, hbI⟩))
        all_goals (
          go_split_ands
          go_wp2_with fail
          go_ret
          exact ⟨rfl, below_keep HB0.out (below_keep HB2.out (by assumption))⟩)
end Go.Proofs.YtnfccpkmaebbiaaGreatDoor

namespace Go.Proofs.YtnfccpkmaebbiaaGreatDoor
open Go.ChangeShapes Go.WideShapes Go.ChangeAt Go.RowKit
open Go.ChangeMaps (open_string)

set_option maxRecDepth 100000 in
theorem tslic_contract (H : Type) (enc : TypeId × Value → H) (W : World) (base : Nat) (args : Array Value) (ds gs : List (DataW H)) (before : List MemPlace)
    (hval : ∀ (j : Nat) t v, Tryz.f9.params[j]? = some t → args[j]? = some v → Value.okWide Tryz.prog W .any base t v)
    (hW : DataW.Whole enc Tryz.prog Tryz.f9.params.toList Rows.tupleSlicesSpec.vars false W args.toList ds gs before) (hT : Pow W) :
    Calls Tryz.prog 9 args W fun e W' => ∃ v, e = .returned v ∧ Rows.tupleSlicesSpec.post enc Tryz.prog Tryz.f9 false true false false W args v W' := by
  have hW' := hW
  obtain ⟨p, q, hA0, hV, rfl, hfz, hnd⟩ := hW
  have hA : DataW.TrodAll enc Tryz.prog W 0 (fun _ => true) true Tryz.f9.params.toList args.toList ds p := hA0
  rw [Tryz.params9] at hA hval
  obtain ⟨v0, vs0, d0, ds0, p0, q0, hargs, rfl, rfl, h0, r0⟩ := trodAll_cons hA
  obtain ⟨v1, vs1, d1, ds1, p1, q1, rfl, rfl, rfl, h1, r1⟩ := trodAll_cons r0
  obtain ⟨v2, vs2, d2, ds2, p2, q2, rfl, rfl, rfl, h2, r2⟩ := trodAll_cons r1
  obtain ⟨rfl, rfl, rfl⟩ := trodAll_nil r2
  obtain rfl : args = #[v0, v1, v2] := by cases args; simp_all
  obtain ⟨rfl, rfl⟩ := trodVars_none hV
  obtain ⟨l0, hl0, hp0⟩ := open_sl tupE IsTup Tryz.underlying22 cells_tup (hval 0 22 v0 rfl rfl) open_tup_el h0
  obtain ⟨x1, rfl, rfl, rfl, wx1⟩ := open_int Tryz.underlying3 (hval 1 3 v1 rfl rfl) h1
  obtain ⟨lo2, hi2, rfl, plo2, phi2⟩ := open_perarg (hval 2 43 v2 rfl rfl) h2
  refine (tslice_walk v0 l0 x1 lo2 hi2 W hl0 hT (fun _ x hx g hg => ((hp0 x hx).2.2.1 g hg).2.2)).mono fun e W' ⟨he, hb⟩ => ⟨_, he, ?_⟩
  refine law_post rfl rfl (by intro t ht; rw [Tryz.params9] at ht; simp at ht; rcases ht with rfl | rfl | rfl <;> exact ⟨by kernel_rfl, of_decide_eq_true (by kernel_rfl)⟩) rfl hW' hb

theorem tslic_reads (os : Os) {H : Type} (enc : TypeId × Value → H) : ∃ places, DataW.whole enc Tryz.prog ((laidWorld os).forCall (fun _ _ => 0) ⟨#[], #[.slice none 0 0, .int .i64 0, .agg #[.int .i64 0, .int .i64 0]], []⟩).memory Tryz.f9.params.toList Rows.tupleSlicesSpec.vars false (#[.slice none 0 0, .int .i64 0, .agg #[.int .i64 0, .int .i64 0]] : Array Value).toList 8 = some ([.nil, .lit (.int .i64 0), .agg [.lit (.int .i64 0), .lit (.int .i64 0)]], [], places) :=
  ⟨[], by kernel_rfl⟩

set_option maxRecDepth 100000 in
theorem tslic_lifted (os : Os) (started : os.Started) (H : Type) (enc : TypeId × Value → H) (F : Stop.Interp) :
    ReturnsInHanded {} Tryz.checked os 9 .any ((OpenSpec.ofChange Rows.tupleSlicesSpec).preRow enc Tryz.prog Tryz.f9 Rows.tupleSlicesRow.domain false Rows.tupleSlicesRow.laid) (((OpenSpec.ofChange Rows.tupleSlicesSpec).at F).post enc Tryz.prog Tryz.f9 false true false false) := by
  obtain ⟨places, hx⟩ := tslic_reads os enc
  refine returnsInHanded_of_row (C := Tryz.checked) (s := OpenSpec.ofChange Rows.tupleSlicesSpec) own started (by kernel_rfl) Tryz.func9
    (witness_row_at (enc := enc) (C := Tryz.checked) false (laidWorld os) #[.slice none 0 0, .int .i64 0, .agg #[.int .i64 0, .int .i64 0]] rfl (by kernel_rfl) (by kernel_rfl) (by kernel_rfl)
      (OpenSpec.preRow_of_cond 8 hx (by kernel_rfl) (fun k hk => by cases hk) (by kernel_rfl) (laid_met os _))) ?_
  intro W base args ds gs before hval hW _ hcond _ hlaid hsh _
  exact tslic_contract H enc W base args ds gs before hval hW (pow_of_laid hlaid)

theorem tslic_said : Rows.TupleSlicesSaid :=
  OpenClaim.holds_of_cond 9 Tryz.f9 rfl rfl rfl rfl rfl rfl rfl ⟨rfl, rfl, rfl, rfl, rfl⟩ rfl rfl rfl rfl rfl (by kernel_rfl) Tryz.func9 (by kernel_rfl)
    (of_decide_eq_true (by kernel_rfl)) (by unfold Func.isWrapper; first | (rw [if_pos (by decide +kernel)]; kernel_rfl) | (rw [if_neg (by decide +kernel)]; exact ⟨rfl, rfl⟩))
    (fun os started H enc _ F => by rw [OpenClaim.pre_eq_preRow]; exact tslic_lifted os started H enc F)

/-- No parameter wants a stand-in; the program's own looks are off. -/
theorem tslic_plain (f : FuncId) (fn : Func) (hf : Tryz.pinned.checked.prog.funcNamed "annalist/annalistlaw10.TupleSlices" = some f) (hfn : Tryz.pinned.checked.prog.funcs[f]? = some fn) :
    false = Tryz.pinned.checked.prog.looks [] ∧ ∀ (j : Nat) t, fn.params[j]? = some t → Tryz.pinned.checked.prog.wantsStandIn t = false := by
  obtain rfl : f = 9 := Option.some.inj ((show Tryz.prog.funcNamed "annalist/annalistlaw10.TupleSlices" = some 9 by kernel_rfl).symm.trans hf) |>.symm
  obtain rfl : fn = Tryz.f9 := (Option.some.inj (Tryz.func9.symm.trans hfn)).symm
  refine ⟨by kernel_rfl, fun j t ht => ?_⟩
  rw [Tryz.params9] at ht
  have hm := Array.mem_of_getElem? ht
  simp at hm
  rcases hm with rfl | rfl | rfl
  · exact (show Tryz.prog.wantsStandIn 22 = false by kernel_rfl)
  · exact (show Tryz.prog.wantsStandIn 3 = false by kernel_rfl)
  · exact (show Tryz.prog.wantsStandIn 43 = false by kernel_rfl)

/-- The card. -/
theorem tslic_card : Rows.TupleSlicesCardSaid :=
  Claim7.holds_tied_plain_at .later [] _ _ _ _ tslic_said (fun _ h => by cases h) (by kernel_rfl) (fun _ h => by cases h) tupleSlices_row_tie rfl ⟨rfl, rfl⟩ (by kernel_rfl) rfl tslic_plain (by kernel_rfl)
end Go.Proofs.YtnfccpkmaebbiaaGreatDoor
