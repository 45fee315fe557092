/- A part of the proofs: Wcn, LawCCnt. No condition beside sizes and tables that read as laid. -/
import Derived.Test.YtnfccpkmaebbiaaGreatDoorMgAd
import Derived.Deep.DeepCutAuto
import Derived.Test.YtnfccpkmaebbiaaGreatDoorCards
import Derived.Test.YtnfccpkmaebbiaaGreatDoorTie
namespace Go.Proofs.YtnfccpkmaebbiaaGreatDoor
open Go.RowKit Go.Lib

theorem mult_bare (l : List GRow) (vs : List GVal) : multL (l.map bareR) vs = multL l vs := by
  unfold multL
  rw [List.countP_map]
  rfl
theorem mult_coal {l T : List Tup} (h : IsNF (l.map bare) T) (t : Int) (vs : List GVal) : multL (sortR (atDay T t)) vs = multL (sortR (atDay l t)) vs := by
  rw [multL_perm (sortR_perm _), multL_perm (sortR_perm _), multL_perm (h.day t), atDay_bare, mult_bare]
theorem len_coal {l T : List Tup} (h : IsNF (l.map bare) T) (t : Int) : (sortR (atDay T t)).length = (sortR (atDay l t)).length := by
  rw [sortR_length, sortR_length, (h.day t).length_eq, atDay_bare, List.length_map]
set_option maxHeartbeats 8000000 in
set_option maxRecDepth 100000 in
theorem ccnt_walk (v : Value) (xs : List U5) (t : Nat) (w : World) (hv : Sl u5E w free v xs) (hok : ∀ x ∈ xs, x.ok) (ht : t < 65536) (hT : Pow w) :
    Calls Tryz.prog 4 #[v, .int .u16 (t : Int)] w fun e w' => e = .returned (.bool true) ∧ Below w.heap.size w w' := by
  have HTU := Lib.hid (tuples_any v xs 16 (by decide) w hv hok)
  have hk := tups_keyable xs 16
  have hs := tups_small xs 16
  have hl := tupsOf_length xs 16
  obtain ⟨l, hl0⟩ : ∃ l, l = tupsOf xs 16 := ⟨_, rfl⟩
  rw [← hl0] at HTU hk hs hl
  have HK := Lib.hid hk
  have HS := Lib.hid hs
  have HT := Lib.hid hT
  obtain ⟨day, hday⟩ : ∃ d : Int, d = (t : Int) % 60 := ⟨_, rfl⟩
  have hd1 : (t : Int) % 60 = day := hday.symm
  have hd2 : 0 ≤ day ∧ day < 60 := by omega
  have hd3 : IntKind.i64.wrap day = day := IntWalk.i64_in _ (by omega)
  clear hv hok hk hs hT hl0 hday
  go_enter Tryz.func4, Tryz.ntmps4
  go_wp2_with fail
  refine HTU.out.mono ?_
  rintro _ w1 ⟨vl, rfl, hO1, hb1⟩
  obtain ⟨al, cl, rfl⟩ := hO1.shape
  have HL1 := Lib.hid hO1.sl
  have HB1 := Lib.hid hb1
  have HTS := Lib.hid (timeslice_any _ l day w1 hO1.sl (by omega) HS.out)
  clear hO1 hb1 HTU
  go_wp2_with fail
  refine HTS.out.mono ?_
  rintro _ w2 ⟨va, rfl, hO2, hb2⟩
  obtain ⟨aa, ca, rfl⟩ := hO2.shape
  have hal : (sortR (atDay l day)).length ≤ 16 := by rw [sortR_length]; exact Nat.le_trans (atDay_len _ _) hl
  have hDT : ∀ T, IsNF (l.map bare) T → (∀ vs, multL (sortR (atDay T day)) vs = multL (sortR (atDay l day)) vs) ∧ (sortR (atDay T day)).length = (sortR (atDay l day)).length := fun T h => ⟨fun vs => mult_coal h day vs, len_coal h day⟩
  obtain ⟨ra, hra⟩ : ∃ r, r = sortR (atDay l day) := ⟨_, rfl⟩
  rw [← hra] at hO2 hal hDT ⊢
  obtain ⟨n, hn⟩ : ∃ n, n = ra.length := ⟨_, rfl⟩
  have HN := Lib.hid hn
  have hSA := hO2.sl
  rw [← hn] at hSA hal hDT ⊢
  have HSA := Lib.hid hSA
  have HDT := Lib.hid hDT
  have HL2 := Lib.hid (HL1.out.below hb2)
  have HB2 := Lib.hid (below_keep HB1.out hb2)
  have HC := Lib.hid (coalesce_any _ l w2 HL2.out (by omega) HK.out (HT.out.below HB2.out))
  clear hO2 hb2 hra hn hSA hDT HTS HL1
  go_wp2_with fail
  refine HC.out.mono ?_
  rintro _ w3 ⟨T, hT, hTl, vT, rfl, hO3, hb3⟩
  obtain ⟨aT, cT, rfl⟩ := hO3.shape
  obtain ⟨hMU, hLE⟩ := HDT.out T hT
  have hsT := hT.small (bares_keyable HK.out)
  have HTS := Lib.hid (timeslice_any _ T day w3 hO3.sl (by omega) hsT)
  obtain ⟨rb, hrb⟩ : ∃ r, r = sortR (atDay T day) := ⟨_, rfl⟩
  rw [← hrb] at HTS hMU hLE
  have HMU := Lib.hid hMU
  have HSA3 := Lib.hid (HSA.out.below hb3)
  have HB3 := Lib.hid (below_keep HB2.out hb3)
  clear hT hTl hO3 hb3 hsT hrb hMU HC HSA HL2
  generalize T.length = nT at HTS ⊢
  go_wp2_with fail
  refine HTS.out.mono ?_
  rintro _ w4 ⟨vb, rfl, hO4, hb4⟩
  obtain ⟨ab, cb, rfl⟩ := hO4.shape
  have hSB := hO4.sl
  rw [hLE] at hSB ⊢
  have HLE := Lib.hid hLE
  have HSB := Lib.hid hSB
  have HSA4 := Lib.hid (HSA3.out.below hb4)
  have HB4 := Lib.hid (below_keep HB3.out hb4)
  clear hO4 hb4 hSB hLE HTS HSA3 HDT
  go_wp2_with fail
  go_loopw [25] (fun i wr => ∃ k : Nat, k ≤ n ∧ i = .int .i64 k ∧ Hid (Below w4.heap.size w4 wr)) (fun i _ => n - (RowKit.intOf i).toNat)
  case atStart => exact ⟨0, Nat.zero_le _, rfl, Lib.hid (.refl _ _)⟩
  case round =>
    obtain ⟨k, hk, rfl, HB⟩ := hrel
    obtain ⟨wo, rfl⟩ : ∃ wo : World, wo = wr := ⟨_, rfl⟩
    by_cases hlt : k < n
    · obtain ⟨x, hx⟩ := lget_some ra k (by rw [← HN.out]; exact hlt)
      obtain ⟨b, o, a1, n1, e1, m1, rfl, hvv, hll, p0, p1⟩ := rows_at (HSA4.out.below HB.out) hx
      have hba := below_alloc wo (.cells #[.slice a1 x.vals.length n1, .slice e1 x.lin.length m1] 36)
      have hgx := World.alloc_heap_new wo (.cells #[.slice a1 x.vals.length n1, .slice e1 x.lin.length m1] 36)
      obtain ⟨w5, hw5⟩ : ∃ w5, w5 = wo.alloc (.cells #[.slice a1 x.vals.length n1, .slice e1 x.lin.length m1] 36) := ⟨_, rfl⟩
      rw [← hw5] at hba hgx
      obtain ⟨d0, d1, _, _⟩ := box_two hgx
      have CM1 := fun W (h : Below w5.heap.size w5 W) => Lib.hid (rmult_any _ _ ra x.vals W (((HSA4.out.below HB.out).below hba).below h) ((hvv.below hba).below h) (by have := HN.out; omega))
      have CM2 := fun W (h : Below w5.heap.size w5 W) => Lib.hid (rmult_any (.slice ab n cb) _ rb x.vals W (((HSB.out.below HB.out).below hba).below h) ((hvv.below hba).below h) (by have := HLE.out; omega))
      rw [HMU.out] at CM2
      obtain ⟨z, hz⟩ : ∃ z, z = multL ra x.vals := ⟨_, rfl⟩
      rw [← hz] at CM1 CM2
      have CM1' := Lib.hid CM1
      have CM2' := Lib.hid CM2
      have HB5 := Lib.hid (below_keep HB.out hba)
      have HW5 := Lib.hid hw5
      have hzz : ((z : Int) != (z : Int)) = false := by simp
      rw [hw5] at d0 d1
      generalize x.vals.length = nx at d0 d1 p0 p1 CM1' CM2' HW5 ⊢
      generalize x.lin.length = ny at d0 d1 p0 p1 HW5 ⊢
      clear hx hvv hll hba hgx hw5 CM1 CM2 hz
      go_upto_region 6 with fail
      rw [← HW5.out] at d0 d1 ⊢
      have hbb : Below w5.heap.size w5 w5 := .refl _ _
      go_region_held3 (fun W => Below w5.heap.size w5 W ∧ W.cell? ⟨wo.heap.size, 0, none⟩ = some (.slice a1 nx n1))
        ((go_split_ands; refine ⟨?_, ?_⟩ <;> (first | with_reducible assumption | with_reducible exact Below.drew (by assumption) | with_reducible exact cell_drew (by assumption) | with_reducible exact below_keep (by assumption) (by assumption) | with_reducible exact cell_keep (by assumption) (by assumption))))
        (first
          | (go_at_call 21; go_split_ands; with_reducible refine (CM1'.out _ (by first | assumption | exact Below.drew (by assumption))).out.mono ?_; rintro e' wK ⟨rfl, hbK⟩)
          | (go_at_call 21; go_split_ands; with_reducible refine (CM2'.out _ (by first | assumption | exact Below.drew (by assumption))).out.mono ?_; rintro e' wK2 ⟨rfl, hbK2⟩))
      all_goals (
        go_split_ands
        go_wp2_with fail
        go_roundw
        case rel => exact ⟨k + 1, by omega, by go_num, Lib.hid (below_keep HB5.out (by assumption))⟩
        case measure => simp [RowKit.intOf]; omega)
    · have hnn : ((n : Int) == (n : Int)) = true := by simp
      have HBE := Lib.hid (below_keep HB4.out HB.out)
      have HAW := Lib.hid (awake11_any wo (HT.out.below HBE.out))
      go_wp2_with fail
      refine HAW.out.mono ?_
      rintro _ w6 ⟨rfl, hb6⟩
      have HB6 := Lib.hid (below_keep HBE.out hb6)
      clear hb6
      go_wp2_with fail
      go_ret
      exact ⟨rfl, HB6.out⟩
end Go.Proofs.YtnfccpkmaebbiaaGreatDoor

namespace Go.Proofs.YtnfccpkmaebbiaaGreatDoor
open Go.ChangeShapes Go.WideShapes Go.ChangeAt Go.RowKit
open Go.ChangeMaps (open_string)

set_option maxRecDepth 100000 in
theorem ccnt_contract (H : Type) (enc : TypeId × Value → H) (W : World) (base : Nat) (args : Array Value) (ds gs : List (DataW H)) (before : List MemPlace)
    (hval : ∀ (j : Nat) t v, Tryz.f4.params[j]? = some t → args[j]? = some v → Value.okWide Tryz.prog W .any base t v)
    (hW : DataW.Whole enc Tryz.prog Tryz.f4.params.toList Rows.coalesceCountsSpec.vars false W args.toList ds gs before) (hT : Pow W) :
    Calls Tryz.prog 4 args W fun e W' => ∃ v, e = .returned v ∧ Rows.coalesceCountsSpec.post enc Tryz.prog Tryz.f4 false true false false W args v W' := by
  have hW' := hW
  obtain ⟨p, q, hA0, hV, rfl, hfz, hnd⟩ := hW
  have hA : DataW.TrodAll enc Tryz.prog W 0 (fun _ => true) true Tryz.f4.params.toList args.toList ds p := hA0
  rw [Tryz.params4] at hA hval
  obtain ⟨v0, vs0, d0, ds0, p0, q0, hargs, rfl, rfl, h0, r0⟩ := trodAll_cons hA
  obtain ⟨v1, vs1, d1, ds1, p1, q1, rfl, rfl, rfl, h1, r1⟩ := trodAll_cons r0
  obtain ⟨rfl, rfl, rfl⟩ := trodAll_nil r1
  obtain rfl : args = #[v0, v1] := by cases args; simp_all
  obtain ⟨rfl, rfl⟩ := trodVars_none hV
  obtain ⟨l0, hl0, hp0⟩ := open_sl u5E U5.ok Tryz.underlying28 cells_u5 (hval 0 28 v0 rfl rfl) open_u5_el h0
  obtain ⟨z1, rfl, rfl, rfl, wz1⟩ := open_int Tryz.underlying29 (hval 1 29 v1 rfl rfl) h1; obtain ⟨x1, rfl, b1⟩ := u16_of wz1
  refine (ccnt_walk v0 l0 x1 W hl0 hp0 b1 hT).mono fun e W' ⟨he, hb⟩ => ⟨_, he, ?_⟩
  refine law_post rfl rfl (by intro t ht; rw [Tryz.params4] at ht; simp at ht; rcases ht with rfl | rfl <;> exact ⟨by kernel_rfl, of_decide_eq_true (by kernel_rfl)⟩) rfl hW' hb

theorem ccnt_reads (os : Os) {H : Type} (enc : TypeId × Value → H) : ∃ places, DataW.whole enc Tryz.prog ((laidWorld os).forCall (fun _ _ => 0) ⟨#[], #[.slice none 0 0, .int .u16 0], []⟩).memory Tryz.f4.params.toList Rows.coalesceCountsSpec.vars false (#[.slice none 0 0, .int .u16 0] : Array Value).toList 8 = some ([.nil, .lit (.int .u16 0)], [], places) :=
  ⟨[], by kernel_rfl⟩

set_option maxRecDepth 100000 in
theorem ccnt_lifted (os : Os) (started : os.Started) (H : Type) (enc : TypeId × Value → H) (F : Stop.Interp) :
    ReturnsInHanded {} Tryz.checked os 4 .any ((OpenSpec.ofChange Rows.coalesceCountsSpec).preRow enc Tryz.prog Tryz.f4 Rows.coalesceCountsRow.domain false Rows.coalesceCountsRow.laid) (((OpenSpec.ofChange Rows.coalesceCountsSpec).at F).post enc Tryz.prog Tryz.f4 false true false false) := by
  obtain ⟨places, hx⟩ := ccnt_reads os enc
  refine returnsInHanded_of_row (C := Tryz.checked) (s := OpenSpec.ofChange Rows.coalesceCountsSpec) own started (by kernel_rfl) Tryz.func4
    (witness_row_at (enc := enc) (C := Tryz.checked) false (laidWorld os) #[.slice none 0 0, .int .u16 0] rfl (by kernel_rfl) (by kernel_rfl) (by kernel_rfl)
      (OpenSpec.preRow_of_cond 8 hx (by kernel_rfl) (fun k hk => by cases hk) (by kernel_rfl) (laid_met os _))) ?_
  intro W base args ds gs before hval hW _ hcond _ hlaid hsh _
  exact ccnt_contract H enc W base args ds gs before hval hW (pow_of_laid hlaid)

theorem ccnt_said : Rows.CoalesceCountsSaid :=
  OpenClaim.holds_of_cond 4 Tryz.f4 rfl rfl rfl rfl rfl rfl rfl ⟨rfl, rfl, rfl, rfl, rfl⟩ rfl rfl rfl rfl rfl (by kernel_rfl) Tryz.func4 (by kernel_rfl)
    (of_decide_eq_true (by kernel_rfl)) (by unfold Func.isWrapper; first | (rw [if_pos (by decide +kernel)]; kernel_rfl) | (rw [if_neg (by decide +kernel)]; exact ⟨rfl, rfl⟩))
    (fun os started H enc _ F => by rw [OpenClaim.pre_eq_preRow]; exact ccnt_lifted os started H enc F)

/-- No parameter wants a stand-in; the program's own looks are off. -/
theorem ccnt_plain (f : FuncId) (fn : Func) (hf : Tryz.pinned.checked.prog.funcNamed "annalist/annalistlaw11.CoalesceCounts" = some f) (hfn : Tryz.pinned.checked.prog.funcs[f]? = some fn) :
    false = Tryz.pinned.checked.prog.looks [] ∧ ∀ (j : Nat) t, fn.params[j]? = some t → Tryz.pinned.checked.prog.wantsStandIn t = false := by
  obtain rfl : f = 4 := Option.some.inj ((show Tryz.prog.funcNamed "annalist/annalistlaw11.CoalesceCounts" = some 4 by kernel_rfl).symm.trans hf) |>.symm
  obtain rfl : fn = Tryz.f4 := (Option.some.inj (Tryz.func4.symm.trans hfn)).symm
  refine ⟨by kernel_rfl, fun j t ht => ?_⟩
  rw [Tryz.params4] at ht
  have hm := Array.mem_of_getElem? ht
  simp at hm
  rcases hm with rfl | rfl
  · exact (show Tryz.prog.wantsStandIn 28 = false by kernel_rfl)
  · exact (show Tryz.prog.wantsStandIn 29 = false by kernel_rfl)

/-- The card. -/
theorem ccnt_card : Rows.CoalesceCountsCardSaid :=
  Claim7.holds_tied_plain_at .later [] _ _ _ _ ccnt_said (fun _ h => by cases h) (by kernel_rfl) (fun _ h => by cases h) coalesceCounts_row_tie rfl ⟨rfl, rfl⟩ (by kernel_rfl) rfl ccnt_plain (by kernel_rfl)
end Go.Proofs.YtnfccpkmaebbiaaGreatDoor
