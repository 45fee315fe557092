/- A part of the proofs: Pck, Wid, LawTIdem. No condition beside sizes and tables that read as laid. -/
import Derived.Test.YtnfccpkmaebbiaaGreatDoorMgAa
import Derived.Test.YtnfccpkmaebbiaaGreatDoorProg
import Derived.Test.YtnfccpkmaebbiaaGreatDoorMgAd
import Derived.Deep.DeepCutAuto
import Derived.Test.YtnfccpkmaebbiaaGreatDoorCards
import Derived.Test.YtnfccpkmaebbiaaGreatDoorTie
namespace Go.Proofs.YtnfccpkmaebbiaaGreatDoor
open Go.RowKit

set_option maxHeartbeats 1000000 in
theorem pick_q (k n : Nat) (_hk : k < 65536) (hn : 0 < n) (hn2 : n < 65536) (w : World) : Calls Tryz.prog 37 #[.int .i64 (k : Int), .int .i64 (n : Int)] w fun e w' => e = .returned (.int .i64 ((k % n : Nat) : Int)) ∧ w = w' := by
  have hz : ¬ (n : Int) ≤ 0 := by omega
  have hne : (n : Int) ≠ 0 := by omega
  have e1 : Int.tmod (k : Int) (n : Int) = ((k % n : Nat) : Int) := by rw [Int.ofNat_tmod]
  have hlt : k % n < n := Nat.mod_lt _ hn
  have e2 : Int.tmod (((k % n : Nat) : Int) + (n : Int)) (n : Int) = ((k % n : Nat) : Int) := by
    rw [show ((k % n : Nat) : Int) + (n : Int) = ((k % n + n : Nat) : Int) by omega, ← Int.ofNat_tmod, Nat.add_mod_right, Nat.mod_mod]
  go_enter Tryz.func37, Tryz.ntmps37
  go_wp2_with fail
  go_ret
  exact ⟨ret_int (by first | rfl | simp), rfl⟩
end Go.Proofs.YtnfccpkmaebbiaaGreatDoor

namespace Go.Proofs.YtnfccpkmaebbiaaGreatDoor
open Go.RowKit Go.Lib

theorem turned_perm {α : Type} (l : List α) (i : Nat) : (l.drop i ++ l.take i).Perm l := List.perm_append_comm.trans (by rw [List.take_append_drop])
theorem pick_zero (k : Int) (w : World) : Calls Tryz.prog 37 #[.int .i64 k, .int .i64 ((0 : Nat) : Int)] w fun e w' => e = .returned (.int .i64 ((0 : Nat) : Int)) ∧ w = w' := by
  go_enter Tryz.func37, Tryz.ntmps37
  go_wp2_with fail
  go_ret
  exact ⟨rfl, rfl⟩
theorem pick_le (k n : Nat) (hk : k < 65536) (hn2 : n < 65536) (w : World) : Calls Tryz.prog 37 #[.int .i64 (k : Int), .int .i64 (n : Int)] w fun e w' => ∃ i : Nat, i ≤ n ∧ e = .returned (.int .i64 (i : Int)) ∧ w = w' := by
  rcases Nat.eq_zero_or_pos n with h | h
  · subst h
    refine (pick_zero _ w).mono ?_
    rintro e w' ⟨rfl, rfl⟩
    exact ⟨0, Nat.le_refl _, rfl, rfl⟩
  · refine (pick_q k n hk h hn2 w).mono ?_
    rintro e w' ⟨rfl, rfl⟩
    exact ⟨_, Nat.le_of_lt (Nat.mod_lt _ h), rfl, rfl⟩
set_option maxHeartbeats 4000000 in
set_option maxRecDepth 100000 in
theorem tidem_walk (v : Value) (xs : List U5) (kk : Nat) (w : World) (hv : Sl u5E w free v xs) (hok : ∀ x ∈ xs, x.ok) (hkk : kk < 256) (hT : Pow w) :
    Calls Tryz.prog 11 #[v, .int .u8 (kk : Int)] w fun e w' => e = .returned (.bool true) ∧ Below w.heap.size w w' := by
  have HTU := Lib.hid (tuples_any v xs 14 (by decide) w hv hok)
  have hk := tups_keyable xs 14
  have hl := tupsOf_length xs 14
  obtain ⟨l, hl0⟩ : ∃ l, l = tupsOf xs 14 := ⟨_, rfl⟩
  rw [← hl0] at HTU hk hl
  have HK := Lib.hid hk
  have HT := Lib.hid hT
  have hw : IntKind.i64.wrap (kk : Int) = kk := IntWalk.i64_in _ (by omega)
  clear hv hok hk hT hl0
  go_enter Tryz.func11, Tryz.ntmps11
  go_wp2_with fail
  refine HTU.out.mono ?_
  rintro _ w1 ⟨vl, rfl, hO1, hb1⟩
  obtain ⟨al, cl, rfl⟩ := hO1.shape
  obtain ⟨n, hn⟩ : ∃ n, n = l.length := ⟨_, rfl⟩
  have HNL := Lib.hid hn
  have HL1 := hO1.sl
  rw [← hn] at HL1 hl ⊢
  have HL1 := Lib.hid HL1
  have HB1 := Lib.hid hb1
  clear hO1 hb1 HTU hn
  go_wp2_with fail
  refine (pick_le kk n (by omega) (by omega) _).mono ?_
  rintro _ _ ⟨i, hi, rfl, rfl⟩
  have HN1 := Lib.hid (normalize_any _ l w1 HL1.out (by rw [← HNL.out]; omega) HK.out (HT.out.below HB1.out))
  go_wp2_with fail
  refine HN1.out.mono ?_
  rintro _ w3 ⟨S, hS, hSl, vS, rfl, hOS, hb3⟩
  obtain ⟨aS, cS, rfl⟩ := hOS.shape
  obtain ⟨k, hk⟩ : ∃ k, k = S.length := ⟨_, rfl⟩
  have HSK := Lib.hid hk
  have HSS := hOS.sl
  rw [← hk] at HSS hSl ⊢
  have HSS := Lib.hid HSS
  have HSN := Lib.hid hS
  have HB3 := Lib.hid (below_keep HB1.out hb3)
  have HL3 := Lib.hid (HL1.out.below hb3)
  have hkn : k ≤ 14 := by rw [← HNL.out] at hSl; omega
  clear hS hOS hb3 HN1 hk HL1 HB1 hSl
  have hcap := HL3.out.cap
  have hi1 : (i : Int) ≤ (cl : Int) := by omega
  have hi2 : (0 : Int) ≤ (i : Int) := by omega
  have hi3 : (i : Int) ≤ (n : Int) := by omega
  have hi4 : (n : Int) ≤ (cl : Int) := by omega
  have HTL : Hid (([] : List Tup).length + (l.drop i).length = n - i) := by show _ = _; rw [List.length_drop, ← HNL.out]; simp
  have HDL : Hid ((l.drop i).length + (l.take i).length = n) := by show _ = _; rw [List.length_drop, List.length_take, ← HNL.out]; omega
  have HTK : Hid (Sl tupE w3 (fun mm => w3.heap.size ≤ mm) (.slice al i cl) (l.take i)) := (HL3.out.takeS hi).old (Nat.le_refl _)
  have HLN : Hid (l.length = n) := HNL.out.symm
  go_upto_region 4 with fail
  go_cut [8] (fun s8 wx => ∃ tl : List Tup, Hid (tl = l.drop i ++ l.take i) ∧ Own tupE wx w3.heap.size s8 tl ∧ Below w3.heap.size w3 wx)
  case first =>
    by_cases hck : cl = i
    · have hin : i = n := by omega
      subst hck
      subst hin
      have HD : Hid (Sl tupE w3 (fun mm => w3.heap.size ≤ mm) (.slice al 0 0) (l.drop cl)) := Sl.none_left (by rw [HLN.out]; exact Nat.le_refl _) rfl
      go_region_held3 (fun W => Below w3.heap.size w3 W)
        ((first | exact (Below.refl _ _).drew | exact below_alloc_keep (by assumption) | exact Below.trans (by assumption) (Joined.below (by assumption)) | exact Below.trans (by assumption) (Pushed.below (by assumption))))
        (first
          | (refine step_join rfl (.const (.slice none 0 0)) (.tmp 20) 22 rfl tupE Tryz.underlying22 w3.heap.size (.slice none 0 0) (.slice al 0 0) [] (l.drop cl) rfl rfl (Own.nil _ _ _) ((HD.out.below (by assumption)).mono (fun _ _ h => by simp [Value.ownBlock] at h)) (by rw [HTL.out]; unfold maxLen; omega) (by rw [HTL.out]; show _ * 64 ≤ _; omega) (Below.size (by assumption)) (cl - cl) HTL.out ?_; intro x1 y1 w4 hJ1)
          | (refine step_join rfl (.tmp 21) (.tmp 24) 22 rfl tupE Tryz.underlying22 w3.heap.size (.slice x1 (cl - cl) y1) (.slice al cl cl) (l.drop cl) (l.take cl) rfl rfl hJ1.own ((HTK.out.below (by assumption)).mono (fun mm _ hh => (hJ1.own.lt mm hh.symm).1)) (by rw [HDL.out]; unfold maxLen; omega) (by rw [HDL.out]; show _ * 64 ≤ _; omega) (Below.size (by assumption)) cl HDL.out ?_; intro x3 y3 w5 hJ3))
      all_goals (
        go_split_ands
        go_wp2_with fail
        go_meet
        exact ⟨_, rfl, hJ3.own, by assumption⟩)
    · have HD : Hid (Sl tupE w3 (fun mm => w3.heap.size ≤ mm) (.slice (al.map fun y => y.add (i * 4)) (n - i) (cl - i)) (l.drop i)) := by
        have h := HL3.out.dropS hi
        exact h.old (Nat.le_refl _)
      go_region_held3 (fun W => Below w3.heap.size w3 W)
        ((first | exact (Below.refl _ _).drew | exact below_alloc_keep (by assumption) | exact Below.trans (by assumption) (Joined.below (by assumption)) | exact Below.trans (by assumption) (Pushed.below (by assumption))))
        (first
          | (refine step_join rfl (.const (.slice none 0 0)) (.tmp 20) 22 rfl tupE Tryz.underlying22 w3.heap.size (.slice none 0 0) (.slice (al.map fun y => y.add (i * 4)) (n - i) (cl - i)) [] (l.drop i) rfl rfl (Own.nil _ _ _) ((HD.out.below (by assumption)).mono (fun _ _ h => by simp [Value.ownBlock] at h)) (by rw [HTL.out]; unfold maxLen; omega) (by rw [HTL.out]; show _ * 64 ≤ _; omega) (Below.size (by assumption)) (n - i) HTL.out ?_; intro x1 y1 w4 hJ1)
          | (refine step_join rfl (.tmp 21) (.tmp 24) 22 rfl tupE Tryz.underlying22 w3.heap.size (.slice x1 (n - i) y1) (.slice al i cl) (l.drop i) (l.take i) rfl rfl hJ1.own ((HTK.out.below (by assumption)).mono (fun mm _ hh => (hJ1.own.lt mm hh.symm).1)) (by rw [HDL.out]; unfold maxLen; omega) (by rw [HDL.out]; show _ * 64 ≤ _; omega) (Below.size (by assumption)) n HDL.out ?_; intro x3 y3 w5 hJ3))
      all_goals (
        go_split_ands
        go_wp2_with fail
        go_meet
        exact ⟨_, rfl, hJ3.own, by assumption⟩)
  case rest =>
    obtain ⟨tl, htl, hOT, hB4⟩ := hcut
    have HTP : Hid (tl.Perm l) := by show _; rw [htl.out]; exact turned_perm l i
    have htn : tl.length = n := by rw [HTP.out.length_eq]; exact HLN.out
    obtain ⟨aT, cT, rfl⟩ := hOT.shape
    have HTT := Lib.hid hOT.sl
    have HTN := Lib.hid htn
    rw [htn]
    have HB4 := Lib.hid (HB3.out.trans (hB4.mono HB3.out.size))
    have HS4 := Lib.hid (HSS.out.below hB4)
    have HL4 := Lib.hid (HL3.out.below hB4)
    have HAW := Lib.hid (awake10_any wc (HT.out.below HB4.out))
    clear htl hOT hB4 htn HSS HL3 HTK HTL HDL hcap hi1 hi2 hi3 hi4 HB3
    go_wp2_with fail
    refine HAW.out.mono ?_
    rintro _ w6 ⟨rfl, hb⟩
    have HB6 := Lib.hid (below_keep HB4.out hb)
    have HS6 := Lib.hid (HS4.out.below hb)
    have HL6 := Lib.hid (HL4.out.below hb)
    have HT6 := Lib.hid (HTT.out.below hb)
    have HN2 := Lib.hid (normalize_any _ S w6 HS6.out (by rw [← HSK.out]; omega) (HSN.out.keyable HK.out) (HT.out.below HB6.out))
    clear hb HAW HS4 HL4 HTT HB4
    go_wp2_with fail
    refine HN2.out.mono ?_
    rintro _ w7 ⟨S2, hS2, _, v2, rfl, hO2, hb⟩
    obtain rfl : S2 = S := hS2.unique HSN.out.self
    have HB7 := Lib.hid (below_keep HB6.out hb)
    have HS7 := Lib.hid (HS6.out.below hb)
    have HL7 := Lib.hid (HL6.out.below hb)
    have HT7 := Lib.hid (HT6.out.below hb)
    have HSM := Lib.hid (sameTups_any _ _ S2 S2 w7 hO2.sl HS7.out)
    have hsq : sameTups S2 S2 = true := sameTups_iff.2 rfl
    rw [hsq] at HSM
    obtain ⟨a2, c2, rfl⟩ := hO2.shape
    clear hb hO2 HN2 hS2 HS6 HL6 HT6 HB6 hsq
    go_wp2_with fail
    refine HSM.out.mono ?_
    rintro _ w8 ⟨rfl, hb⟩
    have HB8 := Lib.hid (below_keep HB7.out hb)
    have HS8 := Lib.hid (HS7.out.below hb)
    have HL8 := Lib.hid (HL7.out.below hb)
    have HT8 := Lib.hid (HT7.out.below hb)
    have HN3 := Lib.hid (normalize_any _ tl w8 HT8.out (by rw [HTN.out]; omega) (fun x hx => HK.out x (HTP.out.mem_iff.1 hx)) (HT.out.below HB8.out))
    rw [HTN.out] at HN3
    clear hb HSM HS7 HL7 HT7 HB7
    go_wp2_with fail
    refine HN3.out.mono ?_
    rintro _ w9 ⟨S3, hS3, _, v3, rfl, hO3, hb⟩
    obtain rfl : S3 = S2 := hS3.same HSN.out fun t => atDay_perm HTP.out t
    have HB9 := Lib.hid (below_keep HB8.out hb)
    have HS9 := Lib.hid (HS8.out.below hb)
    have HL9 := Lib.hid (HL8.out.below hb)
    have HSM := Lib.hid (sameTups_any _ _ S3 S3 w9 hO3.sl HS9.out)
    have hsq : sameTups S3 S3 = true := sameTups_iff.2 rfl
    rw [hsq] at HSM
    obtain ⟨a3, c3, rfl⟩ := hO3.shape
    clear hb hO3 HN3 hS3 HS8 HL8 HT8 HB8 hsq
    go_wp2_with fail
    refine HSM.out.mono ?_
    rintro _ w10 ⟨rfl, hb⟩
    have HB10 := Lib.hid (below_keep HB9.out hb)
    have HEQ := Lib.hid (equiv_any _ _ S3 l w10 (HS9.out.below hb) (HL9.out.below hb) (by rw [← HSK.out]; omega) (by rw [← HNL.out]; omega) (HSN.out.keyable HK.out) HK.out (HT.out.below HB10.out))
    clear hb HSM HS9 HL9 HB9
    go_wp2_with fail
    refine HEQ.out.mono ?_
    rintro _ w11 ⟨q, HQ, rfl, hb⟩
    have hq : q = true := HQ.out.2 HSN.out.day
    subst hq
    have HB11 := Lib.hid (below_keep HB10.out hb)
    clear hb HEQ HB10 HQ
    go_wp2_with fail
    go_ret
    exact ⟨rfl, HB11.out⟩
end Go.Proofs.YtnfccpkmaebbiaaGreatDoor

namespace Go.Proofs.YtnfccpkmaebbiaaGreatDoor
open Go.ChangeShapes Go.WideShapes Go.ChangeAt Go.RowKit
open Go.ChangeMaps (open_string)

set_option maxRecDepth 100000 in
theorem tidem_contract (H : Type) (enc : TypeId × Value → H) (W : World) (base : Nat) (args : Array Value) (ds gs : List (DataW H)) (before : List MemPlace)
    (hval : ∀ (j : Nat) t v, Tryz.f11.params[j]? = some t → args[j]? = some v → Value.okWide Tryz.prog W .any base t v)
    (hW : DataW.Whole enc Tryz.prog Tryz.f11.params.toList Rows.tupleIdempotentSpec.vars false W args.toList ds gs before) (hT : Pow W) :
    Calls Tryz.prog 11 args W fun e W' => ∃ v, e = .returned v ∧ Rows.tupleIdempotentSpec.post enc Tryz.prog Tryz.f11 false true false false W args v W' := by
  have hW' := hW
  obtain ⟨p, q, hA0, hV, rfl, hfz, hnd⟩ := hW
  have hA : DataW.TrodAll enc Tryz.prog W 0 (fun _ => true) true Tryz.f11.params.toList args.toList ds p := hA0
  rw [Tryz.params11] at hA hval
  obtain ⟨v0, vs0, d0, ds0, p0, q0, hargs, rfl, rfl, h0, r0⟩ := trodAll_cons hA
  obtain ⟨v1, vs1, d1, ds1, p1, q1, rfl, rfl, rfl, h1, r1⟩ := trodAll_cons r0
  obtain ⟨rfl, rfl, rfl⟩ := trodAll_nil r1
  obtain rfl : args = #[v0, v1] := by cases args; simp_all
  obtain ⟨rfl, rfl⟩ := trodVars_none hV
  obtain ⟨l0, hl0, hp0⟩ := open_sl u5E U5.ok Tryz.underlying28 cells_u5 (hval 0 28 v0 rfl rfl) open_u5_el h0
  obtain ⟨z1, rfl, rfl, rfl, wz1⟩ := open_int Tryz.underlying5 (hval 1 5 v1 rfl rfl) h1; obtain ⟨x1, rfl, b1⟩ := u8_of wz1
  refine (tidem_walk v0 l0 x1 W hl0 hp0 b1 hT).mono fun e W' ⟨he, hb⟩ => ⟨_, he, ?_⟩
  refine law_post rfl rfl (by intro t ht; rw [Tryz.params11] at ht; simp at ht; rcases ht with rfl | rfl <;> exact ⟨by kernel_rfl, of_decide_eq_true (by kernel_rfl)⟩) rfl hW' hb

theorem tidem_reads (os : Os) {H : Type} (enc : TypeId × Value → H) : ∃ places, DataW.whole enc Tryz.prog ((laidWorld os).forCall (fun _ _ => 0) ⟨#[], #[.slice none 0 0, .int .u8 0], []⟩).memory Tryz.f11.params.toList Rows.tupleIdempotentSpec.vars false (#[.slice none 0 0, .int .u8 0] : Array Value).toList 8 = some ([.nil, .lit (.int .u8 0)], [], places) :=
  ⟨[], by kernel_rfl⟩

set_option maxRecDepth 100000 in
theorem tidem_lifted (os : Os) (started : os.Started) (H : Type) (enc : TypeId × Value → H) (F : Stop.Interp) :
    ReturnsInHanded {} Tryz.checked os 11 .any ((OpenSpec.ofChange Rows.tupleIdempotentSpec).preRow enc Tryz.prog Tryz.f11 Rows.tupleIdempotentRow.domain false Rows.tupleIdempotentRow.laid) (((OpenSpec.ofChange Rows.tupleIdempotentSpec).at F).post enc Tryz.prog Tryz.f11 false true false false) := by
  obtain ⟨places, hx⟩ := tidem_reads os enc
  refine returnsInHanded_of_row (C := Tryz.checked) (s := OpenSpec.ofChange Rows.tupleIdempotentSpec) own started (by kernel_rfl) Tryz.func11
    (witness_row_at (enc := enc) (C := Tryz.checked) false (laidWorld os) #[.slice none 0 0, .int .u8 0] rfl (by kernel_rfl) (by kernel_rfl) (by kernel_rfl)
      (OpenSpec.preRow_of_cond 8 hx (by kernel_rfl) (fun k hk => by cases hk) (by kernel_rfl) (laid_met os _))) ?_
  intro W base args ds gs before hval hW _ hcond _ hlaid hsh _
  exact tidem_contract H enc W base args ds gs before hval hW (pow_of_laid hlaid)

theorem tidem_said : Rows.TupleIdempotentSaid :=
  OpenClaim.holds_of_cond 11 Tryz.f11 rfl rfl rfl rfl rfl rfl rfl ⟨rfl, rfl, rfl, rfl, rfl⟩ rfl rfl rfl rfl rfl (by kernel_rfl) Tryz.func11 (by kernel_rfl)
    (of_decide_eq_true (by kernel_rfl)) (by unfold Func.isWrapper; first | (rw [if_pos (by decide +kernel)]; kernel_rfl) | (rw [if_neg (by decide +kernel)]; exact ⟨rfl, rfl⟩))
    (fun os started H enc _ F => by rw [OpenClaim.pre_eq_preRow]; exact tidem_lifted os started H enc F)

/-- No parameter wants a stand-in; the program's own looks are off. -/
theorem tidem_plain (f : FuncId) (fn : Func) (hf : Tryz.pinned.checked.prog.funcNamed "annalist/annalistlaw10.TupleIdempotent" = some f) (hfn : Tryz.pinned.checked.prog.funcs[f]? = some fn) :
    false = Tryz.pinned.checked.prog.looks [] ∧ ∀ (j : Nat) t, fn.params[j]? = some t → Tryz.pinned.checked.prog.wantsStandIn t = false := by
  obtain rfl : f = 11 := Option.some.inj ((show Tryz.prog.funcNamed "annalist/annalistlaw10.TupleIdempotent" = some 11 by kernel_rfl).symm.trans hf) |>.symm
  obtain rfl : fn = Tryz.f11 := (Option.some.inj (Tryz.func11.symm.trans hfn)).symm
  refine ⟨by kernel_rfl, fun j t ht => ?_⟩
  rw [Tryz.params11] at ht
  have hm := Array.mem_of_getElem? ht
  simp at hm
  rcases hm with rfl | rfl
  · exact (show Tryz.prog.wantsStandIn 28 = false by kernel_rfl)
  · exact (show Tryz.prog.wantsStandIn 5 = false by kernel_rfl)

/-- The card. -/
theorem tidem_card : Rows.TupleIdempotentCardSaid :=
  Claim7.holds_tied_plain_at .later [] _ _ _ _ tidem_said (fun _ h => by cases h) (by kernel_rfl) (fun _ h => by cases h) tupleIdempotent_row_tie rfl ⟨rfl, rfl⟩ (by kernel_rfl) rfl tidem_plain (by kernel_rfl)
end Go.Proofs.YtnfccpkmaebbiaaGreatDoor
