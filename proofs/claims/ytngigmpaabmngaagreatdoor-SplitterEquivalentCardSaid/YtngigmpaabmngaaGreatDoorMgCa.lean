/- A part of the proofs: Spq, LawSEqu. No condition beside sizes and tables that read as laid. -/
import Derived.Test.YtngigmpaabmngaaGreatDoorMgAd
import Derived.Test.YtngigmpaabmngaaGreatDoorMgAe
import Derived.Test.YtngigmpaabmngaaGreatDoorCards
import Derived.Test.YtngigmpaabmngaaGreatDoorTie
namespace Go.Proofs.YtngigmpaabmngaaGreatDoor
open Go.RowKit Go.Lib

theorem atDay_pieces (vals : List GVal) (lin : List Int) (hi : Int) (t : Int) (ps : List Int) : ∀ lo, 0 ≤ lo → lo < hi → hi ≤ 1099511627776 → (∀ x ∈ ps, lo < x ∧ x < hi) → ps.Pairwise (· < ·) →
    atDay (pieces vals lin hi lo ps) t = if pincl lo hi t = true then [⟨vals, lin⟩] else [] := by
  induction ps with
  | nil =>
    intro lo _ _ _ _ _
    rw [pieces, atDay_cons]
    rfl
  | cons p ps ih =>
    intro lo h0 hlt h40 hin hs
    rw [List.pairwise_cons] at hs
    have hp := hin p (List.mem_cons_self ..)
    rw [pieces, atDay_cons, ih p (by omega) hp.2 h40 (fun x hx => ⟨hs.1 x hx, (hin x (List.mem_cons_of_mem _ hx)).2⟩) hs.2]
    have e1 : pincl lo p t = true ↔ lo ≤ t ∧ t < p := by
      rw [pincl_iff]; unfold pvalid; simp only [decide_eq_true_eq]; omega
    have e2 : pincl p hi t = true ↔ p ≤ t ∧ t < hi := by
      rw [pincl_iff]; unfold pvalid; simp only [decide_eq_true_eq]; omega
    have e3 : pincl lo hi t = true ↔ lo ≤ t ∧ t < hi := by
      rw [pincl_iff]; unfold pvalid; simp only [decide_eq_true_eq]; omega
    dsimp only
    by_cases hm : t < p
    · rw [if_neg (c := pincl p hi t = true) (by rw [e2]; omega)]
      by_cases hl : lo ≤ t
      · rw [if_pos (e1.2 ⟨hl, hm⟩), if_pos (e3.2 ⟨hl, by omega⟩)]; rfl
      · rw [if_neg (by rw [e1]; omega), if_neg (by rw [e3]; omega)]
    · rw [if_neg (c := pincl lo p t = true) (by rw [e1]; omega)]
      by_cases hh : t < hi
      · rw [if_pos (e2.2 ⟨by omega, hh⟩), if_pos (e3.2 ⟨by omega, hh⟩)]
      · rw [if_neg (by rw [e2]; omega), if_neg (by rw [e3]; omega)]
theorem atDay_split (l : List Tup) (ps : List Int) (t : Int) : atDay (splitAt l ps) t = atDay l t := by
  induction l with
  | nil => rfl
  | cons x l ih =>
    have e : splitAt (x :: l) ps = splitOne (srt ps) x ++ splitAt l ps := rfl
    rw [e, atDay_append, ih, atDay_cons, splitOne_inner]
    by_cases hv : pvalid x.lo x.hi = true
    · have hv' : 0 ≤ x.lo ∧ x.lo < x.hi ∧ x.hi ≤ 1099511627776 := by simpa [pvalid] using hv
      rw [if_pos hv, atDay_pieces _ _ _ _ _ _ hv'.1 hv'.2.1 hv'.2.2 (fun y hy => ((inner_mem _ _ _ _).1 hy).2) (inner_asc _ _ _)]
      split <;> rfl
    · rw [if_neg hv, if_neg (fun h => hv (pincl_iff.1 h).1)]
      rfl
theorem split_keyable {l : List Tup} {ps : List Int} (h : ∀ x ∈ l, Keyable x.row) : ∀ x ∈ splitAt l ps, Keyable x.row := by
  intro x hx
  obtain ⟨y, hy, hxy⟩ := List.mem_flatMap.1 hx
  rw [splitOne_inner] at hxy
  split at hxy
  · have := pieces_row _ _ _ _ _ x hxy
    have e : x.row = y.row := by unfold Tup.row; rw [this.1, this.2]
    rw [e]; exact h y hy
  · cases hxy
theorem nf_split {l S T : List Tup} {ps : List Int} (h : IsNF (splitAt l ps) S) (k : IsNF l T) : S = T :=
  IsNF.unique (l := l) ⟨h.lev, h.sorted, fun t => (h.day t).trans (by rw [atDay_split])⟩ k
set_option maxHeartbeats 8000000 in
set_option maxRecDepth 100000 in
theorem sequiv_walk (v u : Value) (xs : List U5) (ps : List Int) (w : World) (hv : Sl u5E w free v xs) (hok : ∀ x ∈ xs, x.ok) (hu : Sl intE w free u ps) (hT : Pow w) :
    Calls Tryz.prog 3 #[v, u] w fun e w' => e = .returned (.bool true) ∧ Below w.heap.size w w' := by
  obtain ⟨pa, pc, rfl⟩ := hu.shape
  have HTU := Lib.hid (tuples_any v xs 10 (by decide) w hv hok)
  have hk := tups_keyable xs 10
  have hs := tups_small xs 10
  have hl := tupsOf_length xs 10
  have hge := splitAt_longer (tupsOf xs 10) ps (tupsOf_valid xs 10)
  obtain ⟨l, hl0⟩ : ∃ l, l = tupsOf xs 10 := ⟨_, rfl⟩
  rw [← hl0] at HTU hk hs hl hge
  have HK := Lib.hid hk
  have HS := Lib.hid hs
  have HT := Lib.hid hT
  have HU := Lib.hid hu
  obtain ⟨np, hnp⟩ : ∃ n, n = ps.length := ⟨_, rfl⟩
  have HNP := Lib.hid hnp
  rw [← hnp] at HU ⊢
  have hn63 : np ≤ 9223372036854775807 := by have := hu.1; omega
  clear hv hok hk hs hT hl0 hu hnp
  go_enter Tryz.func3, Tryz.ntmps3
  go_wp2_with fail
  refine HTU.out.mono ?_
  rintro _ w1 ⟨vl, rfl, hO1, hb1⟩
  obtain ⟨al, cl, rfl⟩ := hO1.shape
  have HL1 := Lib.hid hO1.sl
  have HB1 := Lib.hid hb1
  have HU1 := Lib.hid (HU.out.below hb1)
  clear hO1 hb1 HTU
  by_cases h20 : np ≤ 20
  · have h20i : ¬ (20 : Int) < (np : Int) := by omega
    have hsz : l.length * (ps.length + 1) ≤ 10 * (20 + 1) := Nat.mul_le_mul hl (by rw [← HNP.out]; omega)
    have hsl := splitAt_length l ps
    have HSP := Lib.hid (splitAt_any _ _ l ps w1 HL1.out HU1.out HS.out (by omega) (by rw [← HNP.out]; omega))
    obtain ⟨s, hs0⟩ : ∃ s, s = splitAt l ps := ⟨_, rfl⟩
    have HKS : Hid (∀ x ∈ s, Keyable x.row) := Lib.hid (by rw [hs0]; exact split_keyable HK.out)
    have HDS : Hid (∀ t, atDay s t = atDay l t) := Lib.hid (by rw [hs0]; exact atDay_split l ps)
    have HNS : Hid (∀ S T, IsNF s S → IsNF l T → S = T) := Lib.hid (by rw [hs0]; exact fun S T h k => nf_split h k)
    rw [← hs0] at HSP hge hsl
    have hs100 : s.length ≤ 1000 := by omega
    obtain ⟨nl, hnl⟩ : ∃ n, n = l.length := ⟨_, rfl⟩
    obtain ⟨ns, hns⟩ : ∃ n, n = s.length := ⟨_, rfl⟩
    have HNL := Lib.hid hnl
    have HNS2 := Lib.hid hns
    rw [← hnl] at HL1 hl hge HSP ⊢
    rw [← hns] at hge hs100
    have hgi : ¬ (ns : Int) < (nl : Int) := by omega
    have hgj : (nl : Int) ≤ (ns : Int) := by omega
    clear hsz hsl hs0 hnl hns
    go_wp2_with fail
    refine HSP.out.mono ?_
    rintro _ w2 ⟨vs, rfl, hO2, hb2⟩
    obtain ⟨aS0, cS0, rfl⟩ := hO2.shape
    have HS2 := Lib.hid hO2.sl
    rw [← HNS2.out] at HS2 ⊢
    have HL2 := Lib.hid (HL1.out.below hb2)
    have HB2 := Lib.hid (below_keep HB1.out hb2)
    have HAW := Lib.hid (awake_any w2)
    clear hO2 hb2 HSP HL1
    go_wp2_with fail
    refine HAW.out.mono ?_
    rintro _ w3 ⟨rfl, hb3⟩
    have HS3 := Lib.hid (HS2.out.below hb3)
    have HL3 := Lib.hid (HL2.out.below hb3)
    have HB3 := Lib.hid (below_keep HB2.out hb3)
    have HE := Lib.hid (equiv_any _ _ s l w3 HS3.out HL3.out (by rw [← HNS2.out]; omega) (by rw [← HNL.out]; omega) HKS.out HK.out (HT.out.below HB3.out))
    clear hb3 HS2 HL2 HAW
    go_wp2_with fail
    refine HE.out.mono ?_
    rintro _ w4 ⟨q, hq, rfl, hb4⟩
    obtain rfl : q = true := hq.out.2 fun t => by rw [HDS.out t]
    have HS4 := Lib.hid (HS3.out.below hb4)
    have HL4 := Lib.hid (HL3.out.below hb4)
    have HB4 := Lib.hid (below_keep HB3.out hb4)
    have HN1 := Lib.hid (normalize_any _ s w4 HS4.out (by rw [← HNS2.out]; omega) HKS.out (HT.out.below HB4.out))
    clear hb4 hq HS3 HL3 HE
    go_wp2_with fail
    refine HN1.out.mono ?_
    rintro _ w5 ⟨S, hS, hSl, vS, rfl, hO5, hb5⟩
    have HS := Lib.hid hS
    obtain ⟨aS, cS, rfl⟩ := hO5.shape
    have HS5 := Lib.hid hO5.sl
    have HL5 := Lib.hid (HL4.out.below hb5)
    have HB5 := Lib.hid (below_keep HB4.out hb5)
    have HN2 := Lib.hid (normalize_any _ l w5 HL5.out (by rw [← HNL.out]; omega) HK.out (HT.out.below HB5.out))
    clear hb5 hS hSl hO5 HS4 HL4 HN1
    generalize hnS : S.length = nS at HS5 ⊢
    have HnS := Lib.hid hnS
    clear hnS
    go_wp2_with fail
    refine HN2.out.mono ?_
    rintro _ w6 ⟨T, hT, hTl, vT, rfl, hO6, hb6⟩
    obtain rfl : S = T := HNS.out S T HS.out hT
    have HT6 := Lib.hid hO6.sl
    have HS6 := Lib.hid (HS5.out.below hb6)
    have HB6 := Lib.hid (below_keep HB5.out hb6)
    have HST := Lib.hid (sameTups_any _ _ S S w6 HS6.out HT6.out)
    rw [sameTups_refl] at HST
    clear hb6 hT hTl hO6 HN2
    go_wp2_with fail
    refine HST.out.mono ?_
    rintro _ w7 ⟨rfl, hb7⟩
    have HB7 := Lib.hid (below_keep HB6.out hb7)
    clear hb7
    go_wp2_with fail
    go_ret
    exact ⟨rfl, HB7.out⟩
  · have h20i : (20 : Int) < (np : Int) := by omega
    have HAW := Lib.hid (awake_any w1)
    go_wp2_with fail
    refine HAW.out.mono ?_
    rintro _ w2 ⟨rfl, hb2⟩
    have HB2 := Lib.hid (below_keep HB1.out hb2)
    clear hb2
    go_wp2_with fail
    go_ret
    exact ⟨rfl, HB2.out⟩
end Go.Proofs.YtngigmpaabmngaaGreatDoor

namespace Go.Proofs.YtngigmpaabmngaaGreatDoor
open Go.ChangeShapes Go.WideShapes Go.ChangeAt Go.RowKit
open Go.ChangeMaps (open_string)

set_option maxRecDepth 100000 in
theorem sequ_contract (H : Type) (enc : TypeId × Value → H) (W : World) (base : Nat) (args : Array Value) (ds gs : List (DataW H)) (before : List MemPlace)
    (hval : ∀ (j : Nat) t v, Tryz.f3.params[j]? = some t → args[j]? = some v → Value.okWide Tryz.prog W .any base t v)
    (hW : DataW.Whole enc Tryz.prog Tryz.f3.params.toList Rows.splitterEquivalentSpec.vars false W args.toList ds gs before) (hT : Pow W) :
    Calls Tryz.prog 3 args W fun e W' => ∃ v, e = .returned v ∧ Rows.splitterEquivalentSpec.post enc Tryz.prog Tryz.f3 false true false false W args v W' := by
  have hW' := hW
  obtain ⟨p, q, hA0, hV, rfl, hfz, hnd⟩ := hW
  have hA : DataW.TrodAll enc Tryz.prog W 0 (fun _ => true) true Tryz.f3.params.toList args.toList ds p := hA0
  rw [Tryz.params3] at hA hval
  obtain ⟨v0, vs0, d0, ds0, p0, q0, hargs, rfl, rfl, h0, r0⟩ := trodAll_cons hA
  obtain ⟨v1, vs1, d1, ds1, p1, q1, rfl, rfl, rfl, h1, r1⟩ := trodAll_cons r0
  obtain ⟨rfl, rfl, rfl⟩ := trodAll_nil r1
  obtain rfl : args = #[v0, v1] := by cases args; simp_all
  obtain ⟨rfl, rfl⟩ := trodVars_none hV
  obtain ⟨l0, hl0, hp0⟩ := open_sl u5E U5.ok Tryz.underlying22 cells_u5 (hval 0 22 v0 rfl rfl) open_u5_el h0
  obtain ⟨l1, hl1, hp1⟩ := open_sl intE Is64 Tryz.underlying23 cells_int (hval 1 23 v1 rfl rfl) open_int_el h1
  refine (sequiv_walk v0 v1 l0 l1 W hl0 hp0 hl1 hT).mono fun e W' ⟨he, hb⟩ => ⟨_, he, ?_⟩
  refine law_post rfl rfl (by intro t ht; rw [Tryz.params3] at ht; simp at ht; rcases ht with rfl | rfl <;> exact ⟨by kernel_rfl, of_decide_eq_true (by kernel_rfl)⟩) rfl hW' hb

theorem sequ_reads (os : Os) {H : Type} (enc : TypeId × Value → H) : ∃ places, DataW.whole enc Tryz.prog ((laidWorld os).forCall (fun _ _ => 0) ⟨#[], #[.slice none 0 0, .slice none 0 0], []⟩).memory Tryz.f3.params.toList Rows.splitterEquivalentSpec.vars false (#[.slice none 0 0, .slice none 0 0] : Array Value).toList 8 = some ([.nil, .nil], [], places) :=
  ⟨[], by kernel_rfl⟩

set_option maxRecDepth 100000 in
theorem sequ_lifted (os : Os) (started : os.Started) (H : Type) (enc : TypeId × Value → H) (F : Stop.Interp) :
    ReturnsInHanded {} Tryz.checked os 3 .any ((OpenSpec.ofChange Rows.splitterEquivalentSpec).preRow enc Tryz.prog Tryz.f3 Rows.splitterEquivalentRow.domain false Rows.splitterEquivalentRow.laid) (((OpenSpec.ofChange Rows.splitterEquivalentSpec).at F).post enc Tryz.prog Tryz.f3 false true false false) := by
  obtain ⟨places, hx⟩ := sequ_reads os enc
  refine returnsInHanded_of_row (C := Tryz.checked) (s := OpenSpec.ofChange Rows.splitterEquivalentSpec) own started (by kernel_rfl) Tryz.func3
    (witness_row_at (enc := enc) (C := Tryz.checked) false (laidWorld os) #[.slice none 0 0, .slice none 0 0] rfl (by kernel_rfl) (by kernel_rfl) (by kernel_rfl)
      (OpenSpec.preRow_of_cond 8 hx (by kernel_rfl) (fun k hk => by cases hk) (by kernel_rfl) (laid_met os _))) ?_
  intro W base args ds gs before hval hW _ hcond _ hlaid hsh _
  exact sequ_contract H enc W base args ds gs before hval hW (pow_of_laid hlaid)

theorem sequ_said : Rows.SplitterEquivalentSaid :=
  OpenClaim.holds_of_cond 3 Tryz.f3 rfl rfl rfl rfl rfl rfl rfl ⟨rfl, rfl, rfl, rfl, rfl⟩ rfl rfl rfl rfl rfl (by kernel_rfl) Tryz.func3 (by kernel_rfl)
    (of_decide_eq_true (by kernel_rfl)) (by unfold Func.isWrapper; first | (rw [if_pos (by decide +kernel)]; kernel_rfl) | (rw [if_neg (by decide +kernel)]; exact ⟨rfl, rfl⟩))
    (fun os started H enc _ F => by rw [OpenClaim.pre_eq_preRow]; exact sequ_lifted os started H enc F)

/-- No parameter wants a stand-in; the program's own looks are off. -/
theorem sequ_plain (f : FuncId) (fn : Func) (hf : Tryz.pinned.checked.prog.funcNamed "annalist/annalistlaw12.SplitterEquivalent" = some f) (hfn : Tryz.pinned.checked.prog.funcs[f]? = some fn) :
    false = Tryz.pinned.checked.prog.looks [] ∧ ∀ (j : Nat) t, fn.params[j]? = some t → Tryz.pinned.checked.prog.wantsStandIn t = false := by
  obtain rfl : f = 3 := Option.some.inj ((show Tryz.prog.funcNamed "annalist/annalistlaw12.SplitterEquivalent" = some 3 by kernel_rfl).symm.trans hf) |>.symm
  obtain rfl : fn = Tryz.f3 := (Option.some.inj (Tryz.func3.symm.trans hfn)).symm
  refine ⟨by kernel_rfl, fun j t ht => ?_⟩
  rw [Tryz.params3] at ht
  have hm := Array.mem_of_getElem? ht
  simp at hm
  rcases hm with rfl | rfl
  · exact (show Tryz.prog.wantsStandIn 22 = false by kernel_rfl)
  · exact (show Tryz.prog.wantsStandIn 23 = false by kernel_rfl)

/-- The card. -/
theorem sequ_card : Rows.SplitterEquivalentCardSaid :=
  Claim7.holds_tied_plain_at .later [] _ _ _ _ sequ_said (fun _ h => by cases h) (by kernel_rfl) (fun _ h => by cases h) splitterEquivalent_row_tie rfl ⟨rfl, rfl⟩ (by kernel_rfl) rfl sequ_plain (by kernel_rfl)
end Go.Proofs.YtngigmpaabmngaaGreatDoor
