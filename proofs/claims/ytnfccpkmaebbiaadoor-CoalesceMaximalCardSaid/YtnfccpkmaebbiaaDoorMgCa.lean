/- A part of the proofs: Wcm, LawCMax. No condition beside sizes and tables that read as laid. -/
import Derived.Test.YtnfccpkmaebbiaaDoorMgAc
import Derived.Test.YtnfccpkmaebbiaaDoorMgAa
import Derived.Test.YtnfccpkmaebbiaaDoorMgAd
import Derived.Test.YtnfccpkmaebbiaaDoorCards
import Derived.Test.YtnfccpkmaebbiaaDoorTie
namespace Go.Proofs.YtnfccpkmaebbiaaDoor
open Go.RowKit Go.Lib

theorem nf_lin {l T : List Tup} (h : IsNF (l.map bare) T) : ∀ x ∈ T, x.lin = [] := fun x hx => by
  obtain ⟨y, hy, hr, _⟩ := h.vals x hx
  obtain ⟨z, _, rfl⟩ := List.mem_map.1 hy
  exact (congrArg GRow.lin hr).symm
theorem no_meet {l T : List Tup} (h : IsNF (l.map bare) T) {x y : Tup} (hx : x ∈ T) (hy : y ∈ T) (hm : x.hi = y.lo) : x.vals ≠ y.vals := by
  intro e
  have hr : x.row = y.row := by unfold Tup.row; rw [e, nf_lin h x hx, nf_lin h y hy]
  have h1 := pw_all (R := Lam) (fun _ _ h => h.symm) Lam.refl h.lev.lam x hx y hy hr
  have h2 := pvalid_iff.1 (h.lev.valid x hx)
  have h3 := pvalid_iff.1 (h.lev.valid y hy)
  omega
set_option maxHeartbeats 8000000 in
set_option maxRecDepth 100000 in
theorem cmax_walk (v : Value) (xs : List U5) (w : World) (hv : Sl u5E w free v xs) (hok : ∀ x ∈ xs, x.ok) (hT : Pow w) :
    Calls Tryd.prog 3 #[v] w fun e w' => e = .returned (.bool true) ∧ Below w.heap.size w w' := by
  have HTU := Lib.hid (tuples_any v xs 16 (by decide) w hv hok)
  have hk := tups_keyable xs 16
  have hl := tupsOf_length xs 16
  obtain ⟨l, hl0⟩ : ∃ l, l = tupsOf xs 16 := ⟨_, rfl⟩
  rw [← hl0] at HTU hk hl
  have HK := Lib.hid hk
  have HT := Lib.hid hT
  clear hv hok hk hT hl0
  go_enter Tryd.func3, Tryd.ntmps3
  go_wp2_with fail
  refine HTU.out.mono ?_
  rintro _ w1 ⟨vl, rfl, hO1, hb1⟩
  obtain ⟨al, cl, rfl⟩ := hO1.shape
  have HB1 := Lib.hid hb1
  have HC := Lib.hid (coalesce_any _ l w1 hO1.sl (by omega) HK.out (HT.out.below hb1))
  clear hO1 hb1 HTU
  go_wp2_with fail
  refine HC.out.mono ?_
  rintro _ w3 ⟨T, hT, hTl, vT, rfl, hO3, hb3⟩
  obtain ⟨aT, cT, rfl⟩ := hO3.shape
  obtain ⟨n, hn⟩ : ∃ n, n = T.length := ⟨_, rfl⟩
  have HN := Lib.hid hn
  have hS := hO3.sl
  rw [← hn] at hS hTl ⊢
  have HS := Lib.hid hS
  have HNM : Hid (∀ x ∈ T, ∀ y ∈ T, x.hi = y.lo → x.vals ≠ y.vals) := Lib.hid fun x hx y hy h => no_meet hT hx hy h
  have HB3 := Lib.hid (below_keep HB1.out hb3)
  have hn16 : n ≤ 16 := by omega
  clear hT hTl hO3 hb3 HC hS hn
  go_wp2_with fail
  go_loopw [13] (fun i wr => ∃ k : Nat, k ≤ n ∧ i = .int .i64 k ∧ Hid (Below w3.heap.size w3 wr)) (fun i _ => n - (RowKit.intOf i).toNat)
  case atStart => exact ⟨0, Nat.zero_le _, rfl, Lib.hid (.refl _ _)⟩
  case round =>
    obtain ⟨k, hk, rfl, HB⟩ := hrel
    obtain ⟨wo, rfl⟩ : ∃ wo : World, wo = wr := ⟨_, rfl⟩
    by_cases hlt : k < n
    · obtain ⟨x, hx⟩ := lget_some T k (by rw [← HN.out]; exact hlt)
      obtain ⟨b, o, a1, n1, e1, m1, rfl, hvv, hll, p0, p1, p2, p3⟩ := tups_at (HS.out.below HB.out) hx
      have hxm := List.mem_of_getElem? hx
      have hba := below_alloc wo (.cells #[.slice a1 x.vals.length n1, .int .i64 x.lo, .int .i64 x.hi, .slice e1 x.lin.length m1] 31)
      have hgx := World.alloc_heap_new wo (.cells #[.slice a1 x.vals.length n1, .int .i64 x.lo, .int .i64 x.hi, .slice e1 x.lin.length m1] 31)
      obtain ⟨w5, hw5⟩ : ∃ w5, w5 = wo.alloc (.cells #[.slice a1 x.vals.length n1, .int .i64 x.lo, .int .i64 x.hi, .slice e1 x.lin.length m1] 31) := ⟨_, rfl⟩
      rw [← hw5] at hba hgx
      have HG := Lib.hid hgx
      have HVV := Lib.hid (hvv.below hba)
      have HB5 := Lib.hid (below_keep HB.out hba)
      have HW5 := Lib.hid hw5
      have HXN : Hid (∀ y ∈ T, x.hi = y.lo → x.vals ≠ y.vals) := Lib.hid (HNM.out x hxm)
      obtain ⟨xv, xlo, xhi, xl⟩ := x
      dsimp only at p0 p1 p2 p3 HG HVV HXN HW5
      clear hx hvv hll hba hgx hw5 hxm
      go_upto_region 5 with fail
      rw [← HW5.out]
      go_wp2_with fail
      go_loopw [19] (fun i wr => ∃ j : Nat, j ≤ n ∧ i = .int .i64 j ∧ Hid (Below w5.heap.size w5 wr)) (fun i _ => n - (RowKit.intOf i).toNat)
      case atStart => exact ⟨0, Nat.zero_le _, rfl, Lib.hid (.refl _ _)⟩
      case round =>
        obtain ⟨j, hj, rfl, HBj⟩ := hrel
        obtain ⟨wp, rfl⟩ : ∃ wp : World, wp = wr := ⟨_, rfl⟩
        have HBW := Lib.hid (below_keep HB5.out HBj.out)
        by_cases hlt2 : j < n
        · obtain ⟨y, hy⟩ := lget_some T j (by rw [← HN.out]; exact hlt2)
          obtain ⟨b2, o2, a3, n3, e3, m3, eb, hv2, hl2, q0, q1, q2, q3⟩ := tups_at (HS.out.below HBW.out) hy
          cases eb
          have hyn := HXN.out y (List.mem_of_getElem? hy)
          have hba := below_alloc wp (.cells #[.slice a3 y.vals.length n3, .int .i64 y.lo, .int .i64 y.hi, .slice e3 y.lin.length m3] 31)
          have hgx := World.alloc_heap_new wp (.cells #[.slice a3 y.vals.length n3, .int .i64 y.lo, .int .i64 y.hi, .slice e3 y.lin.length m3] 31)
          have hg1 := box_kept (box_kept HG.out HBj.out) hba
          obtain ⟨⟨d0, d1, d2, d3⟩, _⟩ := box_four hg1
          obtain ⟨⟨f0, f1, f2, f3⟩, _⟩ := box_four hgx
          have HB6 := Lib.hid (below_keep HBj.out hba)
          have HCR := Lib.hid (cmpRows_any _ _ xv y.vals _ ((HVV.out.below HBj.out).below hba).vals (hv2.below hba).vals)
          obtain ⟨r, hr⟩ : ∃ r, r = cmpRows xv y.vals := ⟨_, rfl⟩
          rw [← hr] at HCR
          have hr0 : xhi = y.lo → r ≠ 0 := fun e h => hyn e ((cmpRows_zero _ _).1 (hr ▸ h))
          obtain ⟨yv, ylo, yhi, yl⟩ := y
          dsimp only at q0 q1 q2 q3 f0 f1 f2 f3 HCR hr0
          clear hy hv2 hl2 hba hgx hg1 hyn hr
          by_cases hm : xhi = ylo
          · have hmb : (xhi == ylo) = true := by simpa using hm
            have hrb : (r == 0) = false := by simpa using hr0 hm
            clear hm hr0
            go_wp2_with fail
            refine HCR.out.mono ?_
            rintro _ w7 ⟨rfl, hb7⟩
            have HB7 := Lib.hid (below_keep HB6.out hb7)
            clear hb7 HCR
            go_wp2_with fail
            go_roundw
            case rel => exact ⟨j + 1, by omega, by go_num, HB7⟩
            case measure => simp [RowKit.intOf]; omega
          · have hmb : (xhi == ylo) = false := by simpa using hm
            clear hm hr0 HCR
            go_wp2_with fail
            go_roundw
            case rel => exact ⟨j + 1, by omega, by go_num, HB6⟩
            case measure => simp [RowKit.intOf]; omega
        · go_wp2_with fail
          go_roundw
          case rel => exact ⟨k + 1, by omega, by go_num, HBW⟩
          case measure => simp [RowKit.intOf]; omega
    · have HBE := Lib.hid (below_keep HB3.out HB.out)
      have HAW := Lib.hid (awake11_any wo (HT.out.below HBE.out))
      go_wp2_with fail
      refine HAW.out.mono ?_
      rintro _ w6 ⟨rfl, hb6⟩
      have HB6 := Lib.hid (below_keep HBE.out hb6)
      clear hb6
      go_wp2_with fail
      go_ret
      exact ⟨rfl, HB6.out⟩
end Go.Proofs.YtnfccpkmaebbiaaDoor

namespace Go.Proofs.YtnfccpkmaebbiaaDoor
open Go.ChangeShapes Go.WideShapes Go.ChangeAt Go.RowKit
open Go.ChangeMaps (open_string)

set_option maxRecDepth 100000 in
theorem cmax_contract (H : Type) (enc : TypeId × Value → H) (W : World) (base : Nat) (args : Array Value) (ds gs : List (DataW H)) (before : List MemPlace)
    (hval : ∀ (j : Nat) t v, Tryd.f3.params[j]? = some t → args[j]? = some v → Value.okWide Tryd.prog W .any base t v)
    (hW : DataW.Whole enc Tryd.prog Tryd.f3.params.toList Rows.coalesceMaximalSpec.vars false W args.toList ds gs before) (hT : Pow W) :
    Calls Tryd.prog 3 args W fun e W' => ∃ v, e = .returned v ∧ Rows.coalesceMaximalSpec.post enc Tryd.prog Tryd.f3 false true false false W args v W' := by
  have hW' := hW
  obtain ⟨p, q, hA0, hV, rfl, hfz, hnd⟩ := hW
  have hA : DataW.TrodAll enc Tryd.prog W 0 (fun _ => true) true Tryd.f3.params.toList args.toList ds p := hA0
  rw [Tryd.params3] at hA hval
  obtain ⟨v0, vs0, d0, ds0, p0, q0, hargs, rfl, rfl, h0, r0⟩ := trodAll_cons hA
  obtain ⟨rfl, rfl, rfl⟩ := trodAll_nil r0
  obtain rfl : args = #[v0] := by cases args; simp_all
  obtain ⟨rfl, rfl⟩ := trodVars_none hV
  obtain ⟨l0, hl0, hp0⟩ := open_sl u5E U5.ok Tryd.underlying22 cells_u5 (hval 0 22 v0 rfl rfl) open_u5_el h0
  refine (cmax_walk v0 l0 W hl0 hp0 hT).mono fun e W' ⟨he, hb⟩ => ⟨_, he, ?_⟩
  refine law_post rfl rfl (by intro t ht; rw [Tryd.params3] at ht; simp at ht; subst ht; exact ⟨by kernel_rfl, of_decide_eq_true (by kernel_rfl)⟩) rfl hW' hb

theorem cmax_reads (os : Os) {H : Type} (enc : TypeId × Value → H) : ∃ places, DataW.whole enc Tryd.prog ((laidWorld os).forCall (fun _ _ => 0) ⟨#[], #[.slice none 0 0], []⟩).memory Tryd.f3.params.toList Rows.coalesceMaximalSpec.vars false (#[.slice none 0 0] : Array Value).toList 8 = some ([.nil], [], places) :=
  ⟨[], by kernel_rfl⟩

set_option maxRecDepth 100000 in
theorem cmax_lifted (os : Os) (started : os.Started) (H : Type) (enc : TypeId × Value → H) (F : Stop.Interp) :
    ReturnsInHanded {} Tryd.checked os 3 .any ((OpenSpec.ofChange Rows.coalesceMaximalSpec).preRow enc Tryd.prog Tryd.f3 Rows.coalesceMaximalRow.domain false Rows.coalesceMaximalRow.laid) (((OpenSpec.ofChange Rows.coalesceMaximalSpec).at F).post enc Tryd.prog Tryd.f3 false true false false) := by
  obtain ⟨places, hx⟩ := cmax_reads os enc
  refine returnsInHanded_of_row (C := Tryd.checked) (s := OpenSpec.ofChange Rows.coalesceMaximalSpec) own started (by kernel_rfl) Tryd.func3
    (witness_row_at (enc := enc) (C := Tryd.checked) false (laidWorld os) #[.slice none 0 0] rfl (by kernel_rfl) (by kernel_rfl) (by kernel_rfl)
      (OpenSpec.preRow_of_cond 8 hx (by kernel_rfl) (fun k hk => by cases hk) (by kernel_rfl) (laid_met os _))) ?_
  intro W base args ds gs before hval hW _ hcond _ hlaid hsh _
  exact cmax_contract H enc W base args ds gs before hval hW (pow_of_laid hlaid)

theorem cmax_said : Rows.CoalesceMaximalSaid :=
  OpenClaim.holds_of_cond 3 Tryd.f3 rfl rfl rfl rfl rfl rfl rfl ⟨rfl, rfl, rfl, rfl, rfl⟩ rfl rfl rfl rfl rfl (by kernel_rfl) Tryd.func3 (by kernel_rfl)
    (of_decide_eq_true (by kernel_rfl)) (by unfold Func.isWrapper; first | (rw [if_pos (by decide +kernel)]; kernel_rfl) | (rw [if_neg (by decide +kernel)]; exact ⟨rfl, rfl⟩))
    (fun os started H enc _ F => by rw [OpenClaim.pre_eq_preRow]; exact cmax_lifted os started H enc F)

/-- No parameter wants a stand-in; the program's own looks are off. -/
theorem cmax_plain (f : FuncId) (fn : Func) (hf : Tryd.pinned.checked.prog.funcNamed "annalist/annalistlaw11.CoalesceMaximal" = some f) (hfn : Tryd.pinned.checked.prog.funcs[f]? = some fn) :
    false = Tryd.pinned.checked.prog.looks [] ∧ ∀ (j : Nat) t, fn.params[j]? = some t → Tryd.pinned.checked.prog.wantsStandIn t = false := by
  obtain rfl : f = 3 := Option.some.inj ((show Tryd.prog.funcNamed "annalist/annalistlaw11.CoalesceMaximal" = some 3 by kernel_rfl).symm.trans hf) |>.symm
  obtain rfl : fn = Tryd.f3 := (Option.some.inj (Tryd.func3.symm.trans hfn)).symm
  refine ⟨by kernel_rfl, fun j t ht => ?_⟩
  rw [Tryd.params3] at ht
  obtain rfl : t = 22 := by simpa using Array.mem_of_getElem? ht
  exact (show Tryd.prog.wantsStandIn 22 = false by kernel_rfl)

/-- The card. -/
theorem cmax_card : Rows.CoalesceMaximalCardSaid :=
  Claim7.holds_tied_plain_at .later [] _ _ _ _ cmax_said (fun _ h => by cases h) (by kernel_rfl) (fun _ h => by cases h) coalesceMaximal_row_tie rfl ⟨rfl, rfl⟩ (by kernel_rfl) rfl cmax_plain (by kernel_rfl)
end Go.Proofs.YtnfccpkmaebbiaaDoor
