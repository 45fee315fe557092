/- The law LexerLimits: the length of a statement and the number of its tokens. No condition. -/
import Derived.Test.YtbabencadnlmlaaDoorLexX
import Derived.Test.YtbabencadnlmlaaDoorLaid
import Derived.Test.YtbabencadnlmlaaDoorCards
import Derived.Test.YtbabencadnlmlaaDoorTie
import Derived.Test.YtbabencadnlmlaaDoorLexL
namespace Go.Proofs.YtbabencadnlmlaaDoor
open Go.ChangeShapes Go.WideShapes Go.ChangeAt Go.RowKit
open Go.ChangeMaps (open_string)

theorem open_u16v {H : Type} {enc : TypeId × Value → H} {w : World} {spare : Nat → Bool} {base : Nat} {v : Value} {d : DataW H} {ps : List MemPlace}
    (hv : Value.okWide Tryd.prog w .any base 42 v) (h : DataW.Trod enc Tryd.prog w 0 spare true 42 v d ps) : ∃ x : Nat, v = .int .u16 (x : Int) ∧ x < 65536 := by
  obtain ⟨n, rfl, _, _, hw⟩ := open_int Tryd.underlying42 hv h
  simp [Lit.wf, IntKind.min, IntKind.max, IntKind.signed, IntKind.bits] at hw
  obtain ⟨k, rfl⟩ := Int.eq_ofNat_of_zero_le hw.1
  exact ⟨k, rfl, by omega⟩

theorem parens_snoc (k : Nat) : parens (k + 1) = parens k ++ [40, 32] := by
  simp [parens, List.replicate_succ']
theorem scan_parens (k : Nat) : (2000 < k → scan (parens k) = ⟨[], 0, 4⟩) ∧ (k ≤ 2000 → 1000 < k → scan (parens k) = ⟨[], 2000, 4⟩) ∧
    (k ≤ 1000 → ∃ ts, scan (parens k) = ⟨ts ++ [⟨6, (2 * k : Nat), []⟩], 0, 0⟩ ∧ ts.length = k) := by
  have hl := parens_length k
  refine ⟨fun h => ?_, fun h1 h2 => ?_, fun h => ?_⟩
  · unfold scan; rw [if_pos (by omega)]
  · unfold scan; rw [if_neg (by omega), (scanF_parens k _ 0 [] (by omega)).2 (by simp) (by simpa using h2)]; rfl
  · unfold scan; rw [if_neg (by omega)]
    obtain ⟨ts, h1, h2⟩ := (scanF_parens k ((parens k).length + 1) 0 [] (by omega)).1 (by simpa using h)
    exact ⟨ts, by rw [h1]; simp, h2⟩

set_option maxRecDepth 100000 in
set_option maxHeartbeats 2000000 in
theorem limits_walk (x : Nat) (hx : x < 65536) (w : World) (hML : MaxLenAt w) :
    Calls Tryd.prog 8 #[.int .u16 (x : Int)] w fun e w' => e = .returned (.bool true) ∧ Below w.heap.size w w' := by
  have HML := Lib.hid hML
  clear hML
  obtain ⟨k, hk⟩ : ∃ k, k = x % 2100 := ⟨_, rfl⟩
  have hkx : ((x : Int) % 2100) = (k : Int) := by omega
  have hkl : k < 2100 := by omega
  obtain ⟨i0, hi, hj0, hj1, hj2⟩ := info_parts info_u8
  have HP := Lib.hid (scan_parens k)
  clear hk
  go_enter Tryd.func8, Tryd.ntmps8
  go_wp2_with (at_make; refine wpList_make_own _ rfl _ _ 39 rfl w.heap.size 5 i0 (.int .u8 0) 1 Tryd.underlying39 hi hj0 hj1 _ _ _ (2 * k) rfl rfl (by omega) (by rw [hj2]; omega) (by unfold maxLen; omega) (Nat.le_refl _) ?_; intro w1 hown1 hg1)
  have HO1 := Lib.hid hown1
  have HB1 : Hid (Below w.heap.size w w1) := (Below.refl _ _).grown hg1 (Nat.le_refl _) (fun k hk => by cases hk)
  clear hown1 hg1
  go_wp2_with fail
  go_loopw [4, 5] (fun v i wr => ∃ j : Nat, j ≤ k ∧ i = .int .i64 j ∧ wr.ownsRow w.heap.size 5 1 v (parens j).length (Lib.byteCells (parens j)) ∧ Below w.heap.size w wr) (fun _ i _ => k - (intOf i).toNat)
  case atStart => exact ⟨0, Nat.zero_le _, rfl, HO1.out, HB1.out⟩
  case round =>
    obtain ⟨j, hj, rfl, hown, hbel⟩ := hrel
    have hz := hbel.size
    have HO := Lib.hid hown
    have HB := Lib.hid hbel
    have hpl := parens_length j
    clear hown hbel
    by_cases hlt : j < k
    · have HPL := Lib.hid hpl
      have hpl2 : (parens j).length ≤ 4200 := by omega
      clear hpl
      go_wp2_with (at_builtin; refine wpList_append_lit rfl _ _ 39 rfl w.heap.size 5 (.int .u8 0) 1 1 Tryd.underlying39 hi hj0 hj1 hj2 rfl (by decide) _ _ _ rfl HO.out 2 #[.int .u8 40, .int .u8 32] rfl rfl (by simp [Value.oneCell']) (by unfold maxLen; omega) (by omega) (by omega) ?_; intro v5 w5 hown5 hbel5 _)
      go_roundw
      case rel => exact ⟨j + 1, hlt, by go_num, by rw [parens_snoc, byteCells_append, List.length_append]; exact hown5, HB.out.trans hbel5⟩
      case measure => simp [intOf]; omega
    · obtain rfl : j = k := by omega
      obtain ⟨s, hs⟩ : ∃ s : ByteArray, s = ⟨(parens j).toArray⟩ := ⟨_, rfl⟩
      have hsz : s.size ≤ maxLen := by rw [hs, ba_mk_size]; unfold maxLen; omega
      have HSD : Hid (s.data.toList = parens j) := by show _ = _; rw [hs]
      have hcv : (convert 39 9 u4).run Tryd.prog wr = .ok (.string s) wr := by rw [hs]; exact own_convert HO.out
      clear hpl hs hlt hj
      go_wp2_with fail
      refine (scan_any s hsz _).mono ?_
      rw [HSD.out]
      by_cases h1 : 2000 < j
      · rw [HP.out.1 h1]
        rintro e w2 ⟨v2, rfl, ho2, hb2⟩
        obtain ⟨va, vc, rfl⟩ := own_shape ho2
        have HB2 : Hid (Below w.heap.size w w2) := HB.out.trans (hb2.mono hz)
        clear ho2 hb2
        go_wp2_with fail
        refine (awake_any _ (HML.out.below HB2.out)).mono ?_
        rintro e w3 ⟨rfl, hb3⟩
        go_wp2_with fail
        go_ret
        exact ⟨rfl, HB2.out.trans (hb3.mono HB2.out.size)⟩
      · by_cases h2 : 1000 < j
        · rw [HP.out.2.1 (by omega) h2]
          rintro e w2 ⟨v2, rfl, ho2, hb2⟩
          obtain ⟨va, vc, rfl⟩ := own_shape ho2
          have HB2 : Hid (Below w.heap.size w w2) := HB.out.trans (hb2.mono hz)
          clear ho2 hb2
          go_wp2_with fail
          refine (awake_any _ (HML.out.below HB2.out)).mono ?_
          rintro e w3 ⟨rfl, hb3⟩
          go_wp2_with fail
          go_ret
          exact ⟨rfl, HB2.out.trans (hb3.mono HB2.out.size)⟩
        · obtain ⟨ts, hts, htl⟩ := HP.out.2.2 (by omega)
          rw [hts]
          rintro e w2 ⟨v2, rfl, ho2, hb2⟩
          have HB2 : Hid (Below w.heap.size w w2) := HB.out.trans (hb2.mono hz)
          have hlen : (ts ++ [(⟨6, ((2 * j : Nat) : Int), []⟩ : Tok)]).length = j + 1 := by rw [List.length_append, htl]; rfl
          have hcj := (tokCells_at (ts ++ [(⟨6, ((2 * j : Nat) : Int), []⟩ : Tok)]) j ⟨6, ((2 * j : Nat) : Int), []⟩ (by rw [← htl]; simp)).2.1
          have hrd := own_reads ho2
          simp only [hlen] at hrd
          obtain ⟨_, _, a, c, rfl, hc, hcl⟩ := hrd
          obtain ⟨b, o, ha, hcl2⟩ := hcl (by omega)
          subst ha
          have HC := Lib.hid (hcl2 _ _ hcj)
          clear ho2 hcl hcl2 hcj hts htl hlen
          go_wp2_with fail
          refine (awake_any _ (HML.out.below HB2.out)).mono ?_
          rintro e w3 ⟨rfl, hb3⟩
          have hpos : w3.cell? ⟨b, o + j * 3 + 1, none⟩ = some (.int .i64 ((2 * j : Nat) : Int)) := by rw [Nat.add_assoc, hb3.cell (p := ⟨b, o + (j * 3 + 1), none⟩) (World.block_lt_of_cell? w2 _ HC.out)]; exact HC.out
          have HB3 := Lib.hid hb3
          clear hb2 hb3
          go_wp2_with fail
          go_ret
          exact ⟨rfl, HB2.out.trans (HB3.out.mono HB2.out.size)⟩

theorem limits_contract (H : Type) (enc : TypeId × Value → H) (W : World) (base : Nat) (args : Array Value) (ds gs : List (DataW H)) (before : List MemPlace)
    (hval : ∀ (j : Nat) t v, Tryd.f8.params[j]? = some t → args[j]? = some v → Value.okWide Tryd.prog W .any base t v)
    (hW : DataW.Whole enc Tryd.prog Tryd.f8.params.toList Rows.lexerLimitsSpec.vars false W args.toList ds gs before) (hsh : W.ShapedOpen Tryd.prog) :
    Calls Tryd.prog 8 args W fun e W' => ∃ v, e = .returned v ∧ Rows.lexerLimitsSpec.post enc Tryd.prog Tryd.f8 false true false false W args v W' := by
  have hW' := hW
  obtain ⟨p, q, hA0, hV, rfl, hfz, hnd⟩ := hW
  have hA : DataW.TrodAll enc Tryd.prog W 0 (fun _ => true) true Tryd.f8.params.toList args.toList ds p := hA0
  rw [Tryd.params8] at hA hval
  obtain ⟨v0, vs0, d0, ds0, p0, q0, hargs, rfl, rfl, h0, r0⟩ := trodAll_cons hA
  obtain ⟨rfl, rfl, rfl⟩ := trodAll_nil r0
  obtain rfl : args = #[v0] := by cases args; simp_all
  obtain ⟨rfl, rfl⟩ := trodVars_none hV
  obtain ⟨x0, hx0⟩ := open_u16v (hval 0 42 v0 rfl rfl) h0
  obtain ⟨rfl, hx65_0⟩ := hx0
  refine (limits_walk x0 hx65_0 W (maxLen_shaped W hsh)).mono fun e W' ⟨he, hb⟩ => ⟨_, he, ?_⟩
  refine law_post rfl rfl (by intro t ht; rw [Tryd.params8] at ht; simp at ht; subst ht; exact ⟨by kernel_rfl, of_decide_eq_true (by kernel_rfl)⟩) rfl hW' hb

theorem limits_reads (os : Os) {H : Type} (enc : TypeId × Value → H) : ∃ places, DataW.whole enc Tryd.prog ((laidWorld os).forCall (fun _ _ => 0) ⟨#[], #[.int .u16 0], []⟩).memory Tryd.f8.params.toList Rows.lexerLimitsSpec.vars false (#[.int .u16 0] : Array Value).toList 8 = some ([.lit (.int .u16 0)], [], places) :=
  ⟨[], by kernel_rfl⟩

set_option maxRecDepth 100000 in
theorem limits_lifted (os : Os) (started : os.Started) (H : Type) (enc : TypeId × Value → H) (F : Stop.Interp) :
    ReturnsInHanded {} Tryd.checked os 8 .any ((OpenSpec.ofChange Rows.lexerLimitsSpec).preRow enc Tryd.prog Tryd.f8 Rows.lexerLimitsRow.domain false Rows.lexerLimitsRow.laid) (((OpenSpec.ofChange Rows.lexerLimitsSpec).at F).post enc Tryd.prog Tryd.f8 false true false false) := by
  obtain ⟨places, hx⟩ := limits_reads os enc
  refine returnsInHanded_of_row (C := Tryd.checked) (s := OpenSpec.ofChange Rows.lexerLimitsSpec) own started (by kernel_rfl) Tryd.func8
    (witness_row_at (enc := enc) (C := Tryd.checked) false (laidWorld os) #[.int .u16 0] rfl (by kernel_rfl) (by kernel_rfl) (by kernel_rfl)
      (OpenSpec.preRow_of_cond 8 hx (by kernel_rfl) (fun k hk => by cases hk) (by kernel_rfl) (laid_met os _))) ?_
  intro W base args ds gs before hval hW _ hcond _ _ hsh _
  exact limits_contract H enc W base args ds gs before hval hW hsh

theorem limits_said : Rows.LexerLimitsSaid :=
  OpenClaim.holds_of_cond 8 Tryd.f8 rfl rfl rfl rfl rfl rfl rfl ⟨rfl, rfl, rfl, rfl, rfl⟩ rfl rfl rfl rfl rfl (by kernel_rfl) Tryd.func8 (by kernel_rfl)
    (of_decide_eq_true (by kernel_rfl)) (by unfold Func.isWrapper; first | (rw [if_pos (by decide +kernel)]; kernel_rfl) | (rw [if_neg (by decide +kernel)]; exact ⟨rfl, rfl⟩))
    (fun os started H enc _ F => by rw [OpenClaim.pre_eq_preRow]; exact limits_lifted os started H enc F)

/-- No parameter wants a stand-in; the program's own looks are off. -/
theorem limits_plain (f : FuncId) (fn : Func) (hf : Tryd.pinned.checked.prog.funcNamed "annalist/annalistlaw27.LexerLimits" = some f) (hfn : Tryd.pinned.checked.prog.funcs[f]? = some fn) :
    false = Tryd.pinned.checked.prog.looks [] ∧ ∀ (j : Nat) t, fn.params[j]? = some t → Tryd.pinned.checked.prog.wantsStandIn t = false := by
  obtain rfl : f = 8 := Option.some.inj ((show Tryd.prog.funcNamed "annalist/annalistlaw27.LexerLimits" = some 8 by kernel_rfl).symm.trans hf) |>.symm
  obtain rfl : fn = Tryd.f8 := (Option.some.inj (Tryd.func8.symm.trans hfn)).symm
  refine ⟨by kernel_rfl, fun j t ht => ?_⟩
  rw [Tryd.params8] at ht
  obtain rfl : t = 42 := by simpa using Array.mem_of_getElem? ht
  exact (show Tryd.prog.wantsStandIn 42 = false by kernel_rfl)

/-- The card. -/
theorem limits_card : Rows.LexerLimitsCardSaid :=
  Claim7.holds_tied_plain_at .later [] _ _ _ _ limits_said (fun _ h => by cases h) (by kernel_rfl) (fun _ h => by cases h) lexerLimits_row_tie rfl ⟨rfl, rfl⟩ (by kernel_rfl) rfl limits_plain (by kernel_rfl)
end Go.Proofs.YtbabencadnlmlaaDoor
