/- The law LexerTexts: for every string made of characters that occur in statements, Scan agrees with the definition. No condition. -/
import Derived.Test.YtbabencadnlmlaaDoorLexX
import Derived.Test.YtbabencadnlmlaaDoorLaid
import Derived.Test.YtbabencadnlmlaaDoorCards
import Derived.Test.YtbabencadnlmlaaDoorTie
namespace Go.Proofs.YtbabencadnlmlaaDoor
open Go.ChangeShapes Go.WideShapes Go.ChangeAt Go.RowKit
open Go.ChangeMaps (open_string)

set_option maxHeartbeats 1000000 in
theorem texts_walk (v : Value) (l : List Nat) (w : World) (hML : MaxLenAt w) (h : SliceOf w 1 U16Is v l) :
    Calls Tryd.prog 4 #[v] w fun e w' => e = .returned (.bool true) ∧ Below w.heap.size w w' := by
  have HML := Lib.hid hML
  have HS := Lib.hid h
  obtain ⟨s, hs⟩ : ∃ s : ByteArray, s = ⟨(textL l).toArray⟩ := ⟨_, rfl⟩
  have hsz : s.size ≤ maxLen := by rw [hs, ba_mk_size]; have := textL_len l; unfold maxLen; omega
  have HSE := Lib.hid hs
  clear hML h hs
  go_enter Tryd.func4, Tryd.ntmps4
  go_wp2_with fail
  refine (text_any v l w HS.out).mono ?_
  rw [← HSE.out]
  rintro e w0 ⟨rfl, hb0⟩
  have HB0 := Lib.hid hb0
  clear hb0
  go_wp2_with fail
  obtain ⟨R, hRe⟩ : ∃ R, scan s.data.toList = R := ⟨_, rfl⟩
  have HE := Lib.hid hRe
  clear hRe
  refine (scan_any s hsz _).mono ?_
  rw [HE.out]
  rintro e w1 ⟨v1, rfl, ho1, hb1⟩
  have HO1 := Lib.hid ho1
  have HB1 := Lib.hid (HB0.out.trans (hb1.mono HB0.out.size))
  clear ho1 hb1
  go_wp2_with fail
  refine (rscan_any s hsz _).mono ?_
  rw [HE.out]
  rintro e w2 ⟨v2, rfl, ho2, hb2⟩
  have HO2 := Lib.hid ho2
  have HB2 := Lib.hid hb2
  clear ho2 hb2
  go_wp2_with fail
  refine (awake_any _ (HML.out.below (HB1.out.trans (HB2.out.mono HB1.out.size)))).mono ?_
  rintro e w3 ⟨rfl, hb3⟩
  have HB3 := Lib.hid hb3
  clear hb3
  go_wp2_with fail
  refine (same_any v1 v2 R.toks R.toks _ ((own_reads HO1.out).below (HB2.out.trans (HB3.out.mono HB2.out.size))) ((own_reads HO2.out).below HB3.out)).mono ?_
  rw [sameToks_refl]
  rintro e w4 ⟨rfl, hb4⟩
  go_wp2_with fail
  go_ret
  exact ⟨rfl, HB1.out.trans ((HB2.out.mono HB1.out.size).trans ((HB3.out.mono (Nat.le_trans HB1.out.size HB2.out.size)).trans (hb4.mono (Nat.le_trans HB1.out.size (Nat.le_trans HB2.out.size HB3.out.size)))))⟩

theorem texts_contract (H : Type) (enc : TypeId × Value → H) (W : World) (base : Nat) (args : Array Value) (ds gs : List (DataW H)) (before : List MemPlace)
    (hval : ∀ (j : Nat) t v, Tryd.f4.params[j]? = some t → args[j]? = some v → Value.okWide Tryd.prog W .any base t v)
    (hW : DataW.Whole enc Tryd.prog Tryd.f4.params.toList Rows.lexerTextsSpec.vars false W args.toList ds gs before) (hsh : W.ShapedOpen Tryd.prog) :
    Calls Tryd.prog 4 args W fun e W' => ∃ v, e = .returned v ∧ Rows.lexerTextsSpec.post enc Tryd.prog Tryd.f4 false true false false W args v W' := by
  have hW' := hW
  obtain ⟨p, q, hA0, hV, rfl, hfz, hnd⟩ := hW
  have hA : DataW.TrodAll enc Tryd.prog W 0 (fun _ => true) true Tryd.f4.params.toList args.toList ds p := hA0
  rw [Tryd.params4] at hA hval
  obtain ⟨v0, vs0, d0, ds0, p0, q0, hargs, rfl, rfl, h0, r0⟩ := trodAll_cons hA
  obtain ⟨rfl, rfl, rfl⟩ := trodAll_nil r0
  obtain rfl : args = #[v0] := by cases args; simp_all
  obtain ⟨rfl, rfl⟩ := trodVars_none hV
  obtain ⟨l0, hl0⟩ := open_sliceOf (R := U16Is) Tryd.underlying31 cells_u16 (by omega) (hval 0 31 v0 rfl rfl) open_u16 h0
  refine (texts_walk v0 l0 W (maxLen_shaped W hsh) hl0).mono fun e W' ⟨he, hb⟩ => ⟨_, he, ?_⟩
  refine law_post rfl rfl (by intro t ht; rw [Tryd.params4] at ht; simp at ht; subst ht; exact ⟨by kernel_rfl, of_decide_eq_true (by kernel_rfl)⟩) rfl hW' hb

theorem texts_reads (os : Os) {H : Type} (enc : TypeId × Value → H) : ∃ places, DataW.whole enc Tryd.prog ((laidWorld os).forCall (fun _ _ => 0) ⟨#[], #[.slice none 0 0], []⟩).memory Tryd.f4.params.toList Rows.lexerTextsSpec.vars false (#[.slice none 0 0] : Array Value).toList 8 = some ([.nil], [], places) :=
  ⟨[], by kernel_rfl⟩

set_option maxRecDepth 100000 in
theorem texts_lifted (os : Os) (started : os.Started) (H : Type) (enc : TypeId × Value → H) (F : Stop.Interp) :
    ReturnsInHanded {} Tryd.checked os 4 .any ((OpenSpec.ofChange Rows.lexerTextsSpec).preRow enc Tryd.prog Tryd.f4 Rows.lexerTextsRow.domain false Rows.lexerTextsRow.laid) (((OpenSpec.ofChange Rows.lexerTextsSpec).at F).post enc Tryd.prog Tryd.f4 false true false false) := by
  obtain ⟨places, hx⟩ := texts_reads os enc
  refine returnsInHanded_of_row (C := Tryd.checked) (s := OpenSpec.ofChange Rows.lexerTextsSpec) own started (by kernel_rfl) Tryd.func4
    (witness_row_at (enc := enc) (C := Tryd.checked) false (laidWorld os) #[.slice none 0 0] rfl (by kernel_rfl) (by kernel_rfl) (by kernel_rfl)
      (OpenSpec.preRow_of_cond 8 hx (by kernel_rfl) (fun k hk => by cases hk) (by kernel_rfl) (laid_met os _))) ?_
  intro W base args ds gs before hval hW _ hcond _ _ hsh _
  exact texts_contract H enc W base args ds gs before hval hW hsh

theorem texts_said : Rows.LexerTextsSaid :=
  OpenClaim.holds_of_cond 4 Tryd.f4 rfl rfl rfl rfl rfl rfl rfl ⟨rfl, rfl, rfl, rfl, rfl⟩ rfl rfl rfl rfl rfl (by kernel_rfl) Tryd.func4 (by kernel_rfl)
    (of_decide_eq_true (by kernel_rfl)) (by unfold Func.isWrapper; first | (rw [if_pos (by decide +kernel)]; kernel_rfl) | (rw [if_neg (by decide +kernel)]; exact ⟨rfl, rfl⟩))
    (fun os started H enc _ F => by rw [OpenClaim.pre_eq_preRow]; exact texts_lifted os started H enc F)

/-- No parameter wants a stand-in; the program's own looks are off. -/
theorem texts_plain (f : FuncId) (fn : Func) (hf : Tryd.pinned.checked.prog.funcNamed "annalist/annalistlaw27.LexerTexts" = some f) (hfn : Tryd.pinned.checked.prog.funcs[f]? = some fn) :
    false = Tryd.pinned.checked.prog.looks [] ∧ ∀ (j : Nat) t, fn.params[j]? = some t → Tryd.pinned.checked.prog.wantsStandIn t = false := by
  obtain rfl : f = 4 := Option.some.inj ((show Tryd.prog.funcNamed "annalist/annalistlaw27.LexerTexts" = some 4 by kernel_rfl).symm.trans hf) |>.symm
  obtain rfl : fn = Tryd.f4 := (Option.some.inj (Tryd.func4.symm.trans hfn)).symm
  refine ⟨by kernel_rfl, fun j t ht => ?_⟩
  rw [Tryd.params4] at ht
  obtain rfl : t = 31 := by simpa using Array.mem_of_getElem? ht
  exact (show Tryd.prog.wantsStandIn 31 = false by kernel_rfl)

/-- The card. -/
theorem texts_card : Rows.LexerTextsCardSaid :=
  Claim7.holds_tied_plain_at .later [] _ _ _ _ texts_said (fun _ h => by cases h) (by kernel_rfl) (fun _ h => by cases h) lexerTexts_row_tie rfl ⟨rfl, rfl⟩ (by kernel_rfl) rfl texts_plain (by kernel_rfl)
end Go.Proofs.YtbabencadnlmlaaDoor
