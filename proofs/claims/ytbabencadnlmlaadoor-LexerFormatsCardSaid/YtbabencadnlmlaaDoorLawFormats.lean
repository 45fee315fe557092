/- The law LexerFormats: for every slice of tokens, Valid and Format agree with the definition. No condition. -/
import Derived.Test.YtbabencadnlmlaaDoorLexW
import Derived.Test.YtbabencadnlmlaaDoorLaid
import Derived.Test.YtbabencadnlmlaaDoorCards
import Derived.Test.YtbabencadnlmlaaDoorTie
import Derived.Deep.RegionHeld3
namespace Go.Proofs.YtbabencadnlmlaaDoor
open Go.ChangeShapes Go.WideShapes Go.ChangeAt Go.RowKit
open Go.ChangeMaps (open_string)

theorem byteTok (k p : Int) (s : ByteArray) : ∃ x : Tok, x.kind = k ∧ x.pos = p ∧ (⟨x.text.toArray⟩ : ByteArray) = s := ⟨⟨k, p, s.data.toList⟩, rfl, rfl, by simp⟩

theorem keepTok {w W W' : World} {a b c : Addr} {u v x : Value} (hb : Below W.heap.size W W') (h : W.cell? a = some u ∧ W.cell? b = some v ∧ W.cell? c = some x ∧ Below w.heap.size w W) :
    W'.cell? a = some u ∧ W'.cell? b = some v ∧ W'.cell? c = some x ∧ Below w.heap.size w W' :=
  ⟨(hb.cell (World.block_lt_of_cell? W _ h.1)).trans h.1, (hb.cell (World.block_lt_of_cell? W _ h.2.1)).trans h.2.1, (hb.cell (World.block_lt_of_cell? W _ h.2.2.1)).trans h.2.2.1, h.2.2.2.trans (hb.mono h.2.2.2.size)⟩

set_option maxHeartbeats 2000000 in
theorem formats_pos (ba oa ca n : Nat) (l : List Tok) (w : World) (hn : 0 < n) (hca : n ≤ ca) (hm : n ≤ 200) (hla : l.length = n) (hlt : ∀ x ∈ l, x.text.length ≤ 9223372036854775807) (hML : MaxLenAt w)
    (ha : ∀ j u, (tokCells l)[j]? = some u → w.cell? ⟨ba, oa + j, none⟩ = some u) :
    Calls Tryd.prog 5 #[.slice (some ⟨ba, oa, none⟩) n ca] w fun e w' => e = .returned (.bool true) ∧ Below w.heap.size w w' := by
  have HRD : Hid (Reads w 3 (.slice (some ⟨ba, oa, none⟩) n ca) l.length (tokCells l)) := ⟨by rw [tokCells_length], by omega, _, ca, by rw [hla], by omega, fun _ => ⟨ba, oa, rfl, ha⟩⟩
  have HA := Lib.hid ha
  have HL := Lib.hid hla
  have HT := Lib.hid hlt
  have HML := Lib.hid hML
  clear ha hla hlt hML
  go_enter Tryd.func5, Tryd.ntmps5
  go_wp2_with fail
  go_loopw [3] (fun i wr => ∃ k : Nat, k ≤ n ∧ i = .int .i64 k ∧ (∀ x ∈ l.take k, x.text.length ≤ 500) ∧ Below w.heap.size w wr) (fun i _ => n - (intOf i).toNat)
  case atStart => exact ⟨0, Nat.zero_le _, rfl, by simp, Below.refl _ _⟩
  case round =>
    obtain ⟨k, hk, rfl, hR, hB⟩ := hrel
    have hsz := hB.size
    have HR := Lib.hid hR
    have HB := Lib.hid hB
    clear hR hB
    by_cases hlt : k < n
    · obtain ⟨x, hxk⟩ := lget_some l k (by rw [HL.out]; exact hlt)
      have hx := tokCells_at l k x hxk
      have HX := Lib.hid hxk
      have htx : x.text.length ≤ 9223372036854775807 := HT.out x (List.mem_of_getElem? hxk)
      have hts : (ByteArray.mk x.text.toArray).size ≤ maxLen := by rw [ba_mk_size]; unfold maxLen; omega
      have hsx := ba_mk_size x.text
      have HQ : Hid (∀ W, Below w.heap.size w W → W.cell? ⟨ba, oa + k * 3, none⟩ = some (.int .i64 x.kind) ∧ W.cell? ⟨ba, oa + k * 3 + 1, none⟩ = some (.int .i64 x.pos) ∧ W.cell? ⟨ba, oa + k * 3 + 2, none⟩ = some (.string ⟨x.text.toArray⟩)) := by
        intro W hW
        have q0 := HA.out _ _ hx.1
        have q1 := HA.out _ _ hx.2.1
        have q2 := HA.out _ _ hx.2.2
        exact ⟨(hW.cell (World.block_lt_of_cell? w _ q0)).trans q0, (hW.cell (World.block_lt_of_cell? w _ q1)).trans q1, (hW.cell (World.block_lt_of_cell? w _ q2)).trans q2⟩
      obtain ⟨a0, a1, a2⟩ := HQ.out wr HB.out
      clear hx hxk
      by_cases h5 : 500 < x.text.length
      · go_wp2_with fail
        refine (awake_any _ (HML.out.below HB.out)).mono ?_
        rintro e w1 ⟨rfl, hb1⟩
        go_wp2_with fail
        go_ret
        exact ⟨rfl, HB.out.trans (hb1.mono hsz)⟩
      · have hk0 : (0 : Int) ≤ (k : Int) := by omega
        have hkn : (k : Int) < (n : Int) := by omega
        go_wp2_with fail
        go_region_held3 (fun w' => w'.cell? ⟨ba, oa + k * 3, none⟩ = some (.int .i64 x.kind) ∧ w'.cell? ⟨ba, oa + k * 3 + 1, none⟩ = some (.int .i64 x.pos) ∧ w'.cell? ⟨ba, oa + k * 3 + 2, none⟩ = some (.string ⟨x.text.toArray⟩) ∧ Below w.heap.size w w') (first | (exact ⟨by assumption, by assumption, by assumption, HB.out.drew⟩) | (exact keepTok hb (by assumption)))
          (first | (go_at_call 14; refine (valid_any _ _ _ hts _).mono ?_; rintro e w' ⟨rfl, hb⟩) | (go_at_call 15; refine (rvalid_any _ _ _ hts _).mono ?_; rintro e w' ⟨rfl, hb⟩))
        rename_i hS _
        have HS : Hid (Below w.heap.size w w') := by
          have h : w'.cell? ⟨ba, oa + k * 3, none⟩ = some (.int .i64 x.kind) ∧ w'.cell? ⟨ba, oa + k * 3 + 1, none⟩ = some (.int .i64 x.pos) ∧ w'.cell? ⟨ba, oa + k * 3 + 2, none⟩ = some (.string ⟨x.text.toArray⟩) ∧ Below w.heap.size w w' := by assumption
          exact h.2.2.2
        go_wp2_with fail
        go_roundw
        case rel => exact ⟨k + 1, hlt, by go_num, by rw [take_get HX.out]; intro y hy; rcases List.mem_append.1 hy with h | h; exact HR.out y h; simp at h; subst h; omega, HS.out⟩
        case measure => simp [intOf]; omega
    · have HT2 : Hid (∀ x ∈ l, x.text.length ≤ 1000000) := by
        intro x hx
        have := HR.out x (by rw [List.take_of_length_le (by rw [HL.out]; omega)]; exact hx)
        omega
      go_wp2_with fail
      refine (awake_any _ (HML.out.below HB.out)).mono ?_
      rintro e w1 ⟨rfl, hb1⟩
      go_wp2_with fail
      have HB1 : Hid (Below w.heap.size w w1) := HB.out.trans (hb1.mono hsz)
      refine (format_any _ l _ (by rw [HL.out]; omega) HT2.out (HML.out.below HB1.out) (HRD.out.below HB1.out)).mono ?_
      rintro e w2 ⟨rfl, hb2⟩
      have HB2 : Hid (Below w.heap.size w w2) := HB1.out.trans (hb2.mono HB1.out.size)
      go_wp2_with fail
      refine (formatTokens_any _ l _ (by rw [HL.out]; omega) HT2.out (HRD.out.below HB2.out)).mono ?_
      rintro e w3 ⟨rfl, hb3⟩
      go_wp2_with fail
      go_ret
      exact ⟨rfl, HB2.out.trans (hb3.mono HB2.out.size)⟩

set_option maxHeartbeats 1000000 in
theorem formats_empty (a : Option Addr) (c : Nat) (w : World) (hML : MaxLenAt w) :
    Calls Tryd.prog 5 #[.slice a 0 c] w fun e w' => e = .returned (.bool true) ∧ Below w.heap.size w w' := by
  have HML := Lib.hid hML
  have HRD : Hid (Reads w 3 (.slice a 0 c) ([] : List Tok).length (tokCells [])) := ⟨rfl, by simp, a, c, rfl, by simp, by simp⟩
  clear hML
  go_enter Tryd.func5, Tryd.ntmps5
  go_wp2_with fail
  refine wp_loop_rounds 1 ?_
  rw [rounds_succ]
  go_wp2_with fail
  refine (awake_any _ HML.out).mono ?_
  rintro e w1 ⟨rfl, hb1⟩
  have HB1 := Lib.hid hb1
  clear hb1
  go_wp2_with fail
  refine (format_any _ [] _ (by simp) (by simp) (HML.out.below HB1.out) (HRD.out.below HB1.out)).mono ?_
  rintro e w2 ⟨rfl, hb2⟩
  have HB2 : Hid (Below w.heap.size w w2) := HB1.out.trans (hb2.mono HB1.out.size)
  go_wp2_with fail
  refine (formatTokens_any _ [] _ (by simp) (by simp) (HRD.out.below HB2.out)).mono ?_
  rintro e w3 ⟨rfl, hb3⟩
  go_wp2_with fail
  go_ret
  exact ⟨rfl, HB2.out.trans (hb3.mono HB2.out.size)⟩

set_option maxHeartbeats 1000000 in
theorem formats_long (a : Option Addr) (n c : Nat) (w : World) (hn : 200 < n) (hm : n ≤ 9223372036854775807) (hML : MaxLenAt w) :
    Calls Tryd.prog 5 #[.slice a n c] w fun e w' => e = .returned (.bool true) ∧ Below w.heap.size w w' := by
  have HML := Lib.hid hML
  clear hML
  go_enter Tryd.func5, Tryd.ntmps5
  go_wp2_with fail
  refine (awake_any _ HML.out).mono ?_
  rintro e w1 ⟨rfl, hb1⟩
  go_wp2_with fail
  go_ret
  exact ⟨rfl, hb1⟩

/-- A token's cells. -/
def TokIs (_ : World) (x : Tok) (cs : List Value) : Prop := cs = [.int .i64 x.kind, .int .i64 x.pos, .string ⟨x.text.toArray⟩] ∧ x.text.length ≤ 9223372036854775807

theorem cells_int : Tryd.prog.cellsOf 3 = 1 := by kernel_rfl
theorem cells_string : Tryd.prog.cellsOf 9 = 1 := by kernel_rfl
theorem cells_tok : Tryd.prog.cellsOf 35 = 3 := by kernel_rfl
theorem open_tok {H : Type} {enc : TypeId × Value → H} {w : World} {spare : Nat → Bool} (n : Nat) (cs : List Value) (y : DataW H × List MemPlace)
    (h : DataW.trod enc Tryd.prog w 0 spare true n 35 cs = some y) (hl : cs.length = 3) : ∃ x, TokIs w x cs := by
  obtain ⟨xs, k, hk, hxy, _, hxl, hf⟩ := DataW.trod_struct Tryd.underlying35 h
  match cs, hl with
  | [c0, c1, c2], _ =>
    match xs, hxl with
    | [y0, y1, y2], _ =>
      have g0 := hf 0 _ rfl
      have g1 := hf 1 _ rfl
      have g2 := hf 2 _ rfl
      simp [cells_int, cells_string] at g0 g1 g2
      obtain ⟨k0, e0, _, _⟩ := DataW.trod_int Tryd.underlying3 g0
      obtain ⟨k1, e1, _, _⟩ := DataW.trod_int Tryd.underlying3 g1
      obtain ⟨s, e2, _, hs⟩ := DataW.trod_string Tryd.underlying9 g2
      simp at e0 e1 e2
      subst e0 e1 e2
      obtain ⟨x, rfl, rfl, rfl⟩ := byteTok k0 k1 s
      exact ⟨x, rfl, by rw [ba_mk_size] at hs; unfold maxLen at hs; omega⟩

theorem formats_walk (v : Value) (l : List Tok) (w : World) (hML : MaxLenAt w) (h : SliceOf w 3 TokIs v l) :
    Calls Tryd.prog 5 #[v] w fun e w' => e = .returned (.bool true) ∧ Below w.heap.size w w' := by
  obtain ⟨hm, a, c, rfl, hc, hp⟩ := h
  rcases Nat.lt_or_ge 200 l.length with h2 | h2
  · exact formats_long a _ c w h2 hm hML
  · rcases Nat.eq_zero_or_pos l.length with h0 | h0
    · rw [h0]; exact formats_empty a c w hML
    · obtain ⟨b, o, rfl, hx⟩ := hp h0
      refine formats_pos b o c l.length l w h0 hc h2 rfl ?_ hML ?_
      · intro x hm
        obtain ⟨i, hi⟩ := List.getElem?_of_mem hm
        obtain ⟨cs, _, h3, _⟩ := hx i x hi
        exact h3.2
      · refine flat_cells (fun t : Tok => [Value.int .i64 t.kind, .int .i64 t.pos, .string ⟨t.text.toArray⟩]) 3 (fun _ => rfl) l (fun j u => w.cell? ⟨b, o + j, none⟩ = some u) ?_
        intro i x hi j u hu
        obtain ⟨cs, _, h3, h4⟩ := hx i x hi
        rw [← Nat.add_assoc]
        exact h4 j u (by rw [h3.1]; exact hu)

theorem formats_contract (H : Type) (enc : TypeId × Value → H) (W : World) (base : Nat) (args : Array Value) (ds gs : List (DataW H)) (before : List MemPlace)
    (hval : ∀ (j : Nat) t v, Tryd.f5.params[j]? = some t → args[j]? = some v → Value.okWide Tryd.prog W .any base t v)
    (hW : DataW.Whole enc Tryd.prog Tryd.f5.params.toList Rows.lexerFormatsSpec.vars false W args.toList ds gs before) (hsh : W.ShapedOpen Tryd.prog) :
    Calls Tryd.prog 5 args W fun e W' => ∃ v, e = .returned v ∧ Rows.lexerFormatsSpec.post enc Tryd.prog Tryd.f5 false true false false W args v W' := by
  have hW' := hW
  obtain ⟨p, q, hA0, hV, rfl, hfz, hnd⟩ := hW
  have hA : DataW.TrodAll enc Tryd.prog W 0 (fun _ => true) true Tryd.f5.params.toList args.toList ds p := hA0
  rw [Tryd.params5] at hA hval
  obtain ⟨v0, vs0, d0, ds0, p0, q0, hargs, rfl, rfl, h0, r0⟩ := trodAll_cons hA
  obtain ⟨rfl, rfl, rfl⟩ := trodAll_nil r0
  obtain rfl : args = #[v0] := by cases args; simp_all
  obtain ⟨rfl, rfl⟩ := trodVars_none hV
  obtain ⟨l, hl⟩ := open_sliceOf (R := TokIs) Tryd.underlying23 cells_tok (by omega) (hval 0 23 v0 rfl rfl) open_tok h0
  refine (formats_walk v0 l W (maxLen_shaped W hsh) hl).mono fun e W' ⟨he, hb⟩ => ⟨_, he, ?_⟩
  refine law_post rfl rfl (by intro t ht; rw [Tryd.params5] at ht; simp at ht; subst ht; exact ⟨by kernel_rfl, of_decide_eq_true (by kernel_rfl)⟩) rfl hW' hb

theorem formats_reads (os : Os) {H : Type} (enc : TypeId × Value → H) : ∃ places, DataW.whole enc Tryd.prog ((laidWorld os).forCall (fun _ _ => 0) ⟨#[], #[.slice none 0 0], []⟩).memory Tryd.f5.params.toList Rows.lexerFormatsSpec.vars false #[Value.slice none 0 0].toList 8 = some ([.nil], [], places) :=
  ⟨[], by kernel_rfl⟩

set_option maxRecDepth 100000 in
theorem formats_lifted (os : Os) (started : os.Started) (H : Type) (enc : TypeId × Value → H) (F : Stop.Interp) :
    ReturnsInHanded {} Tryd.checked os 5 .any ((OpenSpec.ofChange Rows.lexerFormatsSpec).preRow enc Tryd.prog Tryd.f5 Rows.lexerFormatsRow.domain false Rows.lexerFormatsRow.laid) (((OpenSpec.ofChange Rows.lexerFormatsSpec).at F).post enc Tryd.prog Tryd.f5 false true false false) := by
  obtain ⟨places, hx⟩ := formats_reads os enc
  refine returnsInHanded_of_row (C := Tryd.checked) (s := OpenSpec.ofChange Rows.lexerFormatsSpec) own started (by kernel_rfl) Tryd.func5
    (witness_row_at (enc := enc) (C := Tryd.checked) false (laidWorld os) #[.slice none 0 0] rfl (by kernel_rfl) (by kernel_rfl) (by kernel_rfl)
      (OpenSpec.preRow_of_cond 8 hx (by kernel_rfl) (fun k hk => by cases hk) (by kernel_rfl) (laid_met os _))) ?_
  intro W base args ds gs before hval hW _ _ _ _ hsh _
  exact formats_contract H enc W base args ds gs before hval hW hsh

theorem formats_said : Rows.LexerFormatsSaid :=
  OpenClaim.holds_of_cond 5 Tryd.f5 rfl rfl rfl rfl rfl rfl rfl ⟨rfl, rfl, rfl, rfl, rfl⟩ rfl rfl rfl rfl rfl (by kernel_rfl) Tryd.func5 (by kernel_rfl)
    (of_decide_eq_true (by kernel_rfl)) (by unfold Func.isWrapper; first | (rw [if_pos (by decide +kernel)]; kernel_rfl) | (rw [if_neg (by decide +kernel)]; exact ⟨rfl, rfl⟩))
    (fun os started H enc _ F => by rw [OpenClaim.pre_eq_preRow]; exact formats_lifted os started H enc F)

/-- No parameter wants a stand-in; the program's own looks are off. -/
theorem formats_plain (f : FuncId) (fn : Func) (hf : Tryd.pinned.checked.prog.funcNamed "annalist/annalistlaw27.LexerFormats" = some f) (hfn : Tryd.pinned.checked.prog.funcs[f]? = some fn) :
    false = Tryd.pinned.checked.prog.looks [] ∧ ∀ (j : Nat) t, fn.params[j]? = some t → Tryd.pinned.checked.prog.wantsStandIn t = false := by
  obtain rfl : f = 5 := Option.some.inj ((show Tryd.prog.funcNamed "annalist/annalistlaw27.LexerFormats" = some 5 by kernel_rfl).symm.trans hf) |>.symm
  obtain rfl : fn = Tryd.f5 := (Option.some.inj (Tryd.func5.symm.trans hfn)).symm
  refine ⟨by kernel_rfl, fun j t ht => ?_⟩
  rw [Tryd.params5] at ht
  obtain rfl : t = 23 := by simpa using Array.mem_of_getElem? ht
  exact (show Tryd.prog.wantsStandIn 23 = false by kernel_rfl)

/-- The card. -/
theorem formats_card : Rows.LexerFormatsCardSaid :=
  Claim7.holds_tied_plain_at .later [] _ _ _ _ formats_said (fun _ h => by cases h) (by kernel_rfl) (fun _ h => by cases h) lexerFormats_row_tie rfl ⟨rfl, rfl⟩ (by kernel_rfl) rfl formats_plain (by kernel_rfl)
end Go.Proofs.YtbabencadnlmlaaDoor
