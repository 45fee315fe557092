/- The lexer's Format: what it hands back is the plain 'fmtL'. Conditions: moderately many tokens with moderate texts; the library's variable MaxLen holds a number. -/
import Derived.Test.YtbabencadnlmlaaDoorLexU
import Derived.Test.YtbabencadnlmlaaDoorShRep
namespace Go.Proofs.YtbabencadnlmlaaDoor
open Go.RowKit

def okT (t : Tok) : Bool := validT t.kind t.text
theorem validT_len (k : Int) (t : List UInt8) (h : validT k t = true) : t.length ≤ 200 := by
  by_cases h1 : k = 1
  · subst h1; rw [rvalid1] at h; simp at h; omega
  · by_cases h2 : k = 2
    · subst h2
      cases t with
      | nil => simp
      | cons c t => rw [rvalid2] at h; simp at h; simp; omega
    · by_cases h3 : k = 3
      · subst h3; rw [rvalid3] at h; simp at h; omega
      · by_cases h4 : k = 4
        · subst h4; rw [rvalid4] at h; simpa using h
        · by_cases h5 : k = 5
          · subst h5
            by_cases hl : t.length = 1
            · omega
            · rw [valid5 _ hl] at h; cases h
          · by_cases h6 : k = 6
            · subst h6; rw [valid6] at h; simp at h; simp [h]
            · rw [validT_other _ _ h1 h2 h3 h4 h5 h6] at h; cases h
theorem fmtText_len (t : Tok) (h : okT t = true) : (fmtText t).length ≤ 402 := by
  have h1 := validT_len _ _ h
  unfold fmtText
  split
  · have := dbl_length t.text; simp; omega
  · omega
theorem fmtStep_len (acc : List UInt8) (t : Tok) (h : okT t = true) : (fmtStep acc t).length ≤ acc.length + 403 := by
  have h1 := fmtText_len t h
  unfold fmtStep
  split
  · omega
  · split <;> simp <;> omega

structure FmtRel (l : List Tok) (w : World) (k : Nat) (acc : List UInt8) (wr : World) : Prop where
  val : acc = (l.take k).foldl fmtStep []
  ok : (l.take k).all okT = true
  bld : Bld w.heap.size w.heap.size (Lib.byteCells acc) wr
  len : acc.length ≤ k * 403
  below : Below w.heap.size w wr

theorem FmtRel.next {l : List Tok} {w : World} {k : Nat} {acc acc' : List UInt8} {wr w' : World} (h : FmtRel l w k acc wr) {x : Tok} (hx : l[k]? = some x) (hv : okT x = true) (ha : acc' = fmtStep acc x)
    (hb : Bld w.heap.size w.heap.size (Lib.byteCells acc') w') (hw : Below w.heap.size wr w') : FmtRel l w (k + 1) acc' w' := by
  subst ha
  refine ⟨?_, ?_, hb, ?_, h.below.trans hw⟩
  · rw [take_get hx, List.foldl_append, ← h.val]; rfl
  · rw [take_get hx, List.all_append, h.ok]; simp [hv]
  · have := fmtStep_len acc x hv; have := h.len; rw [Nat.add_mul]; omega
theorem FmtRel.bad {l : List Tok} {w : World} {k : Nat} {acc : List UInt8} {wr : World} (h : FmtRel l w k acc wr) {x : Tok} (hx : l[k]? = some x) (hv : okT x = false) : fmtL l = [] := by
  have : l.all okT = false := by
    rw [List.all_eq_false]
    exact ⟨x, List.mem_of_getElem? hx, by simp [hv]⟩
  unfold fmtL
  rw [if_neg]
  intro e; rw [show (fun t : Tok => validT t.kind t.text) = okT from rfl, this] at e; cases e
theorem FmtRel.end_ {l : List Tok} {w : World} {k : Nat} {acc : List UInt8} {wr : World} (h : FmtRel l w k acc wr) (hk : l.length ≤ k) : fmtL l = acc := by
  have h1 := h.ok
  have h2 := h.val
  rw [List.take_of_length_le hk] at h1 h2
  unfold fmtL
  rw [show (fun t : Tok => validT t.kind t.text) = okT from rfl, if_pos h1, h2]

/-- Where the library's variable MaxLen lies. -/
abbrev MaxLenAt (w : World) : Prop := ∃ m, w.cell? ⟨0, 0, none⟩ = some (.int .i64 m)
theorem MaxLenAt.below {w w' : World} (h : MaxLenAt w) (hb : Below w.heap.size w w') : MaxLenAt w' := by
  obtain ⟨m, h⟩ := h
  exact ⟨m, by rw [hb.cell (World.block_lt_of_cell? w _ h)]; exact h⟩
theorem quote_any (t : List UInt8) (ht : t.length ≤ 1000000) (w : World) (hm : MaxLenAt w) :
    Calls Tryd.prog 35 #[.string ⟨t.toArray⟩, .string ⟨#[39]⟩, .string ⟨#[39, 39]⟩] w fun e w' => e = .returned (.string ⟨(dbl t).toArray⟩) ∧ Below w.heap.size w w' := by
  obtain ⟨m, hm⟩ := hm
  have hsz : (ByteArray.mk t.toArray).size = t.length := by simp [ByteArray.size]
  refine (sh_strings_ReplaceAll _ _ _ m w (by rw [hsz]; omega) hm (by decide) ?_).mono fun e w' ⟨h1, h2⟩ => ⟨?_, h2⟩
  · have h3 : Lib.countB ⟨t.toArray⟩ ⟨#[39]⟩ ≤ t.length := by
      have := count_quote_le t
      simpa [Lib.countB] using this
    have h4 : (ByteArray.mk #[39, 39]).size = 2 := rfl
    rw [hsz, h4]; omega
  · rw [h1, show (ByteArray.mk t.toArray).data.toList = t by simp, show (ByteArray.mk #[39]).data.toList = [39] from rfl, show (ByteArray.mk #[39, 39]).data.toList = [39, 39] from rfl, replaceAll_quote]

theorem cells_quoted (t : List UInt8) : Lib.strCells (⟨#[39]⟩ ++ ⟨t.toArray⟩ ++ ⟨#[39]⟩) = Lib.byteCells ([39] ++ t ++ [39]) := by
  rw [← strCells_mk, ← bytes_append, ← bytes_append]

set_option maxHeartbeats 4000000 in
theorem format_pos (ba oa ca n : Nat) (l : List Tok) (w : World) (hn : 0 < n) (hm : n ≤ 100000) (hla : l.length = n) (hlt : ∀ x ∈ l, x.text.length ≤ 1000000) (hML : MaxLenAt w)
    (ha : ∀ j u, (tokCells l)[j]? = some u → w.cell? ⟨ba, oa + j, none⟩ = some u) :
    Calls Tryd.prog 16 #[.slice (some ⟨ba, oa, none⟩) n ca] w fun e w' => e = .returned (.string ⟨(fmtL l).toArray⟩) ∧ Below w.heap.size w w' := by
  have HA := Lib.hid ha
  have HL := Lib.hid hla
  have HT := Lib.hid hlt
  have HML := Lib.hid hML
  clear ha hla hlt hML
  go_enter Tryd.func16, Tryd.ntmps16
  go_wp2_with fail
  go_loopw [8] (fun i wr => ∃ (k : Nat) (acc : List UInt8), k ≤ n ∧ i = .int .i64 k ∧ FmtRel l w k acc wr) (fun i _ => n - (intOf i).toNat)
  case atStart => exact ⟨0, [], Nat.zero_le _, rfl, ⟨rfl, rfl, bld_fresh w, by simp, below_alloc _ _⟩⟩
  case round =>
    obtain ⟨k, acc, hk, rfl, hR⟩ := hrel
    have hsz := hR.below.size
    have hlen := hR.len
    have HR := Lib.hid hR
    clear hR
    by_cases hlt : k < n
    · obtain ⟨x, hxk⟩ := lget_some l k (by rw [HL.out]; exact hlt)
      have hx := tokCells_at l k x hxk
      have HX := Lib.hid hxk
      have htx : x.text.length ≤ 1000000 := HT.out x (List.mem_of_getElem? hxk)
      have hts : (ByteArray.mk x.text.toArray).size ≤ maxLen := by
        have : (ByteArray.mk x.text.toArray).size = x.text.length := by simp [ByteArray.size]
        unfold maxLen; omega
      have q0 := HA.out _ _ hx.1
      have q1 := HA.out _ _ hx.2.1
      have q2 := HA.out _ _ hx.2.2
      have a0 : wr.cell? ⟨ba, oa + k * 3, none⟩ = _ := (HR.out.below.cell (World.block_lt_of_cell? w _ q0)).trans q0
      have a1 : wr.cell? ⟨ba, oa + k * 3 + 1, none⟩ = _ := (HR.out.below.cell (World.block_lt_of_cell? w _ q1)).trans q1
      have a2 : wr.cell? ⟨ba, oa + k * 3 + 2, none⟩ = _ := (HR.out.below.cell (World.block_lt_of_cell? w _ q2)).trans q2
      clear hx hxk q0 q1 q2
      cases hv : okT x
      · have HV : Hid (fmtL l = []) := HR.out.bad HX.out hv
        have hv' : validT x.kind x.text = false := hv
        clear hv
        go_wp2_with fail
        refine (valid_any _ _ _ hts _).mono ?_
        rintro e w1 ⟨rfl, hb1⟩
        have hb2 := Lib.hid (below_alloc2' hb1)
        clear hb1
        go_wp2_with fail
        go_ret
        exact ⟨by rw [HV.out]; rfl, HR.out.below.trans (hb2.out.mono hsz)⟩
      · have hv' : validT x.kind x.text = true := hv
        have HV := Lib.hid hv
        clear hv
        have hsz1 := bld_lt HR.out.bld
        have hdl := (dbl_length x.text).1
        have hk403 : k * 403 ≤ 40300000 := by omega
        go_wp2_with fail
        refine (valid_any _ _ _ hts _).mono ?_
        rintro e w1 ⟨rfl, hb1⟩
        obtain ⟨hc1, hf1⟩ := bcell hb1
        have hz1 : wr.heap.size + 1 ≤ w1.heap.size := by have := hb1.size; simp at this; omega
        have HB1 : Hid (Below wr.heap.size wr w1) := below_alloc2' hb1
        have HK1 := Lib.hid (block_new _ _ _ hb1)
        have HBl := Lib.hid (bld_below HR.out.bld HB1.out)
        clear hb1
        cases h6 : (x.kind == 6)
        · have H6 := Lib.hid (show x.kind ≠ 6 by simpa using h6)
          go_wp2_with fail
          refine (bld_Len _ _ _ _ HBl.out).mono ?_
          rintro e w' ⟨rfl, rfl⟩
          have HTAIL : Hid (∀ (W : World) (pre : List UInt8), Bld w.heap.size w.heap.size (Lib.byteCells pre) W → Below w.heap.size wr W → pre = (if acc.isEmpty then acc else acc ++ [32]) →
              ∀ W', Bld w.heap.size w.heap.size (Lib.byteCells pre ++ Lib.byteCells (fmtText x)) W' → Below w.heap.size W W' → FmtRel l w (k + 1) (pre ++ fmtText x) W') := by
            intro W pre _ hW hp W' hW1 hW2
            refine HR.out.next HX.out HV.out ?_ (by rw [byteCells_append]; exact hW1) (hW.trans hW2)
            rw [fmtStep, if_neg H6.out, ← hp]
          by_cases hacc : acc = []
          · have hlb : (Lib.byteCells acc).length = 0 := by rw [byteCells_length, hacc]; rfl
            have HBl' : Hid (Bld w.heap.size w.heap.size (Lib.byteCells []) w1) := by rw [← hacc]; exact HBl.out
            have HP : Hid (([] : List UInt8) = (if acc.isEmpty then acc else acc ++ [32])) := by rw [hacc]; rfl
            clear hacc
            cases h4 : (x.kind == 4)
            · have HF : Hid (fmtText x = x.text) := if_neg (by simpa using h4)
              go_wp2_with fail
              refine (bld_WriteString _ _ _ _ _ HBl'.out (by simp [ByteArray.size, Lib.byteCells]; omega) (by omega)).mono ?_
              rintro e w4 ⟨rfl, hB4, hb4, _⟩
              go_wp2_with fail
              go_roundw
              case rel => exact ⟨k + 1, _, hlt, by go_num, HTAIL.out w1 [] HBl'.out (HB1.out.mono hsz) HP.out _ (by rw [HF.out, ← strCells_mk x.text]; exact hB4) hb4⟩
              case measure => simp [intOf]; omega
            · have HF : Hid (fmtText x = [39] ++ dbl x.text ++ [39]) := if_pos (by simpa using h4)
              have HM1 : Hid (MaxLenAt w1) := HML.out.below (HR.out.below.trans (HB1.out.mono hsz))
              go_wp2_with fail
              refine (quote_any _ htx _ HM1.out).mono ?_
              rintro e w3 ⟨rfl, hb3⟩
              have HB3 := Lib.hid (bld_below HBl'.out hb3)
              have hz3 := hb3.size
              go_wp2_with fail
              refine (bld_WriteString _ _ _ _ _ HB3.out (by simp [ByteArray.size, Lib.byteCells]; omega) (by omega)).mono ?_
              rintro e w4 ⟨rfl, hB4, hb4, _⟩
              go_wp2_with fail
              go_roundw
              case rel => exact ⟨k + 1, _, hlt, by go_num, HTAIL.out w1 [] HBl'.out (HB1.out.mono hsz) HP.out _ (by rw [HF.out, ← cells_quoted]; exact hB4) ((hb3.mono (by omega)).trans hb4)⟩
              case measure => simp [intOf]; omega
          · have hpos : 0 < acc.length := List.length_pos_iff.2 hacc
            have hlb : (Lib.byteCells acc).length = acc.length := byteCells_length acc
            have HP : Hid (acc ++ [32] = (if acc.isEmpty then acc else acc ++ [32])) := by
              rw [if_neg (by simpa using hacc)]; trivial
            clear hacc
            go_wp2_with fail
            refine (bld_WriteByte _ _ _ _ _ HBl.out (by rw [byteCells_length]; omega) (by omega)).mono ?_
            rintro e w2 ⟨rfl, hB2, hb2, hk2⟩
            obtain ⟨p0, p1, p2⟩ := block_cells3 (hk2 _ _ HK1.out (by simp; omega) (by intro c fz e; cases e))
            have HB2 : Hid (Below w.heap.size wr w2) := (HB1.out.mono hsz).trans hb2
            have hz2 : w1.heap.size ≤ w2.heap.size := hb2.size
            have HBl2 : Hid (Bld w.heap.size w.heap.size (Lib.byteCells (acc ++ [32])) w2) := by rw [byteCells_snoc]; exact hB2
            clear hc1 hf1 hk2 hb2 hB2
            cases h4 : (x.kind == 4)
            · have HF : Hid (fmtText x = x.text) := if_neg (by simpa using h4)
              go_wp2_with fail
              refine (bld_WriteString _ _ _ _ _ HBl2.out (by rw [byteCells_length]; simp [ByteArray.size]; omega) (by omega)).mono ?_
              rintro e w4 ⟨rfl, hB4, hb4, _⟩
              go_wp2_with fail
              go_roundw
              case rel => exact ⟨k + 1, _, hlt, by go_num, HTAIL.out w2 _ HBl2.out HB2.out HP.out _ (by rw [HF.out, ← strCells_mk x.text]; exact hB4) hb4⟩
              case measure => simp [intOf]; omega
            · have HF : Hid (fmtText x = [39] ++ dbl x.text ++ [39]) := if_pos (by simpa using h4)
              have HM2 : Hid (MaxLenAt w2) := HML.out.below (HR.out.below.trans HB2.out)
              go_wp2_with fail
              refine (quote_any _ htx _ HM2.out).mono ?_
              rintro e w3 ⟨rfl, hb3⟩
              have HB3 := Lib.hid (bld_below HBl2.out hb3)
              have hz3 := hb3.size
              go_wp2_with fail
              refine (bld_WriteString _ _ _ _ _ HB3.out (by rw [byteCells_length]; simp [ByteArray.size]; omega) (by omega)).mono ?_
              rintro e w4 ⟨rfl, hB4, hb4, _⟩
              go_wp2_with fail
              go_roundw
              case rel => exact ⟨k + 1, _, hlt, by go_num, HTAIL.out w2 _ HBl2.out HB2.out HP.out _ (by rw [HF.out, ← cells_quoted]; exact hB4) ((hb3.mono (by omega)).trans hb4)⟩
              case measure => simp [intOf]; omega
        · have H6 := Lib.hid (show x.kind = 6 by simpa using h6)
          go_wp2_with fail
          go_roundw
          case rel => exact ⟨k + 1, acc, hlt, by go_num, HR.out.next HX.out HV.out (by rw [fmtStep, if_pos H6.out]) HBl.out (HB1.out.mono hsz)⟩
          case measure => simp [intOf]; omega
    · have HV : Hid (fmtL l = acc) := HR.out.end_ (by rw [HL.out]; omega)
      go_wp2_with fail
      refine (bld_String _ _ _ _ HR.out.bld hsz).mono ?_
      rintro e w' ⟨rfl, hw⟩
      go_wp2_with fail
      go_ret
      exact ⟨by rw [HV.out]; rfl, HR.out.below.trans hw⟩

set_option maxHeartbeats 1000000 in
theorem format_any (v : Value) (l : List Tok) (w : World) (hm : l.length ≤ 100000) (hlt : ∀ x ∈ l, x.text.length ≤ 1000000) (hML : MaxLenAt w) (hr : Reads w 3 v l.length (tokCells l)) :
    Calls Tryd.prog 16 #[v] w fun e w' => e = .returned (.string ⟨(fmtL l).toArray⟩) ∧ Below w.heap.size w w' := by
  obtain ⟨_, _, a, c, rfl, hca, hpa⟩ := hr
  rcases Nat.eq_zero_or_pos l.length with h0 | h0
  · have hl : l = [] := List.eq_nil_of_length_eq_zero h0
    subst hl
    clear hpa h0 hm hlt
    go_enter Tryd.func16, Tryd.ntmps16
    go_wp2_with fail
    refine wp_loop_rounds 1 ?_
    rw [rounds_succ]
    go_wp2_with fail
    refine (bld_String w.heap.size _ [] _ (bld_fresh w) (by simp)).mono ?_
    rintro e w' ⟨rfl, hw⟩
    go_wp2_with fail
    go_ret
    exact ⟨rfl, (below_alloc _ _).trans hw⟩
  · obtain ⟨ba, oa, rfl, hca'⟩ := hpa h0
    exact format_pos ba oa c l.length l w h0 hm rfl hlt hML hca'
end Go.Proofs.YtbabencadnlmlaaDoor
