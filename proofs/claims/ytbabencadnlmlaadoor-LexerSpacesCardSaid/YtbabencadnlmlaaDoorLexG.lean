/- The reference's FormatTokens: what it hands back is the plain 'fmtL'. Condition: moderately many tokens with moderate texts. -/
import Derived.Test.YtbabencadnlmlaaDoorLexF
import Derived.Lib.AppendStr
namespace Go.Proofs.YtbabencadnlmlaaDoor
open Go.RowKit

structure FtRel (l : List Tok) (w : World) (k : Nat) (acc : List UInt8) (v : Value) (wr : World) : Prop where
  val : acc = (l.take k).foldl fmtStep []
  ok : (l.take k).all okT = true
  own : wr.ownsRow w.heap.size 5 1 v acc.length (Lib.byteCells acc)
  len : acc.length ≤ k * 403
  below : Below w.heap.size w wr
theorem FtRel.next {l : List Tok} {w : World} {k : Nat} {acc acc' : List UInt8} {v v' : Value} {wr w' : World} (h : FtRel l w k acc v wr) {x : Tok} (hx : l[k]? = some x) (hv : okT x = true) (ha : acc' = fmtStep acc x)
    (ho : w'.ownsRow w.heap.size 5 1 v' acc'.length (Lib.byteCells acc')) (hw : Below w.heap.size w w') : FtRel l w (k + 1) acc' v' w' := by
  subst ha
  refine ⟨?_, ?_, ho, ?_, hw⟩
  · rw [take_get hx, List.foldl_append, ← h.val]; rfl
  · rw [take_get hx, List.all_append, h.ok]; simp [hv]
  · have := fmtStep_len acc x hv; have := h.len; rw [Nat.add_mul]; omega
theorem FtRel.bad {l : List Tok} {w : World} {k : Nat} {acc : List UInt8} {v : Value} {wr : World} (_h : FtRel l w k acc v wr) {x : Tok} (hx : l[k]? = some x) (hv : okT x = false) : fmtL l = [] := by
  have : l.all okT = false := by
    rw [List.all_eq_false]
    exact ⟨x, List.mem_of_getElem? hx, by simp [hv]⟩
  unfold fmtL
  rw [if_neg]
  intro e; rw [show (fun t : Tok => validT t.kind t.text) = okT from rfl, this] at e; cases e
theorem FtRel.end_ {l : List Tok} {w : World} {k : Nat} {acc : List UInt8} {v : Value} {wr : World} (h : FtRel l w k acc v wr) (hk : l.length ≤ k) : fmtL l = acc := by
  have h1 := h.ok
  have h2 := h.val
  rw [List.take_of_length_le hk] at h1 h2
  unfold fmtL
  rw [show (fun t : Tok => validT t.kind t.text) = okT from rfl, if_pos h1, h2]
theorem own_bytes {w : World} {B : Nat} {v : Value} {l : List UInt8} {c : UInt8} (h : w.ownsRow B 5 1 v (l.length + 1) (Lib.byteCells l ++ [.int .u8 c.toNat])) : w.ownsRow B 5 1 v (l ++ [c]).length (Lib.byteCells (l ++ [c])) := by
  rw [byteCells_snoc, List.length_append]; exact h
theorem dbl_take_quote (s : ByteArray) (j : Nat) (h : j < s.size) (hc : s[j].toNat = 39) : dbl (s.data.toList.take (j + 1)) = dbl (s.data.toList.take j) ++ [39] ++ [39] := by
  have : s.data.toList[j]? = some s[j] := by rw [List.getElem?_eq_getElem (by rw [ba_len]; exact h)]; rfl
  rw [take_get this, dbl_append, byte_39 _ hc]; simp [dbl]
theorem dbl_take_plain (s : ByteArray) (j : Nat) (h : j < s.size) (hc : s[j].toNat ≠ 39) : dbl (s.data.toList.take (j + 1)) = dbl (s.data.toList.take j) ++ [s[j]] := by
  have : s.data.toList[j]? = some s[j] := by rw [List.getElem?_eq_getElem (by rw [ba_len]; exact h)]; rfl
  rw [take_get this, dbl_append]; simp [dbl]; intro e; exact hc (by rw [e]; rfl)
theorem ba_mk_size (l : List UInt8) : (ByteArray.mk l.toArray).size = l.length := by simp [ByteArray.size]

set_option maxRecDepth 100000 in
set_option maxHeartbeats 4000000 in
theorem formatTokens_pos (ba oa ca n : Nat) (l : List Tok) (w : World) (hn : 0 < n) (hm : n ≤ 100000) (hla : l.length = n) (hlt : ∀ x ∈ l, x.text.length ≤ 1000000)
    (ha : ∀ j u, (tokCells l)[j]? = some u → w.cell? ⟨ba, oa + j, none⟩ = some u) :
    Calls Tryd.prog 17 #[.slice (some ⟨ba, oa, none⟩) n ca] w fun e w' => e = .returned (.string ⟨(fmtL l).toArray⟩) ∧ Below w.heap.size w w' := by
  have HA := Lib.hid ha
  have HL := Lib.hid hla
  have HT := Lib.hid hlt
  clear ha hla hlt
  obtain ⟨i0, hi, hj0, hj1, hj2⟩ := info_parts info_u8
  go_enter Tryd.func17, Tryd.ntmps17
  go_wp2_with fail
  go_loopw [3, 4] (fun v i wr => ∃ (k : Nat) (acc : List UInt8), k ≤ n ∧ i = .int .i64 k ∧ FtRel l w k acc v wr) (fun _ i _ => n - (intOf i).toNat)
  case atStart => exact ⟨0, [], Nat.zero_le _, rfl, ⟨rfl, rfl, World.ownsRow_nil _ _ _ _, by simp, Below.refl _ _⟩⟩
  case round =>
    obtain ⟨k, acc, hk, rfl, hR⟩ := hrel
    have hsz := hR.below.size
    have hlen := hR.len
    obtain ⟨va, vc, rfl⟩ := own_shape hR.own
    have HR := Lib.hid hR
    clear hR
    by_cases hlt : k < n
    · obtain ⟨x, hxk⟩ := lget_some l k (by rw [HL.out]; exact hlt)
      have hx := tokCells_at l k x hxk
      have HX := Lib.hid hxk
      have htx : x.text.length ≤ 1000000 := HT.out x (List.mem_of_getElem? hxk)
      have hts : (ByteArray.mk x.text.toArray).size ≤ maxLen := by rw [ba_mk_size]; unfold maxLen; omega
      have hk403 : k * 403 ≤ 40300000 := by omega
      have HQ : Hid (∀ W, Below w.heap.size w W → W.cell? ⟨ba, oa + k * 3, none⟩ = some (.int .i64 x.kind) ∧ W.cell? ⟨ba, oa + k * 3 + 1, none⟩ = some (.int .i64 x.pos) ∧ W.cell? ⟨ba, oa + k * 3 + 2, none⟩ = some (.string ⟨x.text.toArray⟩)) := by
        intro W hW
        have q0 := HA.out _ _ hx.1
        have q1 := HA.out _ _ hx.2.1
        have q2 := HA.out _ _ hx.2.2
        exact ⟨(hW.cell (World.block_lt_of_cell? w _ q0)).trans q0, (hW.cell (World.block_lt_of_cell? w _ q1)).trans q1, (hW.cell (World.block_lt_of_cell? w _ q2)).trans q2⟩
      obtain ⟨a0, a1, a2⟩ := HQ.out wr HR.out.below
      clear hx hxk
      cases hv : okT x
      · have HV : Hid (fmtL l = []) := HR.out.bad HX.out hv
        have hv' : validT x.kind x.text = false := hv
        clear hv
        go_wp2_with fail
        refine (rvalid_any _ _ _ hts _).mono ?_
        rintro e w1 ⟨rfl, hb1⟩
        go_wp2_with fail
        go_ret
        exact ⟨by rw [HV.out]; rfl, HR.out.below.trans (hb1.mono hsz)⟩
      · have hv' : validT x.kind x.text = true := hv
        have HV := Lib.hid hv
        clear hv
        go_wp2_with fail
        refine (rvalid_any _ _ _ hts _).mono ?_
        rintro e w1 ⟨rfl, hb1⟩
        have HB1 : Hid (Below w.heap.size w w1) := HR.out.below.trans (hb1.mono hsz)
        have HO1 := Lib.hid (own_below HR.out.own hb1)
        have hz1 : w.heap.size ≤ w1.heap.size := HB1.out.size
        clear a0 a1 a2 hb1
        obtain ⟨a0, a1, a2⟩ := HQ.out w1 HB1.out
        cases h6 : (x.kind == 6)
        · have H6 := Lib.hid (show x.kind ≠ 6 by simpa using h6)
          cases h4 : (x.kind != 4)
          · have HF := Lib.hid (show fmtText x = [39] ++ dbl x.text ++ [39] from if_pos (by simpa using h4))
            obtain ⟨pre, HPre⟩ : ∃ pre, Hid (pre = (if acc.isEmpty then acc else acc ++ [32])) := ⟨_, Lib.hid rfl⟩
            by_cases hacc : acc = []
            focus
              have H0 := Lib.hid hacc
              have hl0 : acc.length ≤ 0 := by rw [hacc]; simp
              clear hacc
              have hpre : pre = acc := by rw [HPre.out, H0.out]; rfl
              have hpl : pre.length ≤ 40300001 := by rw [hpre]; omega
              have HO2 : Hid (w1.ownsRow w.heap.size 5 1 (.slice va acc.length vc) acc.length (Lib.byteCells pre)) := by rw [hpre]; exact HO1.out
              have HPL := Lib.hid (congrArg List.length hpre)
              clear hpre
              go_wp2_with (at_builtin; refine wpList_append_lit rfl (.tmp 43) (.tmp 44) 39 rfl w.heap.size 5 (.int .u8 0) 1 1 Tryd.underlying39 hi hj0 hj1 hj2 rfl (by decide) _ _ _ rfl HO2.out 1 #[.int .u8 39] rfl rfl (by simp [Value.oneCell']) (by unfold maxLen; omega) (by omega) (by omega) ?_; intro v2 w2 hown2 hbel2 _)
              rw [← HPL.out] at hown2
              have HW2 : Hid (Below w.heap.size w w2) := HB1.out.trans hbel2
              have HO3 := Lib.hid (own_bytes (c := 39) hown2)
              clear HO2 HPL hl0 H0 hbel2 hown2
            rotate_left
            focus
              have hl0 : 0 < acc.length := List.length_pos_iff.2 hacc
              have hpre : pre = acc ++ [32] := by rw [HPre.out, if_neg (by simpa using hacc)]
              have hpl : pre.length ≤ 40300001 := by rw [hpre]; simp; omega
              have HPr := Lib.hid hpre
              clear hacc hpre
              go_wp2_with (first
                | (at_builtin; refine wpList_append_lit rfl (.tmp 27) (.tmp 28) 39 rfl w.heap.size 5 (.int .u8 0) 1 1 Tryd.underlying39 hi hj0 hj1 hj2 rfl (by decide) _ _ _ rfl HO1.out 1 #[.int .u8 32] rfl rfl (by simp [Value.oneCell']) (by unfold maxLen; omega) (by omega) (by omega) ?_; intro v3 w3 hown3 hbel3 _; have HO3 := Lib.hid (own_bytes (c := 32) hown3); have HW3 : Hid (Below w.heap.size w w3) := HB1.out.trans hbel3; have hz3 : w.heap.size ≤ w3.heap.size := HW3.out.size; obtain ⟨a0, a1, a2⟩ := HQ.out w3 HW3.out; rw [← HPr.out] at HO3; clear hown3 hbel3)
                | (at_builtin; refine wpList_append_lit rfl (.tmp 43) (.tmp 44) 39 rfl w.heap.size 5 (.int .u8 0) 1 1 Tryd.underlying39 hi hj0 hj1 hj2 rfl (by decide) _ _ _ rfl HO3.out 1 #[.int .u8 39] rfl rfl (by simp [Value.oneCell']) (by unfold maxLen; omega) (by omega) (by omega) ?_; intro v2 w2 hown2 hbel2 _))
              have HW2 : Hid (Below w.heap.size w w2) := HW3.out.trans hbel2
              have HO3 := Lib.hid (own_bytes (c := 39) hown2)
              clear hbel2 hown2 HPr hl0
            all_goals
              clear a0 a1 a2
              have hz2 : w.heap.size ≤ w2.heap.size := HW2.out.size
              obtain ⟨s, hs⟩ : ∃ s : ByteArray, s = ⟨x.text.toArray⟩ := ⟨_, rfl⟩
              have hss : s.size = x.text.length := by rw [hs, ba_mk_size]
              have HS := Lib.hid hs
              have hsz3 : s.size ≤ 1000000 := by omega
              have HQ' : Hid (∀ W, Below w.heap.size w W → W.cell? ⟨ba, oa + k * 3, none⟩ = some (.int .i64 x.kind) ∧ W.cell? ⟨ba, oa + k * 3 + 1, none⟩ = some (.int .i64 x.pos) ∧ W.cell? ⟨ba, oa + k * 3 + 2, none⟩ = some (.string s)) := by rw [hs]; exact HQ.out
              clear hs hss
              go_loopw [3, 5] (fun v j wr2 => ∃ q : Nat, q ≤ s.size ∧ j = .int .i64 q ∧ wr2.ownsRow w.heap.size 5 1 v (pre ++ [39] ++ dbl (s.data.toList.take q)).length (Lib.byteCells (pre ++ [39] ++ dbl (s.data.toList.take q))) ∧ Below w.heap.size w wr2) (fun _ j _ => s.size - (intOf j).toNat)
              case atStart => exact ⟨0, Nat.zero_le _, rfl, by simpa [dbl] using HO3.out, HW2.out⟩
              case round =>
                obtain ⟨q, hq, rfl, hown, hbel⟩ := hrel
                have hz4 := hbel.size
                obtain ⟨a0, a1, a2⟩ := HQ'.out _ hbel
                have HOW := Lib.hid hown
                have HBE := Lib.hid hbel
                clear hown hbel
                have hdl : (pre ++ [39] ++ dbl (s.data.toList.take q)).length ≤ 50000000 := by
                  have := (dbl_length (s.data.toList.take q)).1
                  have h2 : (s.data.toList.take q).length ≤ q := List.length_take_le _ _
                  simp only [List.length_append, List.length_cons, List.length_nil]; omega
                by_cases hqlt : q < s.size
                · by_cases hc : s[q].toNat = 39
                  · have hc1 : ((s[q].toNat : Int) == 39) = true := by simp [hc]
                    have HC := Lib.hid hc
                    clear hc
                    go_wp2_with (first
                      | (at_builtin; refine wpList_append_lit rfl (.tmp 64) (.tmp 65) 39 rfl w.heap.size 5 (.int .u8 0) 1 1 Tryd.underlying39 hi hj0 hj1 hj2 rfl (by decide) _ _ _ rfl HOW.out 1 #[.int .u8 39] rfl rfl (by simp [Value.oneCell']) (by unfold maxLen; omega) (by omega) (by omega) ?_; intro v4 w4 hown4 hbel4 _; have HO4 := Lib.hid (own_bytes (c := 39) hown4); have HW4 : Hid (Below w.heap.size w w4) := HBE.out.trans hbel4; have hz5 : w.heap.size ≤ w4.heap.size := HW4.out.size; obtain ⟨a0, a1, a2⟩ := HQ'.out w4 HW4.out; have hdl4 : (pre ++ [39] ++ dbl (s.data.toList.take q) ++ [39]).length ≤ 50000001 := (by rw [List.length_append]; simp only [List.length_cons, List.length_nil]; omega); clear hown4 hbel4)
                      | (at_builtin; refine wpList_append_lit rfl (.tmp 67) (.tmp 75) 39 rfl w.heap.size 5 (.int .u8 0) 1 1 Tryd.underlying39 hi hj0 hj1 hj2 rfl (by decide) _ _ _ rfl HO4.out 1 #[.int .u8 s[q].toNat] rfl rfl (by simp [Value.oneCell']) (by unfold maxLen; omega) (by omega) (by omega) ?_; intro v5 w5 hown5 hbel5 _))
                    go_roundw
                    case rel => exact ⟨q + 1, hqlt, by go_num, by rw [dbl_take_quote s q hqlt HC.out, ← List.append_assoc, ← List.append_assoc]; rw [HC.out] at hown5; exact own_bytes (c := 39) hown5, HW4.out.trans hbel5⟩
                    case measure => simp [intOf]; omega
                  · have hc1 : ((s[q].toNat : Int) == 39) = false := by rw [beq_eq_false_iff_ne]; omega
                    have HC := Lib.hid hc
                    clear hc
                    go_wp2_with (at_builtin; refine wpList_append_lit rfl (.tmp 67) (.tmp 75) 39 rfl w.heap.size 5 (.int .u8 0) 1 1 Tryd.underlying39 hi hj0 hj1 hj2 rfl (by decide) _ _ _ rfl HOW.out 1 #[.int .u8 s[q].toNat] rfl rfl (by simp [Value.oneCell']) (by unfold maxLen; omega) (by omega) (by omega) ?_; intro v5 w5 hown5 hbel5 _)
                    go_roundw
                    case rel => exact ⟨q + 1, hqlt, by go_num, by rw [dbl_take_plain s q hqlt HC.out, ← List.append_assoc]; exact own_bytes hown5, HBE.out.trans hbel5⟩
                    case measure => simp [intOf]; omega
                · have HT2 : Hid (s.data.toList.take q = x.text) := by
                    show _ = _
                    rw [List.take_of_length_le (by rw [ba_len]; omega), HS.out]
                  go_wp2_with (at_builtin; refine wpList_append_lit rfl (.tmp 77) (.tmp 78) 39 rfl w.heap.size 5 (.int .u8 0) 1 1 Tryd.underlying39 hi hj0 hj1 hj2 rfl (by decide) _ _ _ rfl HOW.out 1 #[.int .u8 39] rfl rfl (by simp [Value.oneCell']) (by unfold maxLen; omega) (by omega) (by omega) ?_; intro v5 w5 hown5 hbel5 _)
                  go_roundw
                  case rel =>
                    refine ⟨k + 1, _, hlt, by go_num, HR.out.next HX.out HV.out (acc' := pre ++ [39] ++ dbl x.text ++ [39]) ?_ ?_ (HBE.out.trans hbel5)⟩
                    · rw [fmtStep, if_neg H6.out, ← HPre.out, HF.out]; simp
                    · rw [HT2.out] at hown5; exact own_bytes (c := 39) hown5
                  case measure => simp [intOf]; omega
          · have HF := Lib.hid (show fmtText x = x.text from if_neg (by simpa using h4))
            have hxs : (ByteArray.mk x.text.toArray).size = x.text.length := ba_mk_size _
            by_cases hacc : acc = []
            · have hl0 : acc.length ≤ 0 := by rw [hacc]; simp
              have H0 := Lib.hid hacc
              clear hacc
              go_wp2_with (at_builtin; refine Lib.wpList_append_own_string _ rfl (.tmp 36) (.tmp 41) 39 9 rfl w.heap.size 5 i0 Tryd.underlying39 Tryd.underlying9 hi hj0 hj1 hj2 _ _ _ rfl HO1.out _ rfl (by rw [ba_mk_size]; unfold maxLen; omega) (by rw [ba_mk_size]; omega) (by omega) ?_; intro v5 w5 hown5 hg5 _)
              have HW5 : Hid (Below w.heap.size w w5) := HB1.out.grown hg5 hz1 (fun k hk => (HO1.out.lt k hk).1)
              go_roundw
              case rel =>
                refine ⟨k + 1, _, hlt, by go_num, HR.out.next HX.out HV.out (acc' := x.text) ?_ ?_ HW5.out⟩
                · rw [fmtStep, if_neg H6.out, H0.out, HF.out]; simp
                · have h := hown5; rw [strCells_mk, ba_mk_size, H0.out] at h; simpa [Lib.byteCells] using h
              case measure => simp [intOf]; omega
            · have hl0 : 0 < acc.length := List.length_pos_iff.2 hacc
              have HP := Lib.hid (show (if acc.isEmpty then acc else acc ++ [32]) = acc ++ [32] from if_neg (by simpa using hacc))
              clear hacc
              go_wp2_with (first
                | (at_builtin; refine wpList_append_lit rfl (.tmp 27) (.tmp 28) 39 rfl w.heap.size 5 (.int .u8 0) 1 1 Tryd.underlying39 hi hj0 hj1 hj2 rfl (by decide) _ _ _ rfl HO1.out 1 #[.int .u8 32] rfl rfl (by simp [Value.oneCell']) (by unfold maxLen; omega) (by omega) (by omega) ?_; intro v3 w3 hown3 hbel3 _; have HO3 := Lib.hid (own_bytes (c := 32) hown3); have HW3 : Hid (Below w.heap.size w w3) := HB1.out.trans hbel3; have hz3 : w.heap.size ≤ w3.heap.size := HW3.out.size; obtain ⟨a0, a1, a2⟩ := HQ.out w3 HW3.out; have hl3 : (acc ++ [32]).length ≤ 40300001 := (by rw [List.length_append]; simp only [List.length_cons, List.length_nil]; omega); clear hown3 hbel3)
                | (at_builtin; refine Lib.wpList_append_own_string _ rfl (.tmp 36) (.tmp 41) 39 9 rfl w.heap.size 5 i0 Tryd.underlying39 Tryd.underlying9 hi hj0 hj1 hj2 _ _ _ rfl HO3.out _ rfl (by rw [ba_mk_size]; unfold maxLen; omega) (by rw [ba_mk_size]; omega) (by omega) ?_; intro v5 w5 hown5 hg5 _))
              have HW5 : Hid (Below w.heap.size w w5) := HW3.out.grown hg5 hz3 (fun k hk => (HO3.out.lt k hk).1)
              go_roundw
              case rel =>
                refine ⟨k + 1, _, hlt, by go_num, HR.out.next HX.out HV.out (acc' := acc ++ [32] ++ x.text) ?_ ?_ HW5.out⟩
                · rw [fmtStep, if_neg H6.out, HP.out, HF.out]
                · have h := hown5; rw [strCells_mk, ba_mk_size, ← byteCells_append, ← List.length_append] at h; exact h
              case measure => simp [intOf]; omega
        · have H6 := Lib.hid (show x.kind = 6 by simpa using h6)
          go_wp2_with fail
          go_roundw
          case rel => exact ⟨k + 1, acc, hlt, by go_num, HR.out.next HX.out HV.out (by rw [fmtStep, if_pos H6.out]) HO1.out HB1.out⟩
          case measure => simp [intOf]; omega
    · have HV : Hid (fmtL l = acc) := HR.out.end_ (by rw [HL.out]; omega)
      have hcv : (convert 39 9 (.slice va acc.length vc)).run Tryd.prog wr = .ok (.string ⟨acc.toArray⟩) wr := own_convert HR.out.own
      go_wp2_with fail
      go_ret
      exact ⟨by rw [HV.out]; rfl, HR.out.below⟩

set_option maxHeartbeats 1000000 in
theorem formatTokens_any (v : Value) (l : List Tok) (w : World) (hm : l.length ≤ 100000) (hlt : ∀ x ∈ l, x.text.length ≤ 1000000) (hr : Reads w 3 v l.length (tokCells l)) :
    Calls Tryd.prog 17 #[v] w fun e w' => e = .returned (.string ⟨(fmtL l).toArray⟩) ∧ Below w.heap.size w w' := by
  obtain ⟨_, _, a, c, rfl, hca, hpa⟩ := hr
  rcases Nat.eq_zero_or_pos l.length with h0 | h0
  · have hl : l = [] := List.eq_nil_of_length_eq_zero h0
    subst hl
    clear hpa h0 hm hlt
    have hcv : (convert 39 9 (.slice none 0 0)).run Tryd.prog w = .ok (.string ⟨#[]⟩) w := own_convert (l := []) (B := 0) (World.ownsRow_nil _ _ _ _)
    go_enter Tryd.func17, Tryd.ntmps17
    go_wp2_with fail
    refine wp_loop_rounds 1 ?_
    rw [rounds_succ]
    go_wp2_with fail
    go_ret
    exact ⟨rfl, Below.refl _ _⟩
  · obtain ⟨ba, oa, rfl, hca'⟩ := hpa h0
    exact formatTokens_pos ba oa c l.length l w h0 hm rfl hlt hca'
end Go.Proofs.YtbabencadnlmlaaDoor
