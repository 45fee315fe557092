/- The definition's Parse of a value, whole. No condition beside moderate length. -/
import Derived.Test.YthjgnpicnpfmjaaDoorValK
namespace Go.Proofs.YthjgnpicnpfmjaaDoor
open Go.RowKit

theorem undbl_plain (c : UInt8) (r : List UInt8) (h : c ≠ 39) : undbl (c :: r) = (undbl r).map (c :: ·) := by
  cases r with
  | nil => simp [undbl, h]
  | cons d r => simp [undbl, h]
theorem undbl_pair (r : List UInt8) : undbl (39 :: 39 :: r) = (undbl r).map (39 :: ·) := by simp [undbl]
theorem undbl_bad (r : List UInt8) (h : r.head? ≠ some 39) : undbl (39 :: r) = none := by
  cases r with
  | nil => simp [undbl]
  | cons d r => simp at h; simp [undbl, h]
structure UnqRel (t : ByteArray) (B : Nat) (W0 : World) (k : Nat) (acc : List UInt8) (v : Value) (wr : World) : Prop where
  val : (undbl (t.data.toList.drop k)).map (acc ++ ·) = undbl t.data.toList
  own : Own byteE wr B v acc
  below : Below B W0 wr
  len : acc.length ≤ k
theorem UnqRel.plain {t : ByteArray} {B : Nat} {W0 : World} {k : Nat} {acc : List UInt8} {v v' : Value} {wr w' : World} (h : UnqRel t B W0 k acc v wr) (hk : k < t.size) (hc : t[k] ≠ 39)
    (ho : Own byteE w' B v' (acc ++ [t[k]])) (hb : Below B W0 w') : UnqRel t B W0 (k + 1) (acc ++ [t[k]]) v' w' := by
  refine ⟨?_, ho, hb, by have := h.len; simp; omega⟩
  rw [← h.val, drop_byte t k hk, undbl_plain _ _ hc, Option.map_map]
  congr 1; funext x; simp
theorem UnqRel.pair {t : ByteArray} {B : Nat} {W0 : World} {k : Nat} {acc : List UInt8} {v v' : Value} {wr w' : World} (h : UnqRel t B W0 k acc v wr) (hk : k + 1 < t.size) (hc : t[k] = 39) (hd : t[k + 1] = 39)
    (ho : Own byteE w' B v' (acc ++ [t[k + 1]])) (hb : Below B W0 w') : UnqRel t B W0 (k + 2) (acc ++ [t[k + 1]]) v' w' := by
  refine ⟨?_, ho, hb, by have := h.len; simp; omega⟩
  rw [← h.val, drop_byte t k (by omega), drop_byte t (k + 1) hk, hc, hd, undbl_pair, Option.map_map]
  congr 1; funext x; simp
theorem UnqRel.bad {t : ByteArray} {B : Nat} {W0 : World} {k : Nat} {acc : List UInt8} {v : Value} {wr : World} (h : UnqRel t B W0 k acc v wr) (hk : k < t.size) (hc : t[k] = 39) (hd : ∀ hk1 : k + 1 < t.size, t[k + 1] ≠ 39) : undbl t.data.toList = none := by
  rw [← h.val, drop_byte t k hk, hc, undbl_bad]
  · rfl
  · rcases Nat.lt_or_ge (k + 1) t.size with h1 | h1
    · rw [drop_byte t (k + 1) h1]; simpa using hd h1
    · rw [List.drop_of_length_le (by rw [← Lib.size_eq]; exact h1)]; simp
theorem UnqRel.end_ {t : ByteArray} {B : Nat} {W0 : World} {k : Nat} {acc : List UInt8} {v : Value} {wr : World} (h : UnqRel t B W0 k acc v wr) (hk : t.size ≤ k) : undbl t.data.toList = some acc := by
  rw [← h.val, List.drop_of_length_le (by rw [← Lib.size_eq]; exact hk)]
  simp [undbl]
theorem b39 (c : UInt8) (h : c.toNat = 39) : c = 39 := UInt8.toNat_inj.1 (by rw [h]; rfl)
set_option maxHeartbeats 8000000 in
set_option maxRecDepth 100000 in
theorem rparse_txt (s : ByteArray) (hs : s.size ≤ 100000) (w : World) (h1 : s.data.toList ≠ sNull) (h2 : s.data.toList ≠ sFalse) (h3 : s.data.toList ≠ sTrue) (hf : numForm s.data.toList = false) :
    Calls Tryd.prog 19 #[.string s] w fun e w' => e = .returned (.tuple #[aggG (parseG s.data.toList).1, .int .i64 (parseG s.data.toList).2]) ∧ Below w.heap.size w w' := by
  have t1 : (s.toList == [110, 117, 108, 108]) = false := seq_false (by rw [tl_data]; exact h1)
  have t2 : (s.toList == [102, 97, 108, 115, 101]) = false := seq_false (by rw [tl_data]; exact h2)
  have t3 : (s.toList == [116, 114, 117, 101]) = false := seq_false (by rw [tl_data]; exact h3)
  have HP : Hid (parseG s.data.toList = match unquo s.data.toList with | none => (gnull, 5) | some m => if 200 < m.length then (gnull, 4) else (gtxt m, 0)) := by
    show _ = _
    rw [parseG, if_neg h1, if_neg h2, if_neg h3, if_neg (by rw [hf]; simp)]
    cases unquo s.data.toList <;> rfl
  have HN := Lib.hid (rnumber_any s (by unfold maxLen; omega) (w.alloc (.cells #[.int .i64 0, .int .i64 0, .string ⟨#[]⟩] 23)))
  unfold RNum at HN
  rw [show rnumG s.data.toList = (0, false, false) by rw [rnumG, if_neg (by rw [hf]; simp)]] at HN
  clear h1 h2 h3 hf
  by_cases hsz : s.size < 2
  · have HO : Hid (parseG s.data.toList = (gnull, 5)) := by
      show _ = _
      have hu : unquo s.data.toList = none := by
        unfold unquo
        rw [if_pos (.inl (by rw [← Lib.size_eq]; exact hsz))]
      rw [HP.out, hu]
    clear HP
    go_enter Tryd.func19, Tryd.ntmps19
    go_wp2_with fail
    refine HN.out.mono ?_
    rintro e w1 ⟨rfl, rfl⟩
    go_wp2_with fail
    exact bodyPost_ret (v := .tuple #[aggG gnull, .int .i64 5]) (by simp [aggG, gnull, results, Tryd.results19, go_sem]) rfl ⟨by rw [HO.out], below_alloc _ _⟩
  · obtain ⟨n, hn⟩ : ∃ n : Nat, s.size = n + 2 := ⟨s.size - 2, by omega⟩
    have h0 : 0 < s.size := by omega
    have hl : n + 1 < s.size := by omega
    have HU : Hid (unquo s.data.toList = if s[0].toNat = 39 ∧ s[n + 1].toNat = 39 then undbl (s.extract 1 (n + 1)).data.toList else none) := Lib.hid (unquo_two s n hn)
    have hc1 : ¬ (n : Int) + 2 < 2 := by omega
    by_cases ha : s[0].toNat = 39
    · by_cases hb : s[n + 1].toNat = 39
      · have HV : Hid (unquo s.data.toList = undbl (s.extract 1 (n + 1)).data.toList) := by show _ = _; rw [HU.out, if_pos ⟨ha, hb⟩]
        have HTS : Hid ((s.extract 1 (n + 1)).size ≤ 100000) := by show _ ≤ _; rw [ByteArray.size_extract]; omega
        clear HU
        go_enter Tryd.func19, Tryd.ntmps19
        go_wp2_with fail
        refine HN.out.mono ?_
        rintro e w1 ⟨rfl, rfl⟩
        go_wp2_with fail
        rw [show n + 2 - 1 = n + 1 from rfl]
        generalize s.extract 1 (n + 1) = t at HV HTS ⊢
        have hts : t.size ≤ 100000 := HTS.out
        have HX0 : Hid ((w.alloc (.cells #[.int .i64 0, .int .i64 0, .string ⟨#[]⟩] 23)).heap[w.heap.size]? = some (.cells #[.int .i64 0, .int .i64 0, .string ⟨#[]⟩] 23)) := Lib.hid (heap_alloc_new w _)
        have HB0 := Lib.hid (below_alloc w (.cells #[.int .i64 0, .int .i64 0, .string ⟨#[]⟩] 23))
        have hz0 : (w.alloc (.cells #[.int .i64 0, .int .i64 0, .string ⟨#[]⟩] 23)).heap.size = w.heap.size + 1 := by simp
        have HZ0 := Lib.hid hz0
        clear hz0 HN
        generalize w.alloc (.cells #[.int .i64 0, .int .i64 0, .string ⟨#[]⟩] 23) = w1 at HX0 HB0 HZ0 ⊢
        go_loopw [8, 9] (fun v j wr => ∃ (k : Nat) (acc : List UInt8), k ≤ t.size ∧ j = .int .i64 (k : Int) ∧ Hid (UnqRel t (w.heap.size + 1) w1 k acc v wr)) (fun _ j _ => t.size - (intOf j).toNat)
        case atStart => exact ⟨0, [], Nat.zero_le _, rfl, Lib.hid ⟨by simp, Own.nil _ _ _, Below.refl _ _, by simp⟩⟩
        case round =>
          obtain ⟨k, acc, hk, rfl, HR⟩ := hrel
          obtain ⟨wo, rfl⟩ : ∃ wo : World, wo = wr := ⟨_, rfl⟩
          obtain ⟨oa, oc, rfl⟩ := HR.out.own.shape
          have hal : acc.length ≤ 100000 := by have := HR.out.len; omega
          have HBX : Hid (wo.heap[w.heap.size]? = some (.cells #[.int .i64 0, .int .i64 0, .string ⟨#[]⟩] 23)) := Lib.hid ((HR.out.below.block _ (Nat.lt_succ_self _)).trans HX0.out)
          have HBW : Hid (Below w.heap.size w wo) := Lib.hid (HB0.out.trans (HR.out.below.mono (Nat.le_succ _)))
          have hbz : w.heap.size + 1 ≤ wo.heap.size := by have := HR.out.below.size; have := HZ0.out; omega
          by_cases hlt : k < t.size
          · by_cases hq : t[k].toNat = 39
            · have hq' : ((t[k].toNat : Int) == 39) = true := by rw [beq_iff_eq]; omega
              by_cases hd : ∃ hk1 : k + 1 < t.size, t[k + 1].toNat = 39
              · obtain ⟨hk1, hd⟩ := hd
                have he : ((k : Int) + 1 == (t.size : Int)) = false := by rw [beq_eq_false_iff_ne]; omega
                have hd' : ((t[k + 1].toNat : Int) != 39) = false := by rw [bne_eq_false_iff_eq]; omega
                have HQ := Lib.hid (b39 _ hq)
                have HD := Lib.hid (b39 _ hd)
                clear hq hd
                go_wp2_with (at_builtin; refine wpList_push rfl _ _ 48 rfl byteE Tryd.underlying48 (w.heap.size + 1) (.slice oa acc.length oc) acc rfl HR.out.own [t[k + 1]] #[.int .u8 (t[k + 1].toNat : Int)] (Els.one (byte_is _ _ _)) 1 1 rfl rfl (by decide) (by unfold maxLen; omega) (by show _ * 1 ≤ _; omega) hbz ?_; intro g6 cap6 w6 hP6 hPa6)
                have HR6 := Lib.hid (HR.out.pair hk1 HQ.out HD.out (hP6.own' (n := acc.length + 1) (by simp)) (HR.out.below.trans hP6.below))
                clear hP6 hPa6
                go_roundw
                case rel => exact ⟨k + 2, _, by omega, by go_num, HR6⟩
                case measure => simp [intOf]; omega
              · have HQ := Lib.hid (b39 _ hq)
                have HND : Hid (undbl t.data.toList = none) := HR.out.bad hlt HQ.out (fun hk1 e => hd ⟨hk1, by rw [e]; rfl⟩)
                have HO : Hid (parseG s.data.toList = (gnull, 5)) := by show _ = _; rw [HP.out, HV.out, HND.out]
                obtain ⟨⟨x0, x1, x2⟩, f0, f1, f2⟩ := box_three HBX.out
                have hwz : w.heap.size < wo.heap.size := by omega
                by_cases hk1 : k + 1 < t.size
                · have he : ((k : Int) + 1 == (t.size : Int)) = false := by rw [beq_eq_false_iff_ne]; omega
                  have hd' : ((t[k + 1].toNat : Int) != 39) = true := by rw [bne_iff_ne]; intro e; exact hd ⟨hk1, by omega⟩
                  clear hq hd
                  go_wp2_with fail
                  exact bodyPost_ret (v := .tuple #[aggG gnull, .int .i64 5]) (by simp [aggG, gnull, results, Tryd.results19, go_sem, x0, x1, x2, hwz]) rfl ⟨by rw [HO.out], below_set3v HBW.out (Nat.le_refl _) (Nat.le_refl _) (Nat.le_refl _)⟩
                · have he : ((k : Int) + 1 == (t.size : Int)) = true := by rw [beq_iff_eq]; omega
                  clear hq hd
                  go_wp2_with fail
                  exact bodyPost_ret (v := .tuple #[aggG gnull, .int .i64 5]) (by simp [aggG, gnull, results, Tryd.results19, go_sem, x0, x1, x2, hwz]) rfl ⟨by rw [HO.out], below_set3v HBW.out (Nat.le_refl _) (Nat.le_refl _) (Nat.le_refl _)⟩
            · have hq' : ((t[k].toNat : Int) == 39) = false := by rw [beq_eq_false_iff_ne]; omega
              have HQ : Hid (t[k] ≠ 39) := fun e => hq (by rw [e]; rfl)
              clear hq
              go_wp2_with (at_builtin; refine wpList_push rfl _ _ 48 rfl byteE Tryd.underlying48 (w.heap.size + 1) (.slice oa acc.length oc) acc rfl HR.out.own [t[k]] #[.int .u8 (t[k].toNat : Int)] (Els.one (byte_is _ _ _)) 1 1 rfl rfl (by decide) (by unfold maxLen; omega) (by show _ * 1 ≤ _; omega) hbz ?_; intro g6 cap6 w6 hP6 hPa6)
              have HR6 := Lib.hid (HR.out.plain hlt HQ.out (hP6.own' (n := acc.length + 1) (by simp)) (HR.out.below.trans hP6.below))
              clear hP6 hPa6
              go_roundw
              case rel => exact ⟨k + 1, _, by omega, by go_num, HR6⟩
              case measure => simp [intOf]; omega
          · have HND : Hid (undbl t.data.toList = some acc) := HR.out.end_ (by omega)
            obtain ⟨⟨x0, x1, x2⟩, f0, f1, f2⟩ := box_three HBX.out
            have hwz : w.heap.size < wo.heap.size := by omega
            by_cases h200 : 200 < acc.length
            · have HO : Hid (parseG s.data.toList = (gnull, 4)) := by show _ = _; rw [HP.out, HV.out, HND.out]; simp only; rw [if_pos h200]
              go_wp2_with fail
              exact bodyPost_ret (v := .tuple #[aggG gnull, .int .i64 4]) (by simp [aggG, gnull, results, Tryd.results19, go_sem, x0, x1, x2, hwz]) rfl ⟨by rw [HO.out], below_set3v HBW.out (Nat.le_refl _) (Nat.le_refl _) (Nat.le_refl _)⟩
            · have HO : Hid (parseG s.data.toList = (gtxt acc, 0)) := by show _ = _; rw [HP.out, HV.out, HND.out]; simp only; rw [if_neg h200]
              have hcv := bytes_convert HR.out.own
              go_wp2_with fail
              exact bodyPost_ret (v := .tuple #[aggG (gtxt acc), .int .i64 0]) (by simp [aggG, gtxt, results, Tryd.results19, go_sem, x0, x1, x2, hwz]) rfl ⟨by rw [HO.out], below_set3v HBW.out (Nat.le_refl _) (Nat.le_refl _) (Nat.le_refl _)⟩
      · have HO : Hid (parseG s.data.toList = (gnull, 5)) := by show _ = _; rw [HP.out, HU.out, if_neg (fun h => hb h.2)]
        have hbt : ((s[n + 1].toNat : Int) != 39) = true := by rw [bne_iff_ne]; omega
        clear HP HU
        go_enter Tryd.func19, Tryd.ntmps19
        go_wp2_with fail
        refine HN.out.mono ?_
        rintro e w1 ⟨rfl, rfl⟩
        go_wp2_with fail
        exact bodyPost_ret (v := .tuple #[aggG gnull, .int .i64 5]) (by simp [aggG, gnull, results, Tryd.results19, go_sem]) rfl ⟨by rw [HO.out], below_alloc _ _⟩
    · have HO : Hid (parseG s.data.toList = (gnull, 5)) := by show _ = _; rw [HP.out, HU.out, if_neg (fun h => ha h.1)]
      clear HP HU
      go_enter Tryd.func19, Tryd.ntmps19
      go_wp2_with fail
      refine HN.out.mono ?_
      rintro e w1 ⟨rfl, rfl⟩
      go_wp2_with fail
      exact bodyPost_ret (v := .tuple #[aggG gnull, .int .i64 5]) (by simp [aggG, gnull, results, Tryd.results19, go_sem]) rfl ⟨by rw [HO.out], below_alloc _ _⟩
theorem rparse_any (s : ByteArray) (hs : s.size ≤ 100000) (w : World) :
    Calls Tryd.prog 19 #[.string s] w fun e w' => e = .returned (.tuple #[aggG (parseG s.data.toList).1, .int .i64 (parseG s.data.toList).2]) ∧ Below w.heap.size w w' := by
  by_cases h1 : s.data.toList = sNull
  · exact rparse_const s (.inl h1) w
  · by_cases h2 : s.data.toList = sFalse
    · exact rparse_const s (.inr (.inl h2)) w
    · by_cases h3 : s.data.toList = sTrue
      · exact rparse_const s (.inr (.inr h3)) w
      · cases hf : numForm s.data.toList with
        | true => exact rparse_num s hs w h1 h2 h3 hf
        | false => exact rparse_txt s hs w h1 h2 h3 hf
end Go.Proofs.YthjgnpicnpfmjaaDoor
