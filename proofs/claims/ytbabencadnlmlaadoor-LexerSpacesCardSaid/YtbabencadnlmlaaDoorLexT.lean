/- The reference's Scan: what it hands back is the plain 'scan'. No condition but the model's own bound on a string's length. -/
import Derived.Test.YtbabencadnlmlaaDoorLexS
import Derived.Test.YtbabencadnlmlaaDoorLexE
namespace Go.Proofs.YtbabencadnlmlaaDoor
open Go.RowKit

theorem ScanRel.space {l : List UInt8} {w : World} {k f : Nat} {acc : List Tok} {v : Value} {wr : World} (h : ScanRel l w k f acc v wr) {c : UInt8} {r : List UInt8} (hd : l.drop k = c :: r) (hs : isSpace c = true) :
    ∃ f', ScanRel l w (k + 1) f' acc v wr := by
  have hlen : (l.drop k).length = l.length - k := List.length_drop
  have hr : l.drop (k + 1) = r := by rw [← List.drop_drop, hd]; rfl
  obtain ⟨f, rfl⟩ : ∃ f', f = f' + 1 := ⟨f - 1, by have := h.fuel; omega⟩
  have h1 : (l.drop k).length = r.length + 1 := by rw [hd]; rfl
  refine ⟨f, by have := h.hi; omega, by rw [hr]; have := h.fuel; omega, ?_, h.own, h.len, h.below⟩
  rw [← h.val, hd, scanF_space _ _ _ _ _ hs, hr]

set_option maxHeartbeats 1000000 in
theorem rscan_long (s : ByteArray) (hs : 4000 < s.size) (hm : s.size ≤ maxLen) (w : World) :
    Calls Tryd.prog 11 #[.string s] w (ScanPost (scan s.data.toList) w) := by
  have H : Hid (scan s.data.toList = ⟨[], 0, 4⟩) := by rw [scan, if_pos (by rw [ba_len]; exact hs)]; trivial
  unfold maxLen at hm
  go_enter Tryd.func11, Tryd.ntmps11
  go_wp2_with fail
  go_ret3
  exact ScanPost.mk H.out (World.ownsRow_nil _ _ _ _) (Below.refl _ _)

set_option maxHeartbeats 2000000 in
theorem rscan_fits (s : ByteArray) (hs : s.size ≤ 4000) (w : World) :
    Calls Tryd.prog 11 #[.string s] w (ScanPost (scan s.data.toList) w) := by
  have h0 : Hid (scanF (s.data.toList.length + 1) (s.data.toList.drop 0) 0 [] = scan s.data.toList) := by rw [scan, if_neg (by rw [ba_len]; omega)]; rfl
  obtain ⟨i0, hi, hz0, hz1, hz2⟩ := info_parts info_tok
  go_enter Tryd.func11, Tryd.ntmps11
  go_wp2_with fail
  go_loopw [5, 6] (fun v i wr => ∃ (k f : Nat) (acc : List Tok), i = .int .i64 k ∧ ScanRel s.data.toList w k f acc v wr) (fun _ i _ => s.size - (intOf i).toNat)
  case atStart =>
    exact ⟨0, s.data.toList.length + 1, [], rfl, ⟨Nat.zero_le _, by simp, h0.out, World.ownsRow_nil _ _ _ _, by simp, Below.refl _ _⟩⟩
  case round =>
    obtain ⟨k, f, acc, rfl, hR⟩ := hrel
    have hhi := hR.hi
    rw [ba_len] at hhi
    have hsz := hR.below.size
    have hlen := hR.len
    obtain ⟨va, vc, rfl⟩ := own_shape hR.own
    have HR := Lib.hid hR
    clear hR
    by_cases hlt : k < s.size
    · have HD := Lib.hid (drop_cons s k hlt)
      have HN := Lib.hid (extent_any s (by omega) k hlt)
      cases hC : isSpace s[k]
      · have HC := Lib.hid hC
        rcases hL : lexTok (s.data.toList.drop k) with ⟨kk, t, n⟩ | _ | _
        · have HL := Lib.hid hL
          rw [hL] at HN
          have hn := lexTok_len _ _ _ _ hL
          have hv := lexTok_valid _ _ _ _ hL
          rw [List.length_drop, ba_len] at hn
          clear hL
          obtain ⟨hn1, hn2, hn3⟩ := hn
          obtain ⟨hv1, hv2, hv3⟩ := hv
          have HV := Lib.hid hv1
          clear hv1
          have hk0 : ((kk : Int) == 0) = false := by rw [beq_eq_false_iff_ne]; omega
          have hts : (ByteArray.mk t.toArray).size ≤ maxLen := by
            have : (ByteArray.mk t.toArray).size = t.length := by simp [ByteArray.size]
            unfold maxLen; omega
          by_cases hsh : shortT kk t.length = true
          · have hval : validT kk t = true := by rw [HV.out]; exact hsh
            by_cases hroom : acc.length < 1000
            · have hge : decide ((1000 : Int) ≤ (acc.length : Int)) = false := by simp; omega
              go_wp2_with (go_at_call 22; refine (white_any.ret _ _).mono ?_; rintro e w' ⟨rfl, rfl⟩)
              refine (HN.out _).mono ?_
              rintro e w1 ⟨rfl, hb1⟩
              have hz1' : w.heap.size ≤ w1.heap.size := by have := hb1.size; omega
              go_wp2_with fail
              refine (rvalid_any _ _ _ hts _).mono ?_
              rintro e w2 ⟨rfl, hb2⟩
              obtain ⟨hc2, hf2⟩ := bcell hb2
              have hz2' : w1.heap.size + 1 ≤ w2.heap.size := by have := hb2.size; simp at this; omega
              have HB : Hid (Below wr.heap.size wr w2) := hb1.trans ((below_alloc2' hb2).mono (by have := hb1.size; omega))
              have HO := Lib.hid (own_below HR.out.own HB.out)
              clear hb1 hb2
              go_wp2_with (at_builtin; refine wpList_append_lit rfl _ _ 23 rfl w.heap.size 35 (.agg #[.int .i64 0, .int .i64 0, .string ⟨#[]⟩]) 3 32 Tryd.underlying23 hi hz0 hz1 hz2 rfl (by decide) _ _ _ rfl HO.out 1 #[.int .i64 kk, .int .i64 k, .string ⟨t.toArray⟩] rfl rfl (by simp [Value.oneCell']) (by unfold maxLen; omega) (by omega) (by omega) ?_; intro v' w' hown' hbel _)
              go_roundw
              case rel =>
                obtain ⟨f', hR'⟩ := HR.out.next HD.out HC.out HL.out hsh hroom hown' ((HB.out.mono hsz).trans hbel)
                exact ⟨k + n, f', _, by simp, hR'⟩
              case measure => simp [intOf]; omega
            · have hge : decide ((1000 : Int) ≤ (acc.length : Int)) = true := by simp; omega
              have HX : Hid (scan s.data.toList = ⟨[], k, 4⟩) := (HR.out.stop HD.out HC.out).2.2 _ _ _ HL.out (.inr hroom)
              go_wp2_with (go_at_call 22; refine (white_any.ret _ _).mono ?_; rintro e w' ⟨rfl, rfl⟩)
              refine (HN.out _).mono ?_
              rintro e w1 ⟨rfl, hb1⟩
              go_wp2_with fail
              refine (rvalid_any _ _ _ hts _).mono ?_
              rintro e w2 ⟨rfl, hb2⟩
              have HB : Hid (Below wr.heap.size wr w2) := hb1.trans ((below_alloc2' hb2).mono (by have := hb1.size; omega))
              go_wp2_with fail
              go_ret3
              exact ScanPost.mk HX.out (World.ownsRow_nil _ _ _ _) (HR.out.below.trans (HB.out.mono hsz))
          · have hsh' : shortT kk t.length = false := by simpa using hsh
            have hval : validT kk t = false := by rw [HV.out]; exact hsh'
            have HX : Hid (scan s.data.toList = ⟨[], k, 4⟩) := (HR.out.stop HD.out HC.out).2.2 _ _ _ HL.out (.inl hsh')
            clear hsh
            go_wp2_with (go_at_call 22; refine (white_any.ret _ _).mono ?_; rintro e w' ⟨rfl, rfl⟩)
            refine (HN.out _).mono ?_
            rintro e w1 ⟨rfl, hb1⟩
            go_wp2_with fail
            refine (rvalid_any _ _ _ hts _).mono ?_
            rintro e w2 ⟨rfl, hb2⟩
            have HB : Hid (Below wr.heap.size wr w2) := hb1.trans ((below_alloc2' hb2).mono (by have := hb1.size; omega))
            go_wp2_with fail
            go_ret3
            exact ScanPost.mk HX.out (World.ownsRow_nil _ _ _ _) (HR.out.below.trans (HB.out.mono hsz))
        · have HX : Hid (scan s.data.toList = ⟨[], k, 2⟩) := (HR.out.stop HD.out HC.out).2.1 hL
          rw [hL] at HN
          clear hL
          go_wp2_with (go_at_call 22; refine (white_any.ret _ _).mono ?_; rintro e w' ⟨rfl, rfl⟩)
          refine (HN.out _).mono ?_
          rintro e w1 ⟨rfl, hb1⟩
          go_wp2_with fail
          go_ret3
          exact ScanPost.mk HX.out (World.ownsRow_nil _ _ _ _) (HR.out.below.trans ((hb1.mono hsz).trans (below_alloc_from _ _ (by have := hb1.size; omega))))
        · have HX : Hid (scan s.data.toList = ⟨[], k, 5⟩) := (HR.out.stop HD.out HC.out).1 hL
          rw [hL] at HN
          clear hL
          go_wp2_with (go_at_call 22; refine (white_any.ret _ _).mono ?_; rintro e w' ⟨rfl, rfl⟩)
          refine (HN.out _).mono ?_
          rintro e w1 ⟨rfl, hb1⟩
          go_wp2_with fail
          go_ret3
          exact ScanPost.mk HX.out (World.ownsRow_nil _ _ _ _) (HR.out.below.trans ((hb1.mono hsz).trans (below_alloc_from _ _ (by have := hb1.size; omega))))
      · have HC := Lib.hid hC
        go_wp2_with (go_at_call 22; refine (white_any.ret _ _).mono ?_; rintro e w' ⟨rfl, rfl⟩)
        go_roundw
        case rel =>
          obtain ⟨f', hR'⟩ := HR.out.space HD.out HC.out
          exact ⟨k + 1, f', _, by go_num, hR'⟩
        case measure => simp [intOf]; omega
    · have HX : Hid (scan s.data.toList = ⟨acc ++ [⟨6, s.size, []⟩], 0, 0⟩) := HR.out.end_ (by rw [ba_len]; omega)
      go_wp2_with (at_builtin; refine wpList_append_lit rfl _ _ 23 rfl w.heap.size 35 (.agg #[.int .i64 0, .int .i64 0, .string ⟨#[]⟩]) 3 32 Tryd.underlying23 hi hz0 hz1 hz2 rfl (by decide) _ _ _ rfl HR.out.own 1 #[.int .i64 6, .int .i64 s.size, .string ⟨#[]⟩] rfl rfl (by simp [Value.oneCell']) (by unfold maxLen; omega) (by omega) (by omega) ?_; intro v' w' hown' hbel _)
      go_ret3
      exact ScanPost.mk HX.out (by rw [tokCells_snoc, List.length_append]; exact hown') (HR.out.below.trans hbel)

theorem rscan_any (s : ByteArray) (hm : s.size ≤ maxLen) (w : World) :
    Calls Tryd.prog 11 #[.string s] w (ScanPost (scan s.data.toList) w) := by
  rcases Nat.lt_or_ge 4000 s.size with h | h
  · exact rscan_long s h hm w
  · exact rscan_fits s h w
end Go.Proofs.YtbabencadnlmlaaDoor
