/- The lexer's Scan: what it hands back is the plain 'scan'. No condition but the model's own bound on a string's length. -/
import Derived.Test.YtbabencadnlmlaaDoorLexN
namespace Go.Proofs.YtbabencadnlmlaaDoor
open Go.RowKit

def tokCells (l : List Tok) : List Value := l.flatMap fun t => [.int .i64 t.kind, .int .i64 t.pos, .string ⟨t.text.toArray⟩]
theorem tokCells_snoc (l : List Tok) (t : Tok) : tokCells (l ++ [t]) = tokCells l ++ [.int .i64 t.kind, .int .i64 t.pos, .string ⟨t.text.toArray⟩] := by simp [tokCells]

/-- What Scan hands back. -/
def ScanPost (R : ScanRes) (w : World) (e : Ending) (w' : World) : Prop :=
  ∃ v, e = .returned (.tuple #[v, .int .i64 R.at_, .int .i64 R.err]) ∧ w'.ownsRow w.heap.size 35 3 v R.toks.length (tokCells R.toks) ∧ Below w.heap.size w w'
theorem ScanPost.mk {R : ScanRes} {w : World} {v : Value} {at_ err : Nat} {toks : List Tok} {w' : World} (h : R = ⟨toks, at_, err⟩) (ho : w'.ownsRow w.heap.size 35 3 v toks.length (tokCells toks)) (hb : Below w.heap.size w w') :
    ScanPost R w (.returned (.tuple #[v, .int .i64 at_, .int .i64 err])) w' := by subst h; exact ⟨v, rfl, ho, hb⟩

structure ScanRel (l : List UInt8) (w : World) (k f : Nat) (acc : List Tok) (v : Value) (wr : World) : Prop where
  hi : k ≤ l.length
  fuel : (l.drop k).length < f
  val : scanF f (l.drop k) k acc = scan l
  own : wr.ownsRow w.heap.size 35 3 v acc.length (tokCells acc)
  len : acc.length ≤ 1000
  below : Below w.heap.size w wr

/-- A token that is kept. -/
theorem ScanRel.next {l : List UInt8} {w : World} {k f : Nat} {acc : List Tok} {v v' : Value} {wr w' : World} (h : ScanRel l w k f acc v wr) {c : UInt8} {r : List UInt8} (hd : l.drop k = c :: r) (hs : isSpace c = false)
    {kk n : Nat} {t : List UInt8} (hR : lexTok (l.drop k) = .tok kk t n) (h1 : shortT kk t.length = true) (h2 : acc.length < 1000)
    (ho : w'.ownsRow w.heap.size 35 3 v' (acc.length + 1) (tokCells acc ++ [.int .i64 kk, .int .i64 k, .string ⟨t.toArray⟩])) (hb : Below w.heap.size wr w') :
    ∃ f', ScanRel l w (k + n) f' (acc ++ [⟨kk, k, t⟩]) v' w' := by
  have hl := lexTok_len _ _ _ _ hR
  have hlen : (l.drop k).length = l.length - k := List.length_drop
  obtain ⟨f, rfl⟩ : ∃ f', f = f' + 1 := ⟨f - 1, by have := h.fuel; omega⟩
  refine ⟨f, by omega, ?_, ?_, by rw [tokCells_snoc, List.length_append]; exact ho, by simp; omega, h.below.trans hb⟩
  · have := h.fuel; rw [List.length_drop] at *; omega
  · rw [← h.val, hd, scanF, if_neg (by simp [hs]), ← hd, hR]
    simp [h1, h2]
theorem ScanRel.end_ {l : List UInt8} {w : World} {k f : Nat} {acc : List Tok} {v : Value} {wr : World} (h : ScanRel l w k f acc v wr) (hk : l.length ≤ k) : scan l = ⟨acc ++ [⟨6, l.length, []⟩], 0, 0⟩ := by
  obtain ⟨f, rfl⟩ : ∃ f', f = f' + 1 := ⟨f - 1, by have := h.fuel; omega⟩
  have := h.hi
  rw [← h.val, List.drop_of_length_le hk, scanF_end, show k = l.length by omega]
theorem ScanRel.stop {l : List UInt8} {w : World} {k f : Nat} {acc : List Tok} {v : Value} {wr : World} (h : ScanRel l w k f acc v wr) {c : UInt8} {r : List UInt8} (hd : l.drop k = c :: r) (hs : isSpace c = false) :
    (lexTok (l.drop k) = .bad → scan l = ⟨[], k, 5⟩) ∧ (lexTok (l.drop k) = .trunc → scan l = ⟨[], k, 2⟩) ∧
    (∀ kk t n, lexTok (l.drop k) = .tok kk t n → (shortT kk t.length = false ∨ ¬ acc.length < 1000) → scan l = ⟨[], k, 4⟩) := by
  obtain ⟨f, rfl⟩ : ∃ f', f = f' + 1 := ⟨f - 1, by have := h.fuel; omega⟩
  have e : scan l = _ := h.val.symm
  rw [hd, scanF, if_neg (by simp [hs]), ← hd] at e
  refine ⟨fun hR => ?_, fun hR => ?_, fun kk t n hR hx => ?_⟩
  · rw [e, hR]
  · rw [e, hR]
  · rw [e, hR]; rcases hx with hx | hx <;> simp [hx]
/-- Over the spaces. -/
theorem ScanRel.spaces {l : List UInt8} {w : World} {k f : Nat} {acc : List Tok} {v : Value} {wr : World} (h : ScanRel l w k f acc v wr) :
    ∃ f', ScanRel l w (k + runLen isSpace (l.drop k)) f' acc v wr := by
  obtain ⟨g, h1, h2⟩ := scanF_run (l.drop k) f k acc h.fuel
  have h3 := runLen_le isSpace (l.drop k)
  rw [List.length_drop] at h3
  have h4 := h.hi
  refine ⟨g, by omega, by rw [List.drop_drop] at h1; exact h1, ?_, h.own, h.len, h.below⟩
  rw [← h.val, h2, List.drop_drop]
theorem spaces_next (l : List UInt8) (k : Nat) : ∀ c r, l.drop (k + runLen isSpace (l.drop k)) = c :: r → isSpace c = false := by
  intro c r h
  rw [← List.drop_drop] at h
  exact drop_runLen_no _ _ c r h

theorem info_tok : (Tryd.prog.info? 35).map (fun i => (i.zero, i.size, i.bytes)) = some (some (.agg #[.int .i64 0, .int .i64 0, .string ⟨#[]⟩]), 3, 32) := by kernel_rfl

set_option maxHeartbeats 1000000 in
theorem scan_long (s : ByteArray) (hs : 4000 < s.size) (hm : s.size ≤ maxLen) (w : World) :
    Calls Tryd.prog 10 #[.string s] w (ScanPost (scan s.data.toList) w) := by
  have H : Hid (scan s.data.toList = ⟨[], 0, 4⟩) := by rw [scan, if_pos (by rw [ba_len]; exact hs)]; trivial
  unfold maxLen at hm
  go_enter Tryd.func10, Tryd.ntmps10
  go_wp2_with fail
  go_ret3
  exact ScanPost.mk H.out (World.ownsRow_nil _ _ _ _) (Below.refl _ _)

set_option maxHeartbeats 2000000 in
theorem scan_fits (s : ByteArray) (hs : s.size ≤ 4000) (w : World) :
    Calls Tryd.prog 10 #[.string s] w (ScanPost (scan s.data.toList) w) := by
  have hs' : s.size ≤ maxLen := by unfold maxLen; omega
  have h0 : Hid (scanF (s.data.toList.length + 1) (s.data.toList.drop 0) 0 [] = scan s.data.toList) := by rw [scan, if_neg (by rw [ba_len]; omega)]; rfl
  obtain ⟨i0, hi, hz0, hz1, hz2⟩ := info_parts info_tok
  go_enter Tryd.func10, Tryd.ntmps10
  go_wp2_with (go_at_call 18; with_reducible refine (run_at _ _ space_any _ hs' _ (by omega) (by omega) _).mono ?_; rintro e w' ⟨rfl, rfl⟩)
  go_loopw [5, 6] (fun v i wr => ∃ (k f : Nat) (acc : List Tok), i = .int .i64 k ∧ ScanRel s.data.toList w k f acc v wr ∧ ∀ c r, s.data.toList.drop k = c :: r → isSpace c = false) (fun _ i _ => s.size - (intOf i).toNat)
  case atStart =>
    have hR : ScanRel s.data.toList w 0 (s.data.toList.length + 1) [] (.slice none 0 0) w := ⟨Nat.zero_le _, by simp, h0.out, World.ownsRow_nil _ _ _ _, by simp, Below.refl _ _⟩
    obtain ⟨f', hR'⟩ := hR.spaces
    exact ⟨_, f', [], by simp, hR', spaces_next _ _⟩
  case round =>
    obtain ⟨k, f, acc, rfl, hR, hsp⟩ := hrel
    have hhi := hR.hi
    rw [ba_len] at hhi
    have hsz := hR.below.size
    have hlen := hR.len
    obtain ⟨va, vc, rfl⟩ := own_shape hR.own
    have HR := Lib.hid hR
    have HSP := Lib.hid hsp
    clear hR hsp
    by_cases hlt : k < s.size
    · have HD := Lib.hid (drop_cons s k hlt)
      have HC : Hid (isSpace s[k] = false) := HSP.out _ _ HD.out
      have HN := Lib.hid (next_any s (by omega) k hlt)
      rcases hL : lexTok (s.data.toList.drop k) with ⟨kk, t, n⟩ | _ | _
      · have HL := Lib.hid hL
        rw [hL] at HN
        have hn := lexTok_len _ _ _ _ hL
        rw [List.length_drop, ba_len] at hn
        clear hL
        obtain ⟨hn1, hn2, hn3⟩ := hn
        have hts : (ByteArray.mk t.toArray).size ≤ maxLen := by
          have : (ByteArray.mk t.toArray).size = t.length := by simp [ByteArray.size]
          unfold maxLen; omega
        by_cases hsh : shortT kk t.length = true
        · by_cases hroom : acc.length < 1000
          · have hge : decide ((1000 : Int) ≤ (acc.length : Int)) = false := by simp; omega
            go_wp2_with fail
            refine (HN.out _).mono ?_
            rintro e w1 ⟨rfl, hb1⟩
            have hz1' : w.heap.size ≤ w1.heap.size := by have := hb1.size; omega
            go_wp2_with fail
            refine (short_any _ _ _ hts _).mono ?_
            rintro e w2 ⟨rfl, hb2⟩
            obtain ⟨hc2, hf2⟩ := bcell hb2
            have hz2' : w1.heap.size + 1 ≤ w2.heap.size := by have := hb2.size; simp at this; omega
            have HB : Hid (Below wr.heap.size wr w2) := hb1.trans ((below_alloc2' hb2).mono (by have := hb1.size; omega))
            have HO := Lib.hid (own_below HR.out.own HB.out)
            clear hb1 hb2
            go_wp2_with (first
              | (at_builtin; refine wpList_append_lit rfl _ _ 23 rfl w.heap.size 35 (.agg #[.int .i64 0, .int .i64 0, .string ⟨#[]⟩]) 3 32 Tryd.underlying23 hi hz0 hz1 hz2 rfl (by decide) _ _ _ rfl HO.out 1 #[.int .i64 kk, .int .i64 k, .string ⟨t.toArray⟩] rfl rfl (by simp [Value.oneCell']) (by unfold maxLen; omega) (by omega) (by omega) ?_; intro v' w' hown' hbel _)
              | (go_at_call 18; with_reducible refine (run_at _ _ space_any _ hs' _ (by omega) (by omega) _).mono ?_; rintro e w' ⟨rfl, rfl⟩))
            go_roundw
            case rel =>
              obtain ⟨f', hR'⟩ := HR.out.next HD.out HC.out HL.out hsh hroom hown' ((HB.out.mono hsz).trans hbel)
              obtain ⟨f'', hR''⟩ := hR'.spaces
              exact ⟨_, f'', _, by rw [show ((k : Int) + (n : Int)).toNat = k + n by omega]; simp, hR'', spaces_next _ _⟩
            case measure => simp [intOf]; omega
          · have hge : decide ((1000 : Int) ≤ (acc.length : Int)) = true := by simp; omega
            have HX : Hid (scan s.data.toList = ⟨[], k, 4⟩) := (HR.out.stop HD.out HC.out).2.2 _ _ _ HL.out (.inr hroom)
            go_wp2_with fail
            refine (HN.out _).mono ?_
            rintro e w1 ⟨rfl, hb1⟩
            go_wp2_with fail
            refine (short_any _ _ _ hts _).mono ?_
            rintro e w2 ⟨rfl, hb2⟩
            have HB : Hid (Below wr.heap.size wr w2) := hb1.trans ((below_alloc2' hb2).mono (by have := hb1.size; omega))
            go_wp2_with fail
            go_ret3
            exact ScanPost.mk HX.out (World.ownsRow_nil _ _ _ _) (HR.out.below.trans (HB.out.mono hsz))
        · have hsh' : shortT kk t.length = false := by simpa using hsh
          have HX : Hid (scan s.data.toList = ⟨[], k, 4⟩) := (HR.out.stop HD.out HC.out).2.2 _ _ _ HL.out (.inl hsh')
          clear hsh
          go_wp2_with fail
          refine (HN.out _).mono ?_
          rintro e w1 ⟨rfl, hb1⟩
          go_wp2_with fail
          refine (short_any _ _ _ hts _).mono ?_
          rintro e w2 ⟨rfl, hb2⟩
          have HB : Hid (Below wr.heap.size wr w2) := hb1.trans ((below_alloc2' hb2).mono (by have := hb1.size; omega))
          go_wp2_with fail
          go_ret3
          exact ScanPost.mk HX.out (World.ownsRow_nil _ _ _ _) (HR.out.below.trans (HB.out.mono hsz))
      · have HX : Hid (scan s.data.toList = ⟨[], k, 2⟩) := (HR.out.stop HD.out HC.out).2.1 hL
        rw [hL] at HN
        clear hL
        go_wp2_with fail
        refine (HN.out _).mono ?_
        rintro e w1 ⟨rfl, hb1⟩
        go_wp2_with fail
        go_ret3
        exact ScanPost.mk HX.out (World.ownsRow_nil _ _ _ _) (HR.out.below.trans ((hb1.mono hsz).trans (below_alloc_from _ _ (by have := hb1.size; omega))))
      · have HX : Hid (scan s.data.toList = ⟨[], k, 5⟩) := (HR.out.stop HD.out HC.out).1 hL
        rw [hL] at HN
        clear hL
        go_wp2_with fail
        refine (HN.out _).mono ?_
        rintro e w1 ⟨rfl, hb1⟩
        go_wp2_with fail
        go_ret3
        exact ScanPost.mk HX.out (World.ownsRow_nil _ _ _ _) (HR.out.below.trans ((hb1.mono hsz).trans (below_alloc_from _ _ (by have := hb1.size; omega))))
    · have HX : Hid (scan s.data.toList = ⟨acc ++ [⟨6, s.size, []⟩], 0, 0⟩) := HR.out.end_ (by rw [ba_len]; omega)
      go_wp2_with (at_builtin; refine wpList_append_lit rfl _ _ 23 rfl w.heap.size 35 (.agg #[.int .i64 0, .int .i64 0, .string ⟨#[]⟩]) 3 32 Tryd.underlying23 hi hz0 hz1 hz2 rfl (by decide) _ _ _ rfl HR.out.own 1 #[.int .i64 6, .int .i64 s.size, .string ⟨#[]⟩] rfl rfl (by simp [Value.oneCell']) (by unfold maxLen; omega) (by omega) (by omega) ?_; intro v' w' hown' hbel _)
      go_ret3
      exact ScanPost.mk HX.out (by rw [tokCells_snoc, List.length_append]; exact hown') (HR.out.below.trans hbel)

theorem scan_any (s : ByteArray) (hm : s.size ≤ maxLen) (w : World) :
    Calls Tryd.prog 10 #[.string s] w (ScanPost (scan s.data.toList) w) := by
  rcases Nat.lt_or_ge 4000 s.size with h | h
  · exact scan_long s h hm w
  · exact scan_fits s h w
end Go.Proofs.YtbabencadnlmlaaDoor
