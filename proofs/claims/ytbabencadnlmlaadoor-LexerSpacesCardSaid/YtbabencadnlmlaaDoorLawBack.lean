/- The law LexerBack: scanning the formatted tokens of a string gives the same kinds and texts. No condition. -/
import Derived.Test.YtbabencadnlmlaaDoorLexX
import Derived.Test.YtbabencadnlmlaaDoorLaid
import Derived.Test.YtbabencadnlmlaaDoorCards
import Derived.Test.YtbabencadnlmlaaDoorTie
import Derived.Test.YtbabencadnlmlaaDoorLexL
namespace Go.Proofs.YtbabencadnlmlaaDoor
open Go.ChangeShapes Go.WideShapes Go.ChangeAt Go.RowKit
open Go.ChangeMaps (open_string)

theorem good_next (lo : Nat) (ts : List Tok) (e : Tok) (h : Good lo ts) (he : e.kind = 6) : ∀ i x' x, (ts ++ [e])[i]? = some x' → (ts ++ [e])[i + 1]? = some x → x.kind = 6 ∨ x'.pos < x.pos := by
  induction ts generalizing lo with
  | nil => intro i x' x _ h2; simp at h2
  | cons t ts ih =>
    obtain ⟨_, _, _, p, hp, hg⟩ := h
    intro i x' x h1 h2
    cases i with
    | zero =>
      simp at h1 h2
      subst h1
      cases ts with
      | nil => simp at h2; subst h2; exact .inl he
      | cons u us => simp at h2; subst h2; right; have := hg.1; omega
    | succ i => exact ih (p + 1) hg i x' x (by simpa using h1) (by simpa using h2)
theorem good_kinds (lo : Nat) (ts : List Tok) (h : Good lo ts) : ∀ t ∈ ts, (∃ k : Nat, t.kind = k ∧ 1 ≤ k ∧ k ≤ 5) ∧ validT t.kind t.text = true := by
  induction ts generalizing lo with
  | nil => simp
  | cons t ts ih =>
    obtain ⟨_, hk, hv, p, hp, hg⟩ := h
    intro u hu
    rcases List.mem_cons.1 hu with rfl | hu
    · exact ⟨hk, hv⟩
    · exact ih (p + 1) hg u hu
theorem fmtText_ne (t : Tok) (k : Nat) (hk : t.kind = k) (h1 : 1 ≤ k) (h5 : k ≤ 5) (hv : validT t.kind t.text = true) : fmtText t ≠ [] := by
  intro e
  have h := lexTok_fmt t k hk h1 h5 hv [] (by simp)
  rw [e] at h
  cases h
theorem fold_fmt (ts : List Tok) (h : ∀ t ∈ ts, t.kind ≠ 6) : ∀ acc : List UInt8, acc ≠ [] → ts.foldl fmtStep acc = acc ++ render (ts.map fun t => ([32], t)) := by
  induction ts with
  | nil => intro acc _; simp [render]
  | cons t ts ih =>
    intro acc ha
    have h1 : fmtStep acc t = acc ++ [32] ++ fmtText t := by
      rw [fmtStep, if_neg (h t (List.mem_cons_self ..)), if_neg (by simpa using ha)]
    rw [List.foldl_cons, h1, ih (fun t ht => h t (List.mem_cons_of_mem _ ht)) _ (by simp)]
    simp [render]
/-- What is formatted, in pieces. -/
theorem fmtL_render (ts : List Tok) (n : Int) (hg : Good 0 ts) : ∃ ps : List (List UInt8 × Tok), fmtL (ts ++ [⟨6, n, []⟩]) = render ps ∧ ps.map (·.2) = ts ∧
    (∀ x ∈ ps, ∀ c ∈ x.1, isSpace c = true) ∧ (∀ x ∈ ps.drop 1, x.1 ≠ []) := by
  have hk := good_kinds 0 ts hg
  have hne : ∀ t ∈ ts, t.kind ≠ 6 := by
    intro t ht; obtain ⟨⟨k, h1, h2, h3⟩, _⟩ := hk t ht; omega
  have hall : (ts ++ [(⟨6, n, []⟩ : Tok)]).all (fun t => validT t.kind t.text) = true := by
    rw [List.all_eq_true]
    intro t ht
    rcases List.mem_append.1 ht with h | h
    · exact (hk t h).2
    · simp at h; subst h; rfl
  have hf : fmtL (ts ++ [⟨6, n, []⟩]) = ts.foldl fmtStep [] := by
    rw [fmtL, if_pos hall, List.foldl_append]; simp [fmtStep]
  cases ts with
  | nil => exact ⟨[], by rw [hf]; rfl, rfl, by simp, by simp⟩
  | cons t ts =>
    obtain ⟨⟨k, h1, h2, h3⟩, hv⟩ := hk t (List.mem_cons_self ..)
    have hs : fmtStep [] t = fmtText t := by rw [fmtStep, if_neg (hne t (List.mem_cons_self ..))]; simp
    refine ⟨([], t) :: ts.map (fun u => ([32], u)), ?_, by simp [Function.comp_def], ?_, ?_⟩
    · rw [hf, List.foldl_cons, hs, fold_fmt ts (fun u hu => hne u (List.mem_cons_of_mem _ hu)) _ (fmtText_ne t k h1 h2 h3 hv)]
      simp [render]
    · intro x hx c hc
      rcases List.mem_cons.1 hx with rfl | hx
      · simp at hc
      · obtain ⟨u, _, rfl⟩ := List.mem_map.1 hx
        simp at hc; subst hc; rfl
    · intro x hx
      simp at hx
      obtain ⟨u, _, rfl⟩ := hx
      simp
theorem fold_len (l : List Tok) (h : ∀ x ∈ l, okT x = true) : ∀ acc : List UInt8, (l.foldl fmtStep acc).length ≤ acc.length + l.length * 403 := by
  induction l with
  | nil => intro acc; simp
  | cons x l ih =>
    intro acc
    have h1 := ih (fun y hy => h y (List.mem_cons_of_mem _ hy)) (fmtStep acc x)
    have h2 := fmtStep_len acc x (h x (List.mem_cons_self ..))
    rw [List.foldl_cons, List.length_cons, Nat.add_mul]
    omega
theorem fmtL_len (l : List Tok) : (fmtL l).length ≤ l.length * 403 := by
  unfold fmtL
  split
  · rename_i h
    rw [List.all_eq_true] at h
    have := fold_len l h []
    simpa using this
  · simp
/-- Scanned again: the same kinds and texts. -/
theorem scan_back (ts : List Tok) (hg : Good 0 ts) (hl : ts.length ≤ 1000) (ps : List (List UInt8 × Tok)) (wend : List UInt8) (hend : ∀ c ∈ wend, isSpace c = true) (hps : ps.map (·.2) = ts)
    (hws : ∀ x ∈ ps, ∀ c ∈ x.1, isSpace c = true) (hne : ∀ x ∈ ps.drop 1, x.1 ≠ []) (h4 : (render ps ++ wend).length ≤ 4000) :
    ∃ us m, scan (render ps ++ wend) = ⟨us ++ [⟨6, m, []⟩], 0, 0⟩ ∧ us.map kt = ts.map kt ∧ Good 0 us := by
  have hk := good_kinds 0 ts hg
  obtain ⟨us, h1, h2⟩ := scanF_render ps wend hend ((render ps ++ wend).length + 1) 0 []
    (fun x hx => ⟨hws x hx, by
      have := hk x.2 (by rw [← hps]; exact List.mem_map.2 ⟨x, hx, rfl⟩)
      exact this⟩) hne (by omega) (by have : ps.length = ts.length := by rw [← hps, List.length_map]
                                      simp; omega)
  have h3 : scan (render ps ++ wend) = ⟨us ++ [⟨6, ((0 + (render ps ++ wend).length : Nat) : Int), []⟩], 0, 0⟩ := by
    unfold scan; rw [if_neg (by omega), h1]; simp
  refine ⟨us, _, h3, by rw [h2, ← hps, List.map_map]; rfl, ?_⟩
  rcases scan_ok (render ps ++ wend) with ⟨he, _⟩ | ⟨vs, h5, h6, _⟩
  · rw [h3] at he; simp at he
  · rw [h3] at h5
    injection h5 with h5 _
    have := List.append_inj_left' h5 rfl
    rw [this]; exact h6
theorem cast0 : ((0 : Nat) : Int) = 0 := rfl
theorem kt_at {l m : List Tok} (h : l.map kt = m.map kt) (i : Nat) (x y : Tok) (hx : l[i]? = some x) (hy : m[i]? = some y) : x.kind = y.kind ∧ x.text = y.text := by
  have : (l.map kt)[i]? = (m.map kt)[i]? := by rw [h]
  simp [hx, hy, kt] at this
  exact this

set_option maxRecDepth 100000 in
set_option maxHeartbeats 4000000 in
theorem back_walk (v : Value) (l : List Nat) (w : World) (hML : MaxLenAt w) (h : SliceOf w 1 U16Is v l) :
    Calls Tryd.prog 6 #[v] w fun e w' => e = .returned (.bool true) ∧ Below w.heap.size w w' := by
  have HML := Lib.hid hML
  have HS := Lib.hid h
  obtain ⟨s, hs⟩ : ∃ s : ByteArray, s = ⟨(textL l).toArray⟩ := ⟨_, rfl⟩
  have hsz : s.size ≤ maxLen := by rw [hs, ba_mk_size]; have := textL_len l; unfold maxLen; omega
  have HSE := Lib.hid hs
  clear hML h hs
  go_enter Tryd.func6, Tryd.ntmps6
  go_wp2_with fail
  refine (text_any v l w HS.out).mono ?_
  rw [← HSE.out]
  rintro e w0 ⟨rfl, hb0⟩
  have HB0 := Lib.hid hb0
  clear hb0
  go_wp2_with fail
  obtain ⟨R, hRe⟩ : ∃ R, scan s.data.toList = R := ⟨_, rfl⟩
  have hok := scan_ok s.data.toList
  have HE := Lib.hid hRe
  refine (scan_any s hsz _).mono ?_
  rw [HE.out]
  rw [hRe] at hok
  clear hRe
  rintro e w1 ⟨v1, rfl, ho1, hb1⟩
  have HB1 := Lib.hid (HB0.out.trans (hb1.mono HB0.out.size))
  have hrd := own_reads ho1
  have HRD := Lib.hid hrd
  rcases hok with ⟨herr, htoks⟩ | ⟨ts, hR, hg, hlen, _⟩
  · have herr' : ((R.err : Int) != 0) = true := by rw [bne_iff_ne]; omega
    have hz : R.toks.length = 0 := by rw [htoks]; rfl
    obtain ⟨va, vc, rfl⟩ := own_shape ho1
    rw [hz]
    clear htoks herr ho1 hb1 hrd hz
    go_wp2_with fail
    refine (awake_any _ (HML.out.below HB1.out)).mono ?_
    rintro e w3 ⟨rfl, hb3⟩
    go_wp2_with fail
    go_ret
    exact ⟨rfl, HB1.out.trans (hb3.mono HB1.out.size)⟩
  · subst hR
    have HG := Lib.hid hg
    obtain ⟨A, hA⟩ : ∃ A : List Tok, A = ts ++ [⟨6, s.data.toList.length, []⟩] := ⟨_, rfl⟩
    have HA := Lib.hid hA
    have hAl : A.length = ts.length + 1 := by rw [hA]; simp
    obtain ⟨ps, hps1, hps2, hps3, hps4⟩ := fmtL_render ts (s.data.toList.length : Int) hg
    have HP1 := Lib.hid hps1
    have HP2 := Lib.hid hps2
    have HP3 := Lib.hid hps3
    have HP4 := Lib.hid hps4
    obtain ⟨t, ht⟩ : ∃ t : ByteArray, t = ⟨(fmtL A).toArray⟩ := ⟨_, rfl⟩
    have HT := Lib.hid ht
    rw [← hA] at HRD hrd ho1
    have htxt : ∀ x ∈ A, x.text.length ≤ 1000000 := by
      intro x hx
      rw [hA] at hx
      rcases List.mem_append.1 hx with h | h
      · have := validT_len _ _ (good_kinds 0 ts hg x h).2; omega
      · simp at h; subst h; simp
    have hm : A.length ≤ 100000 := by omega
    have hfl := fmtL_len A
    have hA2 : A.length ≤ 1001 := by omega
    have htsz : t.size ≤ maxLen := by rw [ht, ba_mk_size]; unfold maxLen; omega
    have HTX := Lib.hid htxt
    have HM := Lib.hid hm
    rw [← HA.out]
    clear hA htxt hm hps1 hps2 hps3 hps4 ht hg ho1 hb1
    have hn2 : A.length ≤ 2000 := by omega
    have hn1 : 0 < A.length := by omega
    have htsl : ts.length ≤ 1000 := by omega
    have HAL := Lib.hid hAl
    clear hAl hfl hlen
    simp only [cast0]
    obtain ⟨_, _, a, c, rfl, hc, hcl0⟩ := hrd
    obtain ⟨b, o, ha, hcl⟩ := hcl0 (by omega)
    subst ha
    clear hcl0
    have HCL := Lib.hid hcl
    clear hcl
    go_wp2_with fail
    refine (format_any _ A _ HM.out HTX.out (HML.out.below HB1.out) HRD.out).mono ?_
    rw [← HT.out]
    rintro e w2 ⟨rfl, hb2⟩
    have HB2 : Hid (Below w.heap.size w w2) := HB1.out.trans (hb2.mono HB1.out.size)
    have HB12 := Lib.hid hb2
    clear hb2
    by_cases hbig : 4000 < t.size
    · go_wp2_with fail
      refine (awake_any _ (HML.out.below HB2.out)).mono ?_
      rintro e w3 ⟨rfl, hb3⟩
      go_wp2_with fail
      go_ret
      exact ⟨rfl, HB2.out.trans (hb3.mono HB2.out.size)⟩
    · have hbig' : (render ps ++ []).length ≤ 4000 := by
        have h1 := HT.out
        have h2 := HP1.out
        rw [← HA.out] at h2
        rw [h1, ba_mk_size, h2] at hbig
        rw [List.append_nil]; omega
      obtain ⟨us, m, hus1, hus2, hus3⟩ := scan_back ts HG.out htsl ps [] (by simp) HP2.out HP3.out HP4.out hbig'
      have HSC : Hid (scan t.data.toList = ⟨us ++ [⟨6, m, []⟩], 0, 0⟩) := by
        have h2 := HP1.out
        rw [← HA.out] at h2
        show _ = _
        rw [← hus1, HT.out, h2, List.append_nil]
      obtain ⟨B, hB⟩ : ∃ B : List Tok, B = us ++ [⟨6, m, []⟩] := ⟨_, rfl⟩
      have hBl : B.length = A.length := by
        have h1 := congrArg List.length hus2
        rw [List.length_map, List.length_map] at h1
        rw [hB, HAL.out, List.length_append, h1]; rfl
      have HKT : Hid (∀ (i : Nat) (x y : Tok), A[i]? = some x → B[i]? = some y → x.kind = y.kind ∧ x.text = y.text) := by
        intro i x y hx hy
        refine kt_at (l := A) (m := B) ?_ i x y hx hy
        rw [HA.out, hB, List.map_append, List.map_append, hus2]; rfl
      have HGA : Hid (∀ (i : Nat) (x' x : Tok), A[i]? = some x' → A[i + 1]? = some x → x.kind = 6 ∨ x'.pos < x.pos) := by
        rw [HA.out]; exact good_next 0 ts _ HG.out rfl
      have HGB : Hid (∀ (i : Nat) (x' x : Tok), B[i]? = some x' → B[i + 1]? = some x → x.kind = 6 ∨ x'.pos < x.pos) := by
        rw [hB]; exact good_next 0 us _ hus3 rfl
      have HBL := Lib.hid hBl
      have hBn : B.length ≤ 2000 := by omega
      clear hus1 hus2 hus3 hbig' hBl
      go_wp2_with fail
      refine (scan_any t htsz _).mono ?_
      rw [HSC.out, ← hB]
      clear hB
      rintro e w3 ⟨v3, rfl, ho3, hb3⟩
      have HB3 : Hid (Below w.heap.size w w3) := HB2.out.trans (hb3.mono HB2.out.size)
      have hrd3 := own_reads ho3
      simp only [cast0]
      rw [HBL.out] at hrd3
      obtain ⟨_, _, a3, c3, rfl, hc3, hcl3⟩ := hrd3
      obtain ⟨b3, o3, ha3, hcl4⟩ := hcl3 (by omega)
      subst ha3
      have HCB := Lib.hid hcl4
      have HCA : Hid (∀ (j : Nat) (u : Value), (tokCells A)[j]? = some u → w3.cell? ⟨b, o + j, none⟩ = some u) := by
        intro j u hu
        have h1 := HCL.out j u hu
        have hbb : Below w1.heap.size w1 w3 := HB12.out.trans (hb3.mono HB12.out.size)
        exact (hbb.cell (World.block_lt_of_cell? w1 _ h1)).trans h1
      have hneq : ((A.length : Int) != (A.length : Int)) = false := by simp
      clear ho3 hb3 hcl3 hcl4
      go_wp2_with fail
      go_loopw [10] (fun i wr => ∃ k : Nat, k ≤ A.length ∧ i = .int .i64 k ∧ ∃ q, wr = w3.drewN q) (fun i _ => A.length - (intOf i).toNat)
      case atStart => exact ⟨0, Nat.zero_le _, rfl, 0, rfl⟩
      case round =>
        obtain ⟨k, hk, rfl, q, rfl⟩ := hrel
        by_cases hlt : k < A.length
        · obtain ⟨x, hxk⟩ := lget_some A k hlt
          obtain ⟨y, hyk⟩ := lget_some B k (by rw [HBL.out]; exact hlt)
          obtain ⟨hkk, hkt⟩ := HKT.out k x y hxk hyk
          have hx := tokCells_at A k x hxk
          have hy := tokCells_at B k y hyk
          rw [← hkk, ← hkt] at hy
          have a0 : w3.cell? ⟨b, o + k * 3, none⟩ = _ := HCA.out _ _ hx.1
          have a1 : w3.cell? ⟨b, o + k * 3 + 1, none⟩ = _ := HCA.out _ _ hx.2.1
          have a2 : w3.cell? ⟨b, o + k * 3 + 2, none⟩ = _ := HCA.out _ _ hx.2.2
          have b0 : w3.cell? ⟨b3, o3 + k * 3, none⟩ = _ := HCB.out _ _ hy.1
          have b1 : w3.cell? ⟨b3, o3 + k * 3 + 1, none⟩ = _ := HCB.out _ _ hy.2.1
          have b2 : w3.cell? ⟨b3, o3 + k * 3 + 2, none⟩ = _ := HCB.out _ _ hy.2.2
          have hne1 : (x.kind != x.kind) = false := by simp
          clear hx hy hkt
          by_cases hk0 : k = 0
          · subst hk0
            clear hkk hxk hyk
            simp only [Nat.zero_mul, Nat.add_zero] at a0 a1 a2 b0 b1 b2
            simp only [cast0]
            go_wp2_with fail
            go_quiet (fail)
            go_wp2_with fail
            go_roundw
            case rel => exact ⟨1, by omega, by go_num, _, rfl⟩
            case measure => simp [intOf]; omega
          · obtain ⟨m1, hm1⟩ : ∃ m, m + 1 = k := ⟨k - 1, by omega⟩
            have hml1 : m1 < A.length := by omega
            obtain ⟨x', hx'⟩ := lget_some A m1 hml1
            obtain ⟨y', hy'⟩ := lget_some B m1 (by rw [HBL.out]; omega)
            have d1 : w3.cell? ⟨b, o + m1 * 3 + 1, none⟩ = _ := HCA.out _ _ (tokCells_at A m1 x' hx').2.1
            have e1 : w3.cell? ⟨b3, o3 + m1 * 3 + 1, none⟩ = _ := HCB.out _ _ (tokCells_at B m1 y' hy').2.1
            have hga := HGA.out m1 x' x hx' (by rw [hm1]; exact hxk)
            have hgb := HGB.out m1 y' y hy' (by rw [hm1]; exact hyk)
            rw [← hkk] at hgb
            have hdk : decide ((0 : Int) < (k : Int)) = true := by simp; omega
            have hdk2 : decide (0 < k) = true := by simp; omega
            have hkm : (k : Int) - 1 = (m1 : Int) := by omega
            clear hm1
            clear hkk hxk hyk hx' hy' hk0
            by_cases h6 : x.kind = 6
            · have hne6 : (x.kind != 6) = false := by simp [h6]
              have hga1 : decide (x.pos ≤ x'.pos) = true ∨ decide (x.pos ≤ x'.pos) = false := by cases decide (x.pos ≤ x'.pos) <;> simp
              have hgb1 : decide (y.pos ≤ y'.pos) = true ∨ decide (y.pos ≤ y'.pos) = false := by cases decide (y.pos ≤ y'.pos) <;> simp
              clear h6 hga hgb
              go_wp2_with fail
              rcases hga1 with hda | hda <;> rcases hgb1 with hdb | hdb
              all_goals go_quiet (fail)
              all_goals go_wp2_with fail
              all_goals go_roundw
              all_goals first
                | exact ⟨k + 1, by omega, by go_num, _, rfl⟩
                | (simp [intOf]; omega)
            · have hne6 : (x.kind != 6) = true := by simpa using h6
              have hda : decide (x.pos ≤ x'.pos) = false := by simp; exact hga.resolve_left h6
              have hdb : decide (y.pos ≤ y'.pos) = false := by simp; exact hgb.resolve_left h6
              clear h6 hga hgb
              go_wp2_with fail
              go_quiet (fail)
              go_wp2_with fail
              go_roundw
              case rel => exact ⟨k + 1, by omega, by go_num, _, rfl⟩
              case measure => simp [intOf]; omega
        · go_wp2_with fail
          refine (awake_any _ (HML.out.below (below_drewN HB3.out _))).mono ?_
          rintro e w4 ⟨rfl, hb4⟩
          go_wp2_with fail
          go_ret
          exact ⟨rfl, (below_drewN HB3.out _).trans (hb4.mono (below_drewN HB3.out _).size)⟩

theorem back_contract (H : Type) (enc : TypeId × Value → H) (W : World) (base : Nat) (args : Array Value) (ds gs : List (DataW H)) (before : List MemPlace)
    (hval : ∀ (j : Nat) t v, Tryd.f6.params[j]? = some t → args[j]? = some v → Value.okWide Tryd.prog W .any base t v)
    (hW : DataW.Whole enc Tryd.prog Tryd.f6.params.toList Rows.lexerBackSpec.vars false W args.toList ds gs before) (hsh : W.ShapedOpen Tryd.prog) :
    Calls Tryd.prog 6 args W fun e W' => ∃ v, e = .returned v ∧ Rows.lexerBackSpec.post enc Tryd.prog Tryd.f6 false true false false W args v W' := by
  have hW' := hW
  obtain ⟨p, q, hA0, hV, rfl, hfz, hnd⟩ := hW
  have hA : DataW.TrodAll enc Tryd.prog W 0 (fun _ => true) true Tryd.f6.params.toList args.toList ds p := hA0
  rw [Tryd.params6] at hA hval
  obtain ⟨v0, vs0, d0, ds0, p0, q0, hargs, rfl, rfl, h0, r0⟩ := trodAll_cons hA
  obtain ⟨rfl, rfl, rfl⟩ := trodAll_nil r0
  obtain rfl : args = #[v0] := by cases args; simp_all
  obtain ⟨rfl, rfl⟩ := trodVars_none hV
  obtain ⟨l0, hl0⟩ := open_sliceOf (R := U16Is) Tryd.underlying31 cells_u16 (by omega) (hval 0 31 v0 rfl rfl) open_u16 h0
  refine (back_walk v0 l0 W (maxLen_shaped W hsh) hl0).mono fun e W' ⟨he, hb⟩ => ⟨_, he, ?_⟩
  refine law_post rfl rfl (by intro t ht; rw [Tryd.params6] at ht; simp at ht; subst ht; exact ⟨by kernel_rfl, of_decide_eq_true (by kernel_rfl)⟩) rfl hW' hb

theorem back_reads (os : Os) {H : Type} (enc : TypeId × Value → H) : ∃ places, DataW.whole enc Tryd.prog ((laidWorld os).forCall (fun _ _ => 0) ⟨#[], #[.slice none 0 0], []⟩).memory Tryd.f6.params.toList Rows.lexerBackSpec.vars false (#[.slice none 0 0] : Array Value).toList 8 = some ([.nil], [], places) :=
  ⟨[], by kernel_rfl⟩

set_option maxRecDepth 100000 in
theorem back_lifted (os : Os) (started : os.Started) (H : Type) (enc : TypeId × Value → H) (F : Stop.Interp) :
    ReturnsInHanded {} Tryd.checked os 6 .any ((OpenSpec.ofChange Rows.lexerBackSpec).preRow enc Tryd.prog Tryd.f6 Rows.lexerBackRow.domain false Rows.lexerBackRow.laid) (((OpenSpec.ofChange Rows.lexerBackSpec).at F).post enc Tryd.prog Tryd.f6 false true false false) := by
  obtain ⟨places, hx⟩ := back_reads os enc
  refine returnsInHanded_of_row (C := Tryd.checked) (s := OpenSpec.ofChange Rows.lexerBackSpec) own started (by kernel_rfl) Tryd.func6
    (witness_row_at (enc := enc) (C := Tryd.checked) false (laidWorld os) #[.slice none 0 0] rfl (by kernel_rfl) (by kernel_rfl) (by kernel_rfl)
      (OpenSpec.preRow_of_cond 8 hx (by kernel_rfl) (fun k hk => by cases hk) (by kernel_rfl) (laid_met os _))) ?_
  intro W base args ds gs before hval hW _ hcond _ _ hsh _
  exact back_contract H enc W base args ds gs before hval hW hsh

theorem back_said : Rows.LexerBackSaid :=
  OpenClaim.holds_of_cond 6 Tryd.f6 rfl rfl rfl rfl rfl rfl rfl ⟨rfl, rfl, rfl, rfl, rfl⟩ rfl rfl rfl rfl rfl (by kernel_rfl) Tryd.func6 (by kernel_rfl)
    (of_decide_eq_true (by kernel_rfl)) (by unfold Func.isWrapper; first | (rw [if_pos (by decide +kernel)]; kernel_rfl) | (rw [if_neg (by decide +kernel)]; exact ⟨rfl, rfl⟩))
    (fun os started H enc _ F => by rw [OpenClaim.pre_eq_preRow]; exact back_lifted os started H enc F)

/-- No parameter wants a stand-in; the program's own looks are off. -/
theorem back_plain (f : FuncId) (fn : Func) (hf : Tryd.pinned.checked.prog.funcNamed "annalist/annalistlaw27.LexerBack" = some f) (hfn : Tryd.pinned.checked.prog.funcs[f]? = some fn) :
    false = Tryd.pinned.checked.prog.looks [] ∧ ∀ (j : Nat) t, fn.params[j]? = some t → Tryd.pinned.checked.prog.wantsStandIn t = false := by
  obtain rfl : f = 6 := Option.some.inj ((show Tryd.prog.funcNamed "annalist/annalistlaw27.LexerBack" = some 6 by kernel_rfl).symm.trans hf) |>.symm
  obtain rfl : fn = Tryd.f6 := (Option.some.inj (Tryd.func6.symm.trans hfn)).symm
  refine ⟨by kernel_rfl, fun j t ht => ?_⟩
  rw [Tryd.params6] at ht
  obtain rfl : t = 31 := by simpa using Array.mem_of_getElem? ht
  exact (show Tryd.prog.wantsStandIn 31 = false by kernel_rfl)

/-- The card. -/
theorem back_card : Rows.LexerBackCardSaid :=
  Claim7.holds_tied_plain_at .later [] _ _ _ _ back_said (fun _ h => by cases h) (by kernel_rfl) (fun _ h => by cases h) lexerBack_row_tie rfl ⟨rfl, rfl⟩ (by kernel_rfl) rfl back_plain (by kernel_rfl)
end Go.Proofs.YtbabencadnlmlaaDoor
