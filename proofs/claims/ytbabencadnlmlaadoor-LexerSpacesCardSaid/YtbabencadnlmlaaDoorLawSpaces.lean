/- The law LexerSpaces: additional white space around the tokens of a string changes only their offsets. No condition. -/
import Derived.Test.YtbabencadnlmlaaDoorLexX
import Derived.Test.YtbabencadnlmlaaDoorLaid
import Derived.Test.YtbabencadnlmlaaDoorCards
import Derived.Test.YtbabencadnlmlaaDoorTie
import Derived.Test.YtbabencadnlmlaaDoorLawBack
namespace Go.Proofs.YtbabencadnlmlaaDoor
open Go.ChangeShapes Go.WideShapes Go.ChangeAt Go.RowKit
open Go.ChangeMaps (open_string)

def spL : List (List UInt8) := [[], [32], [9, 10], [13, 32]]
def spOf (x : Nat) : List UInt8 := spL.getD (x % 4) []
theorem spOf_len (x : Nat) : (spOf x).length ≤ 2 := by
  have h : ∀ m < 4, (spL.getD m []).length ≤ 2 := by decide
  exact h _ (Nat.mod_lt _ (by decide))
theorem spOf_sp (x : Nat) : ∀ c ∈ spOf x, isSpace c = true := by
  have h : ∀ m < 4, ∀ c ∈ spL.getD m [], isSpace c = true := by decide
  exact h _ (Nat.mod_lt _ (by decide))
def U8Is (_ : World) (x : Nat) (cs : List Value) : Prop := cs = [.int .u8 (x : Int)] ∧ x < 256
theorem cells_u8 : Tryd.prog.cellsOf 5 = 1 := by kernel_rfl
theorem open_u8 {H : Type} {enc : TypeId × Value → H} {w : World} {spare : Nat → Bool} (n : Nat) (cs : List Value) (y : DataW H × List MemPlace)
    (h : DataW.trod enc Tryd.prog w 0 spare true n 5 cs = some y) (_ : cs.length = 1) : ∃ x, U8Is w x cs := by
  obtain ⟨x, e, _, hw⟩ := DataW.trod_int Tryd.underlying5 h
  simp [Lit.wf, IntKind.min, IntKind.max, IntKind.signed, IntKind.bits] at hw
  obtain ⟨k, rfl⟩ := Int.eq_ofNat_of_zero_le hw.1
  exact ⟨k, e, by omega⟩
def spCells : Array Value := #[.string ⟨#[]⟩, .string ⟨#[32]⟩, .string ⟨#[9, 10]⟩, .string ⟨#[13, 32]⟩]
theorem spCells_at (x : Nat) : spCells[x % 4]? = some (.string ⟨(spOf x).toArray⟩) := by
  have h : ∀ m < 4, spCells[m]? = some (.string ⟨(spL.getD m []).toArray⟩) := by
    intro m hm
    match m, hm with
    | 0, _ => rfl
    | 1, _ => rfl
    | 2, _ => rfl
    | 3, _ => rfl
  exact h _ (Nat.mod_lt _ (by decide))
theorem spCells_new (w : World) (x : Nat) : (w.alloc (.cells #[.string ⟨#[]⟩, .string ⟨#[32]⟩, .string ⟨#[9, 10]⟩, .string ⟨#[13, 32]⟩] 9)).cell? ⟨w.heap.size, x % 4, none⟩ = some (.string ⟨(spOf x).toArray⟩) := by
  have h1 := spCells_at x
  rw [spCells] at h1
  simp only [World.cell?, heap_alloc_new]
  exact h1
theorem cell_old (w : World) (o : Obj) (p : Addr) (u : Value) (h : w.cell? p = some u) : (w.alloc o).cell? p = some u :=
  ((below_alloc w o).cell (World.block_lt_of_cell? w _ h)).trans h
/-- The space before token k. -/
def wsAt (u : List Nat) (k : Nat) : List UInt8 := 32 :: (match u[k]? with | some x => spOf x | none => [])
theorem wsAt_in (u : List Nat) (k x : Nat) (h : u[k]? = some x) : wsAt u k = [32] ++ spOf x := by rw [wsAt, h]; rfl
theorem wsAt_out (u : List Nat) (k : Nat) (h : u.length ≤ k) : wsAt u k = [32] := by rw [wsAt, List.getElem?_eq_none h]
theorem wsAt_sp (u : List Nat) (k : Nat) : ∀ c ∈ wsAt u k, isSpace c = true := by
  intro c hc
  rcases List.mem_cons.1 hc with rfl | hc
  · rfl
  · cases h : u[k]? with
    | none => rw [h] at hc; simp at hc
    | some x => rw [h] at hc; exact spOf_sp x c hc
theorem wsAt_len (u : List Nat) (k : Nat) : (wsAt u k).length ≤ 3 := by
  rw [wsAt, List.length_cons]
  cases h : u[k]? with
  | none => simp
  | some x => have := spOf_len x; show (spOf x).length + 1 ≤ 3; omega
/-- What the loop has laid down after k rounds. -/
def accS (A : List Tok) (u : List Nat) : Nat → List UInt8
  | 0 => []
  | k + 1 => accS A u k ++ wsAt u k ++ (match A[k]? with | some x => fmtL [x] | none => [])
theorem accS_next (A : List Tok) (u : List Nat) (k : Nat) (x : Tok) (h : A[k]? = some x) : accS A u (k + 1) = accS A u k ++ wsAt u k ++ fmtL [x] := by rw [accS, h]
def psS (ts : List Tok) (u : List Nat) : Nat → List (List UInt8 × Tok)
  | 0 => []
  | k + 1 => psS ts u k ++ (match ts[k]? with | some t => [(wsAt u k, t)] | none => [])
theorem psS_map (ts : List Tok) (u : List Nat) : ∀ k, (psS ts u k).map (·.2) = ts.take k := by
  intro k
  induction k with
  | zero => rfl
  | succ k ih =>
    rw [psS, List.map_append, ih, List.take_add_one]
    cases h : ts[k]? with
    | none => rfl
    | some t => rfl
theorem psS_mem (ts : List Tok) (u : List Nat) : ∀ k, ∀ x ∈ psS ts u k, ∃ j, x.1 = wsAt u j := by
  intro k
  induction k with
  | zero => intro x hx; cases hx
  | succ k ih =>
    intro x hx
    rw [psS] at hx
    rcases List.mem_append.1 hx with h | h
    · exact ih x h
    · cases ht : ts[k]? with
      | none => rw [ht] at h; cases h
      | some t => rw [ht] at h; simp at h; subst h; exact ⟨k, rfl⟩
theorem fmtL_one (t : Tok) (h6 : t.kind ≠ 6) (hv : validT t.kind t.text = true) : fmtL [t] = fmtText t := by
  rw [fmtL, if_pos (by simp [hv])]
  simp [fmtStep, h6]
theorem fmtL_end (n : Int) : fmtL [⟨6, n, []⟩] = [] := by
  rw [fmtL, if_pos (by rfl)]
  simp [fmtStep]
theorem accS_ps (ts : List Tok) (e : Tok) (u : List Nat) (hg : Good 0 ts) : ∀ k, k ≤ ts.length → accS (ts ++ [e]) u k = render (psS ts u k) := by
  intro k
  induction k with
  | zero => intro _; rfl
  | succ k ih =>
    intro hk
    obtain ⟨x, hx⟩ := lget_some ts k hk
    have hx2 : (ts ++ [e])[k]? = some x := by rw [List.getElem?_append_left hk]; exact hx
    obtain ⟨⟨m, h1, h2, h3⟩, hv⟩ := good_kinds 0 ts hg x (List.mem_of_getElem? hx)
    rw [accS_next _ u k x hx2, ih (by omega), psS, hx, fmtL_one x (by omega) hv]
    simp [render]
theorem accS_all (ts : List Tok) (n : Int) (u : List Nat) (hg : Good 0 ts) : accS (ts ++ [⟨6, n, []⟩]) u (ts.length + 1) = render (psS ts u ts.length) ++ wsAt u ts.length := by
  rw [accS_next _ u ts.length ⟨6, n, []⟩ (by simp), accS_ps ts _ u hg _ (Nat.le_refl _), fmtL_end, List.append_nil]

set_option maxRecDepth 100000 in
set_option maxHeartbeats 4000000 in
theorem spaces_walk (v : Value) (l : List Nat) (v2 : Value) (l2 : List Nat) (w : World) (hML : MaxLenAt w) (h : SliceOf w 1 U16Is v l) (hz : SliceOf w 1 U8Is v2 l2) :
    Calls Tryd.prog 7 #[v, v2] w fun e w' => e = .returned (.bool true) ∧ Below w.heap.size w w' := by
  have HML := Lib.hid hML
  have HS := Lib.hid h
  obtain ⟨hm2, a2, c2, rfl, hc2, hp2⟩ := hz
  have HU := Lib.hid hp2
  clear hp2
  obtain ⟨n2, hn2⟩ : ∃ n, n = l2.length := ⟨_, rfl⟩
  have HN2 := Lib.hid hn2
  rw [← hn2] at hm2 hc2 HU ⊢
  clear hn2
  obtain ⟨s, hs⟩ : ∃ s : ByteArray, s = ⟨(textL l).toArray⟩ := ⟨_, rfl⟩
  have hsz : s.size ≤ maxLen := by rw [hs, ba_mk_size]; have := textL_len l; unfold maxLen; omega
  have HSE := Lib.hid hs
  clear hML h hs
  go_enter Tryd.func7, Tryd.ntmps7
  go_wp2_with fail
  refine (text_any v l w HS.out).mono ?_
  rw [← HSE.out]
  rintro e w0 ⟨rfl, hb0⟩
  have HB0 := Lib.hid hb0
  clear hb0
  go_wp2_with fail
  obtain ⟨R, hRe⟩ : ∃ R, scan s.data.toList = R := ⟨_, rfl⟩
  have hok := scan_ok s.data.toList
  have HE := Lib.hid hRe
  refine (scan_any s hsz _).mono ?_
  rw [HE.out]
  rw [hRe] at hok
  clear hRe
  rintro e w1 ⟨v1, rfl, ho1, hb1⟩
  have HB1 := Lib.hid (HB0.out.trans (hb1.mono HB0.out.size))
  have hrd := own_reads ho1
  have HRD := Lib.hid hrd
  rcases hok with ⟨herr, htoks⟩ | ⟨ts, hR, hg, hlen, _⟩
  · have herr' : ((R.err : Int) != 0) = true := by rw [bne_iff_ne]; omega
    clear htoks herr ho1 hb1 hrd
    go_wp2_with fail
    refine (awake_any _ (HML.out.below HB1.out)).mono ?_
    rintro e w3 ⟨rfl, hb3⟩
    go_wp2_with fail
    go_ret
    exact ⟨rfl, HB1.out.trans (hb3.mono HB1.out.size)⟩
  · subst hR
    have HG := Lib.hid hg
    obtain ⟨A, hA⟩ : ∃ A : List Tok, A = ts ++ [⟨6, s.data.toList.length, []⟩] := ⟨_, rfl⟩
    have HA := Lib.hid hA
    have hAl : A.length = ts.length + 1 := by rw [hA]; simp
    rw [← hA] at HRD hrd ho1
    have hval : ∀ x ∈ A, okT x = true := by
      intro x hx
      rw [hA] at hx
      rcases List.mem_append.1 hx with h | h
      · exact (good_kinds 0 ts hg x h).2
      · simp at h; subst h; rfl
    have htxt : ∀ x ∈ A, x.text.length ≤ 1000000 := by
      intro x hx
      rw [hA] at hx
      rcases List.mem_append.1 hx with h | h
      · have := validT_len _ _ (good_kinds 0 ts hg x h).2; omega
      · simp at h; subst h; simp
    have hA2 : A.length ≤ 1001 := by omega
    have HTX := Lib.hid htxt
    have HOK := Lib.hid hval
    clear hA hval htxt hg ho1 hb1
    rw [← HA.out]
    have hn1 : 0 < A.length := by omega
    have htsl : ts.length ≤ 1000 := by omega
    have HAL := Lib.hid hAl
    clear hAl hlen
    simp only [cast0]
    obtain ⟨_, _, a, c, rfl, hc, hcl0⟩ := hrd
    obtain ⟨b, o, ha, hcl⟩ := hcl0 (by omega)
    subst ha
    clear hcl0
    have HCL := Lib.hid hcl
    clear hcl
    by_cases hbig2 : 100 < n2
    · go_wp2_with fail
      refine (awake_any _ (HML.out.below HB1.out)).mono ?_
      rintro e w3 ⟨rfl, hb3⟩
      go_wp2_with fail
      go_ret
      exact ⟨rfl, HB1.out.trans (hb3.mono HB1.out.size)⟩
    go_wp2_with fail
    go_loopw [8, 9] (fun s i wr => ∃ (k : Nat) (acc : ByteArray), k ≤ A.length ∧ i = .int .i64 k ∧ s = .string acc ∧ Hid (acc.toList = accS A l2 k) ∧ acc.size ≤ k * 406 ∧ Below w1.heap.size w1 wr) (fun _ i _ => A.length - (intOf i).toNat)
    case atStart => exact ⟨0, ⟨#[]⟩, Nat.zero_le _, rfl, rfl, Lib.hid (ByteArray.toList_eq _), Nat.zero_le _, Below.refl _ _⟩
    case round =>
      obtain ⟨k, acc, hk, rfl, rfl, HACC, hlen, hB⟩ := hrel
      have HB := Lib.hid hB
      clear hB
      by_cases hlt : k < A.length
      · obtain ⟨x, hxk⟩ := lget_some A k hlt
        have hrone : Reads wr 3 (.slice (some ⟨b, o + k * 3, none⟩) 1 (c - k)) 1 (tokCells [x]) := by
          have hx := tokCells_at A k x hxk
          have hW : ∀ j u, (tokCells A)[k * 3 + j]? = some u → wr.cell? ⟨b, o + k * 3 + j, none⟩ = some u := by
            intro j u hu
            have h1 := HCL.out _ _ hu
            rw [← Nat.add_assoc] at h1
            exact (HB.out.cell (World.block_lt_of_cell? w1 _ h1)).trans h1
          refine ⟨rfl, by omega, _, _, rfl, by omega, fun _ => ⟨b, o + k * 3, rfl, fun j u hu => ?_⟩⟩
          match j, hu with
          | 0, hu => exact hW 0 u (by rw [← hu]; exact hx.1)
          | 1, hu => exact hW 1 u (by rw [← hu]; exact hx.2.1)
          | 2, hu => exact hW 2 u (by rw [← hu]; exact hx.2.2)
          | (n + 3), hu => exact absurd hu (by simp [tokCells])
        have HR1 := Lib.hid hrone
        have htx1 : ∀ z ∈ [x], z.text.length ≤ 1000000 := by
          intro z hz; simp at hz; subst hz; exact HTX.out z (List.mem_of_getElem? hxk)
        have HTX1 := Lib.hid htx1
        have HXK := Lib.hid hxk
        obtain ⟨f, hf⟩ : ∃ f : ByteArray, f = ⟨(fmtL [x]).toArray⟩ := ⟨_, rfl⟩
        have hfs : f.size ≤ 403 := by rw [hf, ba_mk_size]; have := fmtL_len [x]; simpa using this
        have HF := Lib.hid hf
        clear hrone htx1 hf
        by_cases hin : k < n2
        · obtain ⟨y, hy⟩ := lget_some l2 k (by rw [← HN2.out]; exact hin)
          obtain ⟨b2, o2, ha2, hcl2⟩ := HU.out (by omega)
          obtain ⟨cs, _, hU, hcell⟩ := hcl2 k y hy
          obtain ⟨hcs, hy256⟩ := hU
          have a0 := hcell 0 _ (by rw [hcs]; rfl)
          rw [Nat.mul_one, Nat.add_zero] at a0
          subst ha2
          have a0' : wr.cell? ⟨b2, o2 + k, none⟩ = some (.int .u8 (y : Int)) := ((HB1.out.trans (HB.out.mono HB1.out.size)).cell (World.block_lt_of_cell? w _ a0)).trans a0
          have a1 := cell_old wr (.cells #[.string ⟨#[]⟩, .string ⟨#[32]⟩, .string ⟨#[9, 10]⟩, .string ⟨#[13, 32]⟩] 9) _ _ a0'
          have a2 := spCells_new wr y
          have hsl := spOf_len y
          have HY := Lib.hid hy
          clear hcl2 hcell hcs a0 a0' hy hxk
          go_wp2_with fail
          have hba := below_alloc wr (.cells #[.string ⟨#[]⟩, .string ⟨#[32]⟩, .string ⟨#[9, 10]⟩, .string ⟨#[13, 32]⟩] 9)
          have HB2 : Hid (Below w1.heap.size w1 (wr.alloc (.cells #[.string ⟨#[]⟩, .string ⟨#[32]⟩, .string ⟨#[9, 10]⟩, .string ⟨#[13, 32]⟩] 9))) := HB.out.trans (hba.mono HB.out.size)
          refine (format_any _ [x] _ (by simp) HTX1.out (HML.out.below (HB1.out.trans (HB2.out.mono HB1.out.size))) (HR1.out.below hba)).mono ?_
          rw [← HF.out]
          rintro e w2 ⟨rfl, hb2⟩
          have HB3 : Hid (Below w1.heap.size w1 w2) := HB2.out.trans (hb2.mono HB2.out.size)
          clear hb2 hba a1 a2
          go_wp2_with fail
          go_roundw
          case rel =>
            refine ⟨k + 1, _, hlt, by go_num, rfl, ?_, ?_, HB3.out⟩
            · show _ = _
              rw [accS_next A l2 k x HXK.out, ← HACC.out, wsAt_in l2 k y HY.out, HF.out]
              simp [ByteArray.toList_eq]
            · have h1 : (⟨#[32]⟩ : ByteArray).size = 1 := rfl
              have h2 : (⟨(spOf y).toArray⟩ : ByteArray).size = (spOf y).length := ba_mk_size _
              simp only [ByteArray.size_append]
              rw [h1, h2]
              omega
          case measure => simp [intOf]; omega
        · have hin2 : l2.length ≤ k := by rw [← HN2.out]; omega
          clear hxk
          go_wp2_with fail
          refine (format_any _ [x] _ (by simp) HTX1.out (HML.out.below (HB1.out.trans (HB.out.mono HB1.out.size))) HR1.out).mono ?_
          rw [← HF.out]
          rintro e w2 ⟨rfl, hb2⟩
          have HB3 : Hid (Below w1.heap.size w1 w2) := HB.out.trans (hb2.mono HB.out.size)
          clear hb2
          go_wp2_with fail
          go_roundw
          case rel =>
            refine ⟨k + 1, _, hlt, by go_num, rfl, ?_, ?_, HB3.out⟩
            · show _ = _
              rw [accS_next A l2 k x HXK.out, ← HACC.out, wsAt_out l2 k hin2, HF.out]
              simp [ByteArray.toList_eq]
            · simp only [ByteArray.size_append]
              have : (⟨#[32]⟩ : ByteArray).size = 1 := rfl
              omega
          case measure => simp [intOf]; omega
      · have hkA : k = A.length := by omega
        subst hkA
        have htsz : acc.size ≤ maxLen := by unfold maxLen; omega
        have HL : Hid (acc.toList = render (psS ts l2 ts.length) ++ wsAt l2 ts.length) := by
          show _ = _
          rw [HACC.out, HAL.out, HA.out]; exact accS_all ts _ l2 HG.out
        have hasz : acc.toList.length = acc.size := by rw [ByteArray.toList_eq]; exact Array.length_toList
        clear hlen hlt
        by_cases hbig : 4000 < acc.size
        · go_wp2_with fail
          refine (awake_any _ (HML.out.below (HB1.out.trans (HB.out.mono HB1.out.size)))).mono ?_
          rintro e w3 ⟨rfl, hb3⟩
          go_wp2_with fail
          go_ret
          exact ⟨rfl, (HB1.out.trans (HB.out.mono HB1.out.size)).trans (hb3.mono (Nat.le_trans HB1.out.size HB.out.size))⟩
        · obtain ⟨ps, hps⟩ : ∃ ps, ps = psS ts l2 ts.length := ⟨_, rfl⟩
          obtain ⟨wend, hwend⟩ : ∃ ws, ws = wsAt l2 ts.length := ⟨_, rfl⟩
          have HLb : Hid (acc.toList = render ps ++ wend) := by show _ = _; rw [hps, hwend]; exact HL.out
          obtain ⟨us, m, hus1, hus2, hus3⟩ := scan_back ts HG.out htsl ps wend (by rw [hwend]; exact wsAt_sp _ _) (by rw [hps, psS_map, List.take_length])
            (by intro z hz; rw [hps] at hz; obtain ⟨j, hj⟩ := psS_mem _ _ _ z hz; rw [hj]; exact wsAt_sp _ _)
            (by intro z hz; have hz2 := List.mem_of_mem_drop hz; rw [hps] at hz2; obtain ⟨j, hj⟩ := psS_mem _ _ _ z hz2; rw [hj]; simp [wsAt])
            (by rw [← HLb.out, hasz]; omega)
          have HSC : Hid (scan acc.data.toList = ⟨us ++ [⟨6, m, []⟩], 0, 0⟩) := by
            show _ = _
            rw [← hus1, ← HLb.out, ByteArray.toList_eq]
          obtain ⟨B, hB⟩ : ∃ B : List Tok, B = us ++ [⟨6, m, []⟩] := ⟨_, rfl⟩
          have hBl : B.length = A.length := by
            have h1 := congrArg List.length hus2
            rw [List.length_map, List.length_map] at h1
            rw [hB, HAL.out, List.length_append, h1]; rfl
          have HKT : Hid (∀ (i : Nat) (x y : Tok), A[i]? = some x → B[i]? = some y → x.kind = y.kind ∧ x.text = y.text) := by
            intro i x y hx hy
            refine kt_at (l := A) (m := B) ?_ i x y hx hy
            rw [HA.out, hB, List.map_append, List.map_append, hus2]; rfl
          have HBL := Lib.hid hBl
          have HBw : Hid (Below w.heap.size w wr) := HB1.out.trans (HB.out.mono HB1.out.size)
          clear hus1 hus2 hus3 hBl hps hwend hasz
          go_wp2_with fail
          refine (scan_any acc htsz _).mono ?_
          rw [HSC.out, ← hB]
          clear hB
          rintro e w3 ⟨v3, rfl, ho3, hb3⟩
          have HB3 : Hid (Below w.heap.size w w3) := HBw.out.trans (hb3.mono HBw.out.size)
          have hrd3 := own_reads ho3
          simp only [cast0]
          rw [HBL.out] at hrd3
          obtain ⟨_, _, a3, c3, rfl, hc3, hcl3⟩ := hrd3
          obtain ⟨b3, o3, ha3, hcl4⟩ := hcl3 (by omega)
          subst ha3
          have HCB := Lib.hid hcl4
          have HCA : Hid (∀ (j : Nat) (u : Value), (tokCells A)[j]? = some u → w3.cell? ⟨b, o + j, none⟩ = some u) := by
            intro j u hu
            have h1 := HCL.out j u hu
            have hbb : Below w1.heap.size w1 w3 := HB.out.trans (hb3.mono HB.out.size)
            exact (hbb.cell (World.block_lt_of_cell? w1 _ h1)).trans h1
          have hneq : ((A.length : Int) != (A.length : Int)) = false := by simp
          clear ho3 hb3 hcl3 hcl4
          go_wp2_with fail
          go_loopw [13] (fun i wr => ∃ k : Nat, k ≤ A.length ∧ i = .int .i64 k ∧ ∃ q, wr = w3.drewN q) (fun i _ => A.length - (intOf i).toNat)
          case atStart => exact ⟨0, Nat.zero_le _, rfl, 0, rfl⟩
          case round =>
            obtain ⟨k, hk, rfl, q, rfl⟩ := hrel
            by_cases hlt : k < A.length
            · obtain ⟨x, hxk⟩ := lget_some A k hlt
              obtain ⟨y, hyk⟩ := lget_some B k (by rw [HBL.out]; exact hlt)
              obtain ⟨hkk, hkt⟩ := HKT.out k x y hxk hyk
              have hx := tokCells_at A k x hxk
              have hy := tokCells_at B k y hyk
              rw [← hkk, ← hkt] at hy
              have a0 : w3.cell? ⟨b, o + k * 3, none⟩ = _ := HCA.out _ _ hx.1
              have a2 : w3.cell? ⟨b, o + k * 3 + 2, none⟩ = _ := HCA.out _ _ hx.2.2
              have b0 : w3.cell? ⟨b3, o3 + k * 3, none⟩ = _ := HCB.out _ _ hy.1
              have b2 : w3.cell? ⟨b3, o3 + k * 3 + 2, none⟩ = _ := HCB.out _ _ hy.2.2
              have hne1 : (x.kind != x.kind) = false := by simp
              clear hx hy hkt hkk hxk hyk
              go_wp2_with fail
              go_quiet (fail)
              go_wp2_with fail
              go_roundw
              case rel => exact ⟨k + 1, by omega, by go_num, _, rfl⟩
              case measure => simp [intOf]; omega
            · go_wp2_with fail
              refine (awake_any _ (HML.out.below (below_drewN HB3.out _))).mono ?_
              rintro e w4 ⟨rfl, hb4⟩
              go_wp2_with fail
              go_ret
              exact ⟨rfl, (below_drewN HB3.out _).trans (hb4.mono (below_drewN HB3.out _).size)⟩

theorem spaces_contract (H : Type) (enc : TypeId × Value → H) (W : World) (base : Nat) (args : Array Value) (ds gs : List (DataW H)) (before : List MemPlace)
    (hval : ∀ (j : Nat) t v, Tryd.f7.params[j]? = some t → args[j]? = some v → Value.okWide Tryd.prog W .any base t v)
    (hW : DataW.Whole enc Tryd.prog Tryd.f7.params.toList Rows.lexerSpacesSpec.vars false W args.toList ds gs before) (hsh : W.ShapedOpen Tryd.prog) :
    Calls Tryd.prog 7 args W fun e W' => ∃ v, e = .returned v ∧ Rows.lexerSpacesSpec.post enc Tryd.prog Tryd.f7 false true false false W args v W' := by
  have hW' := hW
  obtain ⟨p, q, hA0, hV, rfl, hfz, hnd⟩ := hW
  have hA : DataW.TrodAll enc Tryd.prog W 0 (fun _ => true) true Tryd.f7.params.toList args.toList ds p := hA0
  rw [Tryd.params7] at hA hval
  obtain ⟨v0, vs0, d0, ds0, p0, q0, hargs, rfl, rfl, h0, r0⟩ := trodAll_cons hA
  obtain ⟨v1, vs1, d1, ds1, p1, q1, rfl, rfl, rfl, h1, r1⟩ := trodAll_cons r0
  obtain ⟨rfl, rfl, rfl⟩ := trodAll_nil r1
  obtain rfl : args = #[v0, v1] := by cases args; simp_all
  obtain ⟨rfl, rfl⟩ := trodVars_none hV
  obtain ⟨l0, hl0⟩ := open_sliceOf (R := U16Is) Tryd.underlying31 cells_u16 (by omega) (hval 0 31 v0 rfl rfl) open_u16 h0
  obtain ⟨l1, hl1⟩ := open_sliceOf (R := U8Is) Tryd.underlying39 cells_u8 (by omega) (hval 1 39 v1 rfl rfl) open_u8 h1
  refine (spaces_walk v0 l0 v1 l1 W (maxLen_shaped W hsh) hl0 hl1).mono fun e W' ⟨he, hb⟩ => ⟨_, he, ?_⟩
  refine law_post rfl rfl (by intro t ht; rw [Tryd.params7] at ht; simp at ht; rcases ht with rfl | rfl <;> exact ⟨by kernel_rfl, of_decide_eq_true (by kernel_rfl)⟩) rfl hW' hb

theorem spaces_reads (os : Os) {H : Type} (enc : TypeId × Value → H) : ∃ places, DataW.whole enc Tryd.prog ((laidWorld os).forCall (fun _ _ => 0) ⟨#[], #[.slice none 0 0, .slice none 0 0], []⟩).memory Tryd.f7.params.toList Rows.lexerSpacesSpec.vars false (#[.slice none 0 0, .slice none 0 0] : Array Value).toList 8 = some ([.nil, .nil], [], places) :=
  ⟨[], by kernel_rfl⟩

set_option maxRecDepth 100000 in
theorem spaces_lifted (os : Os) (started : os.Started) (H : Type) (enc : TypeId × Value → H) (F : Stop.Interp) :
    ReturnsInHanded {} Tryd.checked os 7 .any ((OpenSpec.ofChange Rows.lexerSpacesSpec).preRow enc Tryd.prog Tryd.f7 Rows.lexerSpacesRow.domain false Rows.lexerSpacesRow.laid) (((OpenSpec.ofChange Rows.lexerSpacesSpec).at F).post enc Tryd.prog Tryd.f7 false true false false) := by
  obtain ⟨places, hx⟩ := spaces_reads os enc
  refine returnsInHanded_of_row (C := Tryd.checked) (s := OpenSpec.ofChange Rows.lexerSpacesSpec) own started (by kernel_rfl) Tryd.func7
    (witness_row_at (enc := enc) (C := Tryd.checked) false (laidWorld os) #[.slice none 0 0, .slice none 0 0] rfl (by kernel_rfl) (by kernel_rfl) (by kernel_rfl)
      (OpenSpec.preRow_of_cond 8 hx (by kernel_rfl) (fun k hk => by cases hk) (by kernel_rfl) (laid_met os _))) ?_
  intro W base args ds gs before hval hW _ hcond _ _ hsh _
  exact spaces_contract H enc W base args ds gs before hval hW hsh

theorem spaces_said : Rows.LexerSpacesSaid :=
  OpenClaim.holds_of_cond 7 Tryd.f7 rfl rfl rfl rfl rfl rfl rfl ⟨rfl, rfl, rfl, rfl, rfl⟩ rfl rfl rfl rfl rfl (by kernel_rfl) Tryd.func7 (by kernel_rfl)
    (of_decide_eq_true (by kernel_rfl)) (by unfold Func.isWrapper; first | (rw [if_pos (by decide +kernel)]; kernel_rfl) | (rw [if_neg (by decide +kernel)]; exact ⟨rfl, rfl⟩))
    (fun os started H enc _ F => by rw [OpenClaim.pre_eq_preRow]; exact spaces_lifted os started H enc F)

/-- No parameter wants a stand-in; the program's own looks are off. -/
theorem spaces_plain (f : FuncId) (fn : Func) (hf : Tryd.pinned.checked.prog.funcNamed "annalist/annalistlaw27.LexerSpaces" = some f) (hfn : Tryd.pinned.checked.prog.funcs[f]? = some fn) :
    false = Tryd.pinned.checked.prog.looks [] ∧ ∀ (j : Nat) t, fn.params[j]? = some t → Tryd.pinned.checked.prog.wantsStandIn t = false := by
  obtain rfl : f = 7 := Option.some.inj ((show Tryd.prog.funcNamed "annalist/annalistlaw27.LexerSpaces" = some 7 by kernel_rfl).symm.trans hf) |>.symm
  obtain rfl : fn = Tryd.f7 := (Option.some.inj (Tryd.func7.symm.trans hfn)).symm
  refine ⟨by kernel_rfl, fun j t ht => ?_⟩
  rw [Tryd.params7] at ht
  have hm := Array.mem_of_getElem? ht
  simp at hm
  rcases hm with rfl | rfl
  · exact (show Tryd.prog.wantsStandIn 31 = false by kernel_rfl)
  · exact (show Tryd.prog.wantsStandIn 39 = false by kernel_rfl)

/-- The card. -/
theorem spaces_card : Rows.LexerSpacesCardSaid :=
  Claim7.holds_tied_plain_at .later [] _ _ _ _ spaces_said (fun _ h => by cases h) (by kernel_rfl) (fun _ h => by cases h) lexerSpaces_row_tie rfl ⟨rfl, rfl⟩ (by kernel_rfl) rfl spaces_plain (by kernel_rfl)
end Go.Proofs.YtbabencadnlmlaaDoor
