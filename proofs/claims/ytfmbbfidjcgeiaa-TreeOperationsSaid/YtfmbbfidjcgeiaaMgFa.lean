/- A part of the proofs: OpenS, Tow. No condition beside sizes and tables that read as laid. -/
import Derived.Test.YtfmbbfidjcgeiaaMgAa
import Derived.Test.YtfmbbfidjcgeiaaMgAg
import Derived.Test.YtfmbbfidjcgeiaaMgAf
import Derived.Test.YtfmbbfidjcgeiaaMgAb
namespace Go.Proofs.Ytfmbbfidjcgeiaa
open Go.ChangeShapes Go.WideShapes Go.ChangeAt Go.RowKit

theorem cells_opn : Try.prog.cellsOf 58 = 4 := by kernel_rfl
theorem cells_i64s : Try.prog.cellsOf 2 = 1 := by kernel_rfl
def IsOpn (s : Opn) : Prop := Is64 s.kind ∧ Is64 s.f ∧ Is64 s.t ∧ Is64 s.x
section
variable {H : Type} {enc : TypeId × Value → H} {w : World} {spare : Nat → Bool}
set_option maxRecDepth 10000 in
theorem open_opn_el (n : Nat) (cs : List Value) (y : DataW H × List MemPlace) (h : DataW.trod enc Try.prog w 0 spare true n 58 cs = some y) (hl : cs.length = 4) : ∃ x, opnE.is w free x cs ∧ IsOpn x := by
  obtain ⟨xs, k, hk, hxy, _, hxl, hf⟩ := DataW.trod_struct Try.underlying58 h
  match cs, hl with
  | [c0, c1, c2, c3], _ =>
    match xs, hxl with
    | [y0, y1, y2, y3], _ =>
      have g0 := hf 0 _ rfl
      have g1 := hf 1 _ rfl
      have g2 := hf 2 _ rfl
      have g3 := hf 3 _ rfl
      simp [cells_int, cells_i64s] at g0 g1 g2 g3
      obtain ⟨k0, e0, _, w0⟩ := DataW.trod_int Try.underlying3 g0
      obtain ⟨k1, e1, _, w1⟩ := DataW.trod_int Try.underlying3 g1
      obtain ⟨k2, e2, _, w2⟩ := DataW.trod_int Try.underlying3 g2
      obtain ⟨k3, e3, _, w3⟩ := DataW.trod_int Try.underlying2 g3
      simp at e0 e1 e2 e3
      subst e0 e1 e2 e3
      exact ⟨⟨k0, k1, k2, k3⟩, rfl, is64_of w0, is64_of w1, is64_of w2, is64_of w3⟩
end
end Go.Proofs.Ytfmbbfidjcgeiaa

namespace Go.Proofs.Ytfmbbfidjcgeiaa
open Go.RowKit Go.Lib Go.Shelf

set_option maxHeartbeats 1000000 in
theorem set_no {B p g n : Nat} {nd : List Nd} (k x : Int) (w : World) (hT : TreeAt w B p g nd n) (h : k < 0 ∨ (n : Int) ≤ k) :
    Calls Try.prog 24 #[.pointer (some ⟨p, 0, none⟩), .int .i64 k, .int .i64 x] w fun e w' => e = .returned (.bool false) ∧ w = w' := by
  have HL := Lib.hid (len_tree w hT)
  clear hT
  by_cases h1 : k < 0
  · clear h
    go_enter Try.func24, Try.ntmps24
    go_wp2_with fail
    go_ret
    exact ⟨rfl, rfl⟩
  · have h2 : (n : Int) ≤ k := by omega
    clear h
    go_enter Try.func24, Try.ntmps24
    go_wp2_with fail
    refine HL.out.mono ?_
    rintro _ _ ⟨rfl, rfl⟩
    go_wp2_with fail
    go_ret
    exact ⟨rfl, rfl⟩
/-- What stands at the head of the operations' loop: the tree and the plain slice hold the same numbers. -/
structure TowI (w wr : World) (B1 p g : Nat) (sa : Option Addr) (n c : Nat) (a : List Int) (nd : List Nd) : Prop where
  tree : TreeAt wr B1 p g nd n
  num : TreeN a nd
  own : Own i64E wr w.heap.size (.slice sa n c) a
  len : a.length = n
  n64 : Num64 a
  below : Below w.heap.size w wr
theorem TowI.keep {w wr wr' : World} {B1 p g n c : Nat} {sa : Option Addr} {a : List Int} {nd : List Nd} (h : TowI w wr B1 p g sa n c a nd) (hb : Below wr.heap.size wr wr') : TowI w wr' B1 p g sa n c a nd :=
  ⟨h.tree.below hb, h.num, h.own.below hb, h.len, h.n64, below_keep h.below hb⟩
/-- The two answers about extremes are those of the loop. -/
theorem ext_same {a : List Int} {f t : Int} {low high x y : Int} {q r : Bool} (hq : q = true ↔ 0 ≤ f ∧ f < t ∧ t ≤ (a.length : Int)) (hr : r = true ↔ 0 ≤ f ∧ f < t ∧ t ≤ (a.length : Int))
    (h1 : q = true → MinIs (elts a f.toNat t.toNat) x) (h2 : q = false → x = 0) (h3 : r = true → MaxIs (elts a f.toNat t.toNat) y) (h4 : r = false → y = 0)
    (hE : (0 ≤ f ∧ f ≤ t ∧ t ≤ (a.length : Int) → ExtI a f.toNat t.toNat low high) ∧ (¬ (0 ≤ f ∧ f ≤ t ∧ t ≤ (a.length : Int)) → low = 0 ∧ high = 0)) : x = low ∧ y = high ∧ q = r ∧ q = (decide (0 ≤ f ∧ f ≤ t ∧ t ≤ (a.length : Int)) && decide (f < t)) := by
  have hqr : q = r := by rw [Bool.eq_iff_iff, hq, hr]
  subst hqr
  have hd : q = (decide (0 ≤ f ∧ f ≤ t ∧ t ≤ (a.length : Int)) && decide (f < t)) := by
    rw [Bool.eq_iff_iff, hq]
    simp
    omega
  cases hqb : q with
  | true =>
    have k := hq.1 hqb
    rcases hE.1 ⟨k.1, by omega, k.2.2⟩ with ⟨e, _, _⟩ | ⟨_, m1, m2⟩
    · omega
    · exact ⟨(h1 hqb).unique m1, (h3 hqb).unique m2, rfl, by rw [← hd, hqb]⟩
  | false =>
    have h0 : low = 0 ∧ high = 0 := by
      by_cases k : 0 ≤ f ∧ f ≤ t ∧ t ≤ (a.length : Int)
      · rcases hE.1 k with ⟨_, e1, e2⟩ | ⟨e, _, _⟩
        · exact ⟨e1, e2⟩
        · have : q = true := hq.2 ⟨k.1, by omega, k.2.2⟩
          rw [hqb] at this; cases this
      · exact hE.2 k
    exact ⟨by rw [h2 hqb, h0.1], by rw [h4 hqb, h0.2], rfl, by rw [← hd, hqb]⟩
set_option maxHeartbeats 16000000 in
set_option maxRecDepth 100000 in
theorem ops_walk (v u : Value) (a0 : List Int) (l : List Opn) (w : World) (hv : Sl i64E w free v a0) (hq : Num64 a0) (hu : Sl opnE w free u l) (hx : ∀ s ∈ l, (-9223372036854775808 ≤ s.x ∧ s.x ≤ 9223372036854775807) ∧ (-9223372036854775808 ≤ s.f ∧ s.f ≤ 9223372036854775807) ∧ (-9223372036854775808 ≤ s.t ∧ s.t ≤ 9223372036854775807)) :
    Calls Try.prog 7 #[v, u] w (QuietW w) := by
  have HAW := fun W => Lib.hid (awake18_any W)
  obtain ⟨sa, sc, rfl⟩ := hv.shape
  obtain ⟨ua, uc, rfl⟩ := hu.shape
  have h63 := hv.1
  have h64 := hu.1
  have HV := Lib.hid hv
  have HU := Lib.hid hu
  obtain ⟨n, hn⟩ : ∃ n, n = a0.length := ⟨_, rfl⟩
  obtain ⟨m, hm⟩ : ∃ m, m = l.length := ⟨_, rfl⟩
  have HN := Lib.hid hn
  have HM := Lib.hid hm
  have HQ := Lib.hid hq
  have HX := Lib.hid hx
  rw [← hn] at HV h63 ⊢
  rw [← hm] at HU h64 ⊢
  clear hv hu hn hm hq hx
  by_cases hc1 : 200 < n
  · have hI : (200 : Int) < (n : Int) := by omega
    go_enter Try.func7, Try.ntmps7
    go_wp2_with fail
    refine (HAW _).out.mono ?_
    rintro _ w1 ⟨rfl, hb⟩
    go_wp2_with fail
    go_ret
    exact ⟨rfl, hb⟩
  by_cases hc2 : 60 < m
  · have hI : ¬ (200 : Int) < (n : Int) := by omega
    have hJ : (60 : Int) < (m : Int) := by omega
    go_enter Try.func7, Try.ntmps7
    go_wp2_with fail
    refine (HAW _).out.mono ?_
    rintro _ w1 ⟨rfl, hb⟩
    go_wp2_with fail
    go_ret
    exact ⟨rfl, hb⟩
  have hn2 : n ≤ 200 := by omega
  have hm2 : m ≤ 60 := by omega
  have hI : ¬ (200 : Int) < (n : Int) := by omega
  have hJ : ¬ (60 : Int) < (m : Int) := by omega
  clear hc1 hc2
  have HNT := Lib.hid (new_tree _ a0 w HV.out HQ.out (by rw [← HN.out]; exact hn2))
  rw [← HN.out] at HNT
  go_enter Try.func7, Try.ntmps7
  go_wp2_with fail
  refine HNT.out.mono ?_
  rintro _ w1 ⟨p, nd0, rfl, hT, hTN, hb1⟩
  have HB1 := Lib.hid hb1
  have HT1 := Lib.hid hT
  have HTN := Lib.hid hTN
  have HPW := Lib.hid (And.intro hT.lt hT.baseg.2)
  clear hT hTN hb1 HNT
  go_wp2_with (at_builtin; refine wpList_join rfl (.const (.slice none 0 0)) (.tmp 33) 24 rfl i64E Try.underlying24 w1.heap.size (.slice none 0 0) (.slice sa n sc) [] a0 rfl rfl (Own.nil _ _ _) ((HV.out.below HB1.out).mono (fun _ _ h => by simp [Value.ownBlock] at h)) (by rw [← HN.out]; unfold maxLen; simp; omega) (by rw [← HN.out]; show _ * 8 ≤ _; simp; omega) (Nat.le_refl _) n (by rw [← HN.out]; simp) ?_; intro aj cj w2 hJ')
  have HI2 : Hid (TowI w w2 w.heap.size p w.heap.size aj n cj a0 nd0) := Lib.hid ⟨HT1.out.below hJ'.below, HTN.out, (hJ'.own : Own i64E w2 w1.heap.size (.slice aj n cj) a0).mono HB1.out.size, HN.out.symm, HQ.out, below_keep HB1.out hJ'.below⟩
  have HOJ : Hid (∀ k, (Value.slice aj n cj).ownBlock = some k → w1.heap.size ≤ k ∧ k < w2.heap.size) := Lib.hid fun k hk => (hJ'.own : Own i64E w2 w1.heap.size (.slice aj n cj) a0).lt k hk
  clear hJ' HT1 HTN HB1
  go_wp2_with fail
  go_loopw [37] (fun i wr => ∃ (k : Nat) (a : List Int) (nd : List Nd), k ≤ m ∧ i = .int .i64 (k : Int) ∧ Hid (TowI w wr w.heap.size p w.heap.size aj n cj a nd) ∧ w2.heap.size ≤ wr.heap.size) (fun i _ => m - (intOf i).toNat)
  case atStart => exact ⟨0, a0, nd0, Nat.zero_le _, rfl, HI2, Nat.le_refl _⟩
  case round =>
    obtain ⟨k, a, nd, hk, rfl, HI, hzr⟩ := hrel
    obtain ⟨wo, rfl⟩ : ∃ wo : World, wo = wr := ⟨_, rfl⟩
    by_cases hlt : k < m
    · obtain ⟨s, hs⟩ := lget_some l k (by rw [← HM.out]; exact hlt)
      obtain ⟨b1, o1, rfl, p0, p1, p2, p3⟩ := opn_at (HU.out.below HI.out.below) hs
      obtain ⟨hx1, hf64, ht64⟩ := HX.out s (List.mem_of_getElem? hs)
      obtain ⟨sk, f, t, x⟩ := s
      dsimp only at p0 p1 p2 p3 hx1 hf64 ht64
      obtain ⟨wb, hwb⟩ : ∃ wb, wb = wo.alloc (.cells #[.int .i64 sk, .int .i64 f, .int .i64 t, .int .i64 x] 58) := ⟨_, rfl⟩
      have hbx : wb.heap[wo.heap.size]? = some (.cells #[.int .i64 sk, .int .i64 f, .int .i64 t, .int .i64 x] 58 (0, 0)) := by rw [hwb]; exact World.alloc_heap_new _ _
      have HIB : Hid (TowI w wb w.heap.size p w.heap.size aj n cj a nd) := Lib.hid (HI.out.keep (by rw [hwb]; exact below_alloc _ _))
      obtain ⟨bx, hbxe⟩ : ∃ bx, bx = wo.heap.size := ⟨_, rfl⟩
      have hbw : w2.heap.size ≤ bx := by rw [hbxe]; exact hzr
      rw [← hbxe] at hbx
      obtain ⟨⟨c0, c1, c2, c3⟩, z0, z1, z2, z3⟩ := box4 hbx
      have HBX := Lib.hid hbx
      have HWB := Lib.hid hwb
      have HBE := Lib.hid hbxe
      clear hs hwb hbxe hbx
      go_upto_region 8 with fail
      rw [← HWB.out, ← HBE.out]
      obtain ⟨lg, hlg⟩ : ∃ lg : Bool, lg = decide (0 ≤ f ∧ f ≤ t ∧ t ≤ (n : Int)) := ⟨_, rfl⟩
      have HLG := Lib.hid hlg
      go_cut [9] (fun s9 wx => s9 = .bool lg ∧ wx = wb)
      case first =>
        by_cases g1 : 0 ≤ f
        · by_cases g2 : f ≤ t
          · by_cases g3 : t ≤ (n : Int)
            · have e : lg = true := by rw [hlg]; exact decide_eq_true ⟨g1, g2, g3⟩
              clear hlg
              subst e
              go_wp2_with fail
              go_meet
              exact ⟨rfl, rfl⟩
            · have e : lg = false := by rw [hlg]; exact decide_eq_false fun h => g3 h.2.2
              clear hlg
              subst e
              go_wp2_with fail
              go_meet
              exact ⟨rfl, rfl⟩
          · have e : lg = false := by rw [hlg]; exact decide_eq_false fun h => g2 h.2.1
            clear hlg
            subst e
            go_wp2_with fail
            go_meet
            exact ⟨rfl, rfl⟩
        · have e : lg = false := by rw [hlg]; exact decide_eq_false fun h => g1 h.1
          clear hlg
          subst e
          go_wp2_with fail
          go_meet
          exact ⟨rfl, rfl⟩
      case rest =>
        obtain ⟨rfl, rfl⟩ := hcut
        clear hlg
        have hgw : w.heap.size < w1.heap.size := HPW.out.2
        have hpw : p < w1.heap.size := HPW.out.1
        have hzc : w2.heap.size ≤ wc.heap.size := by have := (Array.getElem?_eq_some_iff.1 HBX.out).1; omega
        clear hk
        by_cases hk0 : sk = 0
        · subst hk0
          as_aux_lemma =>
            obtain ⟨ok, hok⟩ : ∃ ok : Bool, ok = decide (0 ≤ f ∧ f < (n : Int)) := ⟨_, rfl⟩
            have HOK := Lib.hid hok
            go_upto_region 23 with fail
            go_cut [10] (fun s10 wx => s10 = .bool ok ∧ wx = wc)
            case first =>
              by_cases g1 : 0 ≤ f
              · by_cases g2 : f < (n : Int)
                · have e : ok = true := by rw [hok]; exact decide_eq_true ⟨g1, g2⟩
                  clear hok
                  subst e
                  go_wp2_with fail
                  go_meet
                  exact ⟨rfl, rfl⟩
                · have e : ok = false := by rw [hok]; exact decide_eq_false fun h => g2 h.2
                  clear hok
                  subst e
                  go_wp2_with fail
                  go_meet
                  exact ⟨rfl, rfl⟩
              · have e : ok = false := by rw [hok]; exact decide_eq_false fun h => g1 h.1
                clear hok
                subst e
                go_wp2_with fail
                go_meet
                exact ⟨rfl, rfl⟩
            case rest =>
              obtain ⟨rfl, rfl⟩ := hcut
              clear hok
              cases ok
              · have hno : ¬ (0 ≤ f ∧ f < (n : Int)) := of_decide_eq_false HOK.out.symm
                have HSN := Lib.hid (set_no f x _ HIB.out.tree (by omega))
                clear hno
                go_wp2_with fail
                refine HSN.out.mono ?_
                rintro _ _ ⟨rfl, rfl⟩
                go_wp2_with fail
                go_roundw
                case rel => exact ⟨k + 1, a, nd, by omega, by go_num, HIB, hzc⟩
                case measure => simp [intOf]; omega
              · obtain ⟨g1, g2⟩ : 0 ≤ f ∧ f < (n : Int) := of_decide_eq_true HOK.out.symm
                obtain ⟨j, hj⟩ := Int.eq_ofNat_of_zero_le g1
                subst hj
                have hjn : j < n := by omega
                have HST := Lib.hid (set_yes a nd j x _ HIB.out.tree HIB.out.num HIB.out.len HIB.out.n64 hn2 hjn hx1)
                obtain ⟨gq, cq, hsh⟩ := HIB.out.own.shape_pos (by rw [HIB.out.len]; omega)
                have eh1 := (Value.slice.inj hsh).1
                have eh3 := (Value.slice.inj hsh).2.2
                clear hsh
                subst eh1
                subst eh3
                have hgq := HOJ.out gq rfl
                go_wp2_with fail
                refine HST.out.mono ?_
                rintro _ w3 ⟨nd2, rfl, hT3, hN3, hg3⟩
                have hK3 := Kept.of_grown hg3
                have c1' := hK3.cell (by show ¬ some bx = some w.heap.size; intro e; cases e; omega) c1
                have c3' := hK3.cell (by show ¬ some bx = some w.heap.size; intro e; cases e; omega) c3
                have hown3 : Own i64E w3 w.heap.size (.slice (some ⟨gq, 0, none⟩) n _) a := own_kept HIB.out.own hK3 (fun k h1 h2 => by have e : gq = w.heap.size := Option.some.inj (h1.trans h2); omega)
                obtain ⟨y, hy⟩ := lget_some a j (by rw [HIB.out.len]; exact hjn)
                have hyc : w3.cell? ⟨gq, j, none⟩ = some (.int .i64 y) := by
                  obtain ⟨b, o, e, hc⟩ := i64_at hown3.sl hy
                  cases e
                  simpa using hc
                have hput : Own i64E (w3.setCell ⟨gq, j * 1, none⟩ (.int .i64 x)) w.heap.size (.slice (some ⟨gq, 0, none⟩) n _) (a.set j x) := (hown3.put (E := i64E) (k := j) (x := x) (cs := [.int .i64 x]) HIB.out.len hjn rfl).1
                rw [Nat.mul_one] at hput
                have hfz : w3.frozen? ⟨gq, j, none⟩ = false := hown3.frozen HIB.out.len _
                have hB3 : Below w.heap.size w w3 := HIB.out.below.grown hg3 HIB.out.below.size (fun j hj => by cases hj; exact Nat.le_refl _)
                have HF : Hid (TowI w (w3.setCell ⟨gq, j, none⟩ (.int .i64 x)) w.heap.size p w.heap.size (some ⟨gq, 0, none⟩) n _ (a.set j x) nd2) := Lib.hid
                  ⟨hT3.kept (kept_set (G := fun m => m = gq) (q := ⟨gq, j, none⟩) rfl) (by omega) (by omega), hN3, hput, by rw [List.length_set]; exact HIB.out.len, (fun z hz => by
                    rcases List.mem_or_eq_of_mem_set hz with h | h
                    · exact HIB.out.n64 z h
                    · rw [h]; exact hx1), hB3.setCell (by show w.heap.size ≤ gq; omega) _⟩
                have hzf : w2.heap.size ≤ (w3.setCell ⟨gq, j, none⟩ (.int .i64 x)).heap.size := by
                  have := hg3.size
                  have h5 : (w3.setCell ⟨gq, j, none⟩ (.int .i64 x)).heap.size = w3.heap.size := by simp [World.setCell]
                  omega
                have hjI : (j : Int) < (n : Int) := by omega
                clear hT3 hN3 hg3 hK3 hown3 hy hput hB3 HST
                go_wp2_with fail
                go_roundw
                case rel => exact ⟨k + 1, _, nd2, by omega, by go_num, HF, hzf⟩
                case measure => simp [intOf]; omega
        · by_cases hk1 : sk = 1
          · subst hk1
            as_aux_lemma =>
              clear hk0
              have HSMW := Lib.hid fun W (h : Below wc.heap.size wc W) => sum_all f t W (HIB.out.tree.below h) HIB.out.num HIB.out.len HIB.out.n64 hn2
              obtain ⟨rr, hrr⟩ : ∃ rr, rr = sumR a f t := ⟨_, rfl⟩
              rw [← hrr] at HSMW
              have hlr : lg = false → rr = (0, false) := fun h => by
                rw [hrr]
                exact sumR_illegal (by rw [HIB.out.len]; exact of_decide_eq_false ((HLG.out.symm.trans h)))
              have hlt2 : lg = true → ∃ i j : Nat, f = (i : Int) ∧ t = (j : Int) ∧ i ≤ j ∧ j ≤ n ∧ rr = totR (elts a i j) := fun h => by
                obtain ⟨g1, g2, g3⟩ : 0 ≤ f ∧ f ≤ t ∧ t ≤ (n : Int) := of_decide_eq_true (HLG.out.symm.trans h)
                obtain ⟨i, hi⟩ := Int.eq_ofNat_of_zero_le g1
                obtain ⟨j, hj⟩ := Int.eq_ofNat_of_zero_le (show 0 ≤ t by omega)
                refine ⟨i, j, hi, hj, by omega, by omega, ?_⟩
                rw [hrr, hi, hj]
                exact sumR_legal (by omega) (by rw [HIB.out.len]; omega)
              obtain ⟨rx, rq⟩ := rr
              have HLR := Lib.hid hlr
              have HLT := Lib.hid hlt2
              clear hrr hlr hlt2
              go_upto_if 175 with fail
              go_cut [11, 12] (fun s11 s12 wx => s11 = .int .i64 rx ∧ s12 = .bool rq ∧ Hid (Below wc.heap.size wc wx))
              case first =>
                cases lg
                · obtain ⟨rfl, rfl⟩ := Prod.mk.inj (HLR.out rfl)
                  go_wp2_with fail
                  go_meet
                  exact ⟨rfl, rfl, Lib.hid (.refl _ _)⟩
                · obtain ⟨i, j, rfl, rfl, hij, hjn, hrr⟩ := HLT.out rfl
                  have hnum : Num64 (elts a i j) := fun z hz => by
                    unfold elts at hz
                    obtain ⟨q, _, rfl⟩ := List.mem_map.1 hz
                    unfold elt
                    cases e : a[q]? with
                    | none => simp
                    | some y => exact HIB.out.n64 y (List.mem_of_getElem? e)
                  have hsll := elts_slice (a := a) (frm := i) (tto := j) (by rw [HIB.out.len]; exact hjn)
                  have helen : (elts a i j).length ≤ 1000 := by unfold elts; rw [List.length_map, List.length_range']; omega
                  have HTT := fun v (h : Sl i64E wc free v (elts a i j)) => Lib.hid (total_any v (elts a i j) wc h hnum helen)
                  rw [← hrr] at HTT
                  have hcap := HIB.out.own.sl.cap
                  have hjc : (j : Int) ≤ (cj : Int) := by omega
                  have hijI : (i : Int) ≤ (j : Int) := by omega
                  clear hnum helen hrr
                  rcases Nat.eq_zero_or_pos n with hn0 | hn0
                  · obtain rfl : j = 0 := by omega
                    obtain rfl : i = 0 := by omega
                    clear hsll hn0
                    go_wp2_with fail
                    refine (HTT _ (by rw [elts_nil]; exact Sl.nil _ _ _ _ _)).out.mono ?_
                    rintro _ w3 ⟨rfl, hb3⟩
                    have HB3 := Lib.hid hb3
                    clear hb3 HTT
                    go_wp2_with fail
                    go_meet
                    exact ⟨rfl, rfl, HB3⟩
                  · obtain ⟨gq, cq, hsh⟩ := HIB.out.own.shape_pos (by rw [HIB.out.len]; omega)
                    have eh1 := (Value.slice.inj hsh).1
                    clear hsh
                    subst eh1
                    by_cases hci : cj = i
                    · have e0 : j - i = 0 := by omega
                      have hS : Sl i64E wc free (.slice (some ⟨gq, 0, none⟩) (j - i) 0) (elts a i j) := by
                        rw [hsll, e0, List.take_zero]
                        exact Sl.nil _ _ _ _ _
                      subst hci
                      clear hsll e0
                      go_wp2_with fail
                      refine (HTT _ hS).out.mono ?_
                      rintro _ w3 ⟨rfl, hb3⟩
                      have HB3 := Lib.hid hb3
                      clear hb3 HTT
                      go_wp2_with fail
                      go_meet
                      exact ⟨rfl, rfl, HB3⟩
                    · have hS : Sl i64E wc free (.slice (some ⟨gq, i, none⟩) (j - i) (cj - i)) (elts a i j) := by
                        have h1 := HIB.out.own.sl.dropS (k := i) (by omega)
                        have h2 := h1.takeS (k := j - i) (by omega)
                        rw [← hsll, show i * i64E.size = i from Nat.mul_one i, Option.map_some, Addr.add_lit, Nat.zero_add] at h2
                        exact h2
                      clear hsll
                      go_wp2_with fail
                      refine (HTT _ hS).out.mono ?_
                      rintro _ w3 ⟨rfl, hb3⟩
                      have HB3 := Lib.hid hb3
                      clear hb3 HTT
                      go_wp2_with fail
                      go_meet
                      exact ⟨rfl, rfl, HB3⟩
              case rest =>
                obtain ⟨rfl, rfl, HBc⟩ := hcut
                have hb5 := HBc.out
                have HSM := Lib.hid (HSMW.out _ hb5)
                have HI5 := Lib.hid (HIB.out.keep hb5)
                have hz5 := Nat.le_trans hzc hb5.size
                have d1 := cell_keep hb5 c1
                have d2 := cell_keep hb5 c2
                clear hb5 HBc HIB HSMW c0 c1 c2 c3 z0 z1 z2 z3
                go_wp2_with fail
                refine HSM.out.mono ?_
                rintro _ w4 ⟨rfl, hb4⟩
                have HF := Lib.hid (HI5.out.keep hb4)
                have hzf := Nat.le_trans hz5 hb4.size
                clear hb4 HSM HI5 d1 d2 hz5
                go_upto_region 33 with fail
                go_cut [205] (fun s205 wx => s205 = .bool false ∧ wx = w4)
                case first =>
                  cases lg
                  · have e : rq = false := congrArg Prod.snd (HLR.out rfl)
                    subst e
                    go_wp2_with fail
                    go_meet
                    exact ⟨rfl, rfl⟩
                  · cases rq
                    · go_wp2_with fail
                      go_meet
                      exact ⟨rfl, rfl⟩
                    · go_wp2_with fail
                      go_meet
                      exact ⟨rfl, rfl⟩
                case rest =>
                  obtain ⟨rfl, rfl⟩ := hcut
                  go_wp2_with fail
                  go_roundw
                  case rel => exact ⟨k + 1, a, nd, by omega, by go_num, HF, hzf⟩
                  case measure => simp [intOf]; omega
          · cases lg
            · as_aux_lemma =>
                have hil : ¬ (0 ≤ f ∧ f ≤ t ∧ t ≤ (a.length : Int)) := by rw [HIB.out.len]; exact of_decide_eq_false HLG.out.symm
                have HIL := Lib.hid hil
                have HMNW := Lib.hid (min_all f t wc HIB.out.tree HIB.out.num HIB.out.len HIB.out.n64 hn2)
                have HMXW := Lib.hid fun W (h : Below wc.heap.size wc W) => max_all f t W (HIB.out.tree.below h) HIB.out.num HIB.out.len HIB.out.n64 hn2
                clear hil
                go_upto_region 12 with fail
                go_loopw [15, 16, 17] (fun l h i wr => l = .int .i64 0 ∧ h = .int .i64 0 ∧ i = .int .i64 f ∧ wr = wc) (fun _ _ _ _ => 0)
                case atStart => exact ⟨rfl, rfl, rfl, rfl⟩
                case round =>
                  obtain ⟨rfl, rfl, rfl, rfl⟩ := hrel
                  go_wp2_with fail
                  refine HMNW.out.mono ?_
                  rintro _ w3 ⟨x1, q1, ⟨rfl, hb3⟩, hq1, _, h01⟩
                  obtain rfl : q1 = false := by
                    cases q1
                    · rfl
                    · have := hq1.1 rfl; exact absurd ⟨this.1, by omega, this.2.2⟩ HIL.out
                  obtain rfl : x1 = 0 := h01 rfl
                  have HI3 := Lib.hid (HIB.out.keep hb3)
                  have hz3 := Nat.le_trans hzc hb3.size
                  have d1 := cell_keep hb3 c1
                  have d2 := cell_keep hb3 c2
                  have HMX := Lib.hid (HMXW.out w3 hb3)
                  clear hb3 hq1 h01 HMNW HMXW
                  go_wp2_with fail
                  refine HMX.out.mono ?_
                  rintro _ w4 ⟨y1, q2, ⟨rfl, hb4⟩, hq2, _, h02⟩
                  obtain rfl : q2 = false := by
                    cases q2
                    · rfl
                    · have := hq2.1 rfl; exact absurd ⟨this.1, by omega, this.2.2⟩ HIL.out
                  obtain rfl : y1 = 0 := h02 rfl
                  have HF := Lib.hid (HI3.out.keep hb4)
                  have hzf := Nat.le_trans hz3 hb4.size
                  clear hb4 hq2 h02 HMX d1 d2
                  go_wp2_with fail
                  go_roundw
                  case rel => exact ⟨k + 1, a, nd, by omega, by go_num, HF, hzf⟩
                  case measure => simp [intOf]; omega
            · as_aux_lemma =>
                obtain ⟨g1, g2, g3⟩ : 0 ≤ f ∧ f ≤ t ∧ t ≤ (n : Int) := of_decide_eq_true HLG.out.symm
                obtain ⟨i0, hi0⟩ := Int.eq_ofNat_of_zero_le g1
                obtain ⟨j0, hj0⟩ := Int.eq_ofNat_of_zero_le (show 0 ≤ t by omega)
                subst hi0
                subst hj0
                have hij : i0 ≤ j0 := by omega
                have hjn : j0 ≤ n := by omega
                have HMNW := Lib.hid (min_all (i0 : Int) (j0 : Int) wc HIB.out.tree HIB.out.num HIB.out.len HIB.out.n64 hn2)
                have HMXW := Lib.hid fun W (h : Below wc.heap.size wc W) => max_all (i0 : Int) (j0 : Int) W (HIB.out.tree.below h) HIB.out.num HIB.out.len HIB.out.n64 hn2
                have HSC := Lib.hid HIB.out.own.sl
                have HAL := Lib.hid HIB.out.len
                clear g1 g2 g3
                go_upto_region 12 with fail
                have hk0' : (sk == 0) = false := by simpa using hk0
                have hk1' : (sk == 1) = false := by simpa using hk1
                rw [hk0', hk1']
                clear hk0 hk1 hk0' hk1'
                go_loopw [15, 16, 17] (fun l h i wr => ∃ (low high : Int) (q : Nat), l = .int .i64 low ∧ h = .int .i64 high ∧ i = .int .i64 (q : Int) ∧ i0 ≤ q ∧ q ≤ j0 ∧ wr = wc ∧ Hid (ExtI a i0 q low high)) (fun _ _ i _ => j0 - (intOf i).toNat)
                case atStart => exact ⟨0, 0, i0, rfl, rfl, rfl, Nat.le_refl _, hij, rfl, Lib.hid (.inl ⟨rfl, rfl, rfl⟩)⟩
                case round =>
                  obtain ⟨low, high, q, rfl, rfl, rfl, hq1, hq2, rfl, HE⟩ := hrel
                  by_cases hql : q < j0
                  · obtain ⟨y, hy⟩ := lget_some a q (by rw [HAL.out]; omega)
                    have HE2 := Lib.hid (HE.out.step hq1 hy)
                    obtain ⟨b, o, rfl, hyc⟩ := i64_at HSC.out hy
                    obtain ⟨lw2, hlw2⟩ : ∃ z, z = if q = i0 ∨ y < low then y else low := ⟨_, rfl⟩
                    obtain ⟨hg2, hhg2⟩ : ∃ z, z = if q = i0 ∨ high < y then y else high := ⟨_, rfl⟩
                    rw [← hlw2, ← hhg2] at HE2
                    have HL2 := Lib.hid hlw2
                    have HH2 := Lib.hid hhg2
                    have hqlI : (q : Int) < (j0 : Int) := by omega
                    have hqnI : (q : Int) < (n : Int) := by omega
                    clear hy hlw2 hhg2 HE HMNW HMXW
                    go_upto_region 14 with fail
                    obtain ⟨qa, hqa⟩ : ∃ qa : Bool, qa = decide (q = i0 ∨ y < low) := ⟨_, rfl⟩
                    have HQA := Lib.hid hqa
                    go_cut [82] (fun s82 wx => s82 = .bool qa ∧ wx = wr)
                    case first =>
                      by_cases hqi : q = i0
                      · have e : qa = true := by rw [hqa]; exact decide_eq_true (.inl hqi)
                        clear hqa
                        have hqe1 : ((q : Int) == (i0 : Int)) = true := by simp [hqi]
                        have hqe2 : (q == i0) = true := by simp [hqi]
                        have hqe3 : decide (q = i0) = true := by simp [hqi]
                        have hqe4 : decide ((q : Int) = (i0 : Int)) = true := by simp [hqi]
                        clear hqi
                        subst e
                        go_wp2_with fail
                        go_meet
                        exact ⟨rfl, rfl⟩
                      · have hqi2 : ((q : Int) == (i0 : Int)) = false := by simp; omega
                        have hqi3 : ¬ (q : Int) = (i0 : Int) := by omega
                        by_cases hyl : y < low
                        · have e : qa = true := by rw [hqa]; exact decide_eq_true (.inr hyl)
                          clear hqa
                          subst e
                          go_wp2_with fail
                          go_meet
                          exact ⟨rfl, rfl⟩
                        · have e : qa = false := by rw [hqa]; exact decide_eq_false (fun h => h.elim hqi hyl)
                          have hyd : decide (y < low) = false := decide_eq_false hyl
                          have hyl2 : low ≤ y := by omega
                          clear hqa
                          subst e
                          go_wp2_with fail
                          go_meet
                          exact ⟨rfl, rfl⟩
                    case rest =>
                      obtain ⟨rfl, rfl⟩ := hcut
                      clear hqa
                      go_upto_if 82 with fail
                      go_cut [15] (fun s15 wx => s15 = .int .i64 lw2 ∧ wx = wc)
                      case first =>
                        cases qa
                        · have e : lw2 = low := by rw [HL2.out, if_neg (of_decide_eq_false HQA.out.symm)]
                          subst e
                          go_wp2_with fail
                          go_meet
                          exact ⟨rfl, rfl⟩
                        · have e : lw2 = y := by rw [HL2.out, if_pos (of_decide_eq_true HQA.out.symm)]
                          subst e
                          go_wp2_with fail
                          go_meet
                          exact ⟨rfl, rfl⟩
                      case rest =>
                        obtain ⟨rfl, rfl⟩ := hcut
                        go_upto_region 16 with fail
                        obtain ⟨qb, hqb⟩ : ∃ qb : Bool, qb = decide (q = i0 ∨ high < y) := ⟨_, rfl⟩
                        have HQB := Lib.hid hqb
                        go_cut [98] (fun s98 wx => s98 = .bool qb ∧ wx = wc)
                        case first =>
                          by_cases hqi : q = i0
                          · have e : qb = true := by rw [hqb]; exact decide_eq_true (.inl hqi)
                            clear hqb
                            have hqe1 : ((q : Int) == (i0 : Int)) = true := by simp [hqi]
                            have hqe2 : (q == i0) = true := by simp [hqi]
                            have hqe3 : decide (q = i0) = true := by simp [hqi]
                            have hqe4 : decide ((q : Int) = (i0 : Int)) = true := by simp [hqi]
                            clear hqi
                            subst e
                            go_wp2_with fail
                            go_meet
                            exact ⟨rfl, rfl⟩
                          · have hqi2 : ((q : Int) == (i0 : Int)) = false := by simp; omega
                            have hqi3 : ¬ (q : Int) = (i0 : Int) := by omega
                            by_cases hyl : high < y
                            · have e : qb = true := by rw [hqb]; exact decide_eq_true (.inr hyl)
                              clear hqb
                              subst e
                              go_wp2_with fail
                              go_meet
                              exact ⟨rfl, rfl⟩
                            · have e : qb = false := by rw [hqb]; exact decide_eq_false (fun h => h.elim hqi hyl)
                              have hyd : decide (high < y) = false := decide_eq_false hyl
                              have hyl2 : y ≤ high := by omega
                              clear hqb
                              subst e
                              go_wp2_with fail
                              go_meet
                              exact ⟨rfl, rfl⟩
                        case rest =>
                          obtain ⟨rfl, rfl⟩ := hcut
                          clear hqb
                          cases qb
                          · have e : hg2 = high := by rw [HH2.out, if_neg (of_decide_eq_false HQB.out.symm)]
                            subst e
                            go_wp2_with fail
                            go_roundw
                            case rel => exact ⟨lw2, hg2, q + 1, rfl, rfl, by go_num, by omega, by omega, by first | trivial | rfl, HE2⟩
                            case measure => simp [intOf]; omega
                          · have e : hg2 = y := by rw [HH2.out, if_pos (of_decide_eq_true HQB.out.symm)]
                            subst e
                            go_wp2_with fail
                            go_roundw
                            case rel => exact ⟨lw2, hg2, q + 1, rfl, rfl, by go_num, by omega, by omega, by first | trivial | rfl, HE2⟩
                            case measure => simp [intOf]; omega
                  · obtain rfl : q = j0 := by omega
                    clear hq1 hq2 hql
                    go_wp2_with fail
                    refine HMNW.out.mono ?_
                    rintro _ w3 ⟨x1, q1, ⟨rfl, hb3⟩, hq1, hm1, h01⟩
                    have HI3 := Lib.hid (HIB.out.keep hb3)
                    have hz3 := Nat.le_trans hzc hb3.size
                    have d1 := cell_keep hb3 c1
                    have d2 := cell_keep hb3 c2
                    have HMX := Lib.hid (HMXW.out w3 hb3)
                    have HQ1 := Lib.hid (And.intro hq1 (And.intro hm1 h01))
                    clear hb3 hq1 hm1 h01 HMNW HMXW
                    go_wp2_with fail
                    refine HMX.out.mono ?_
                    rintro _ w4 ⟨y1, q2, ⟨rfl, hb4⟩, hq2, hm2', h02⟩
                    obtain ⟨e1, e2, e3, e4⟩ := ext_same HQ1.out.1 hq2 HQ1.out.2.1 HQ1.out.2.2 hm2' h02 (low := low) (high := high) ⟨fun _ => by rw [Int.toNat_natCast, Int.toNat_natCast]; exact HE.out, fun h => absurd ⟨by omega, by omega, by rw [HAL.out]; omega⟩ h⟩
                    subst e1
                    subst e2
                    subst e3
                    have HF := Lib.hid (HI3.out.keep hb4)
                    have hzf := Nat.le_trans hz3 hb4.size
                    have f1 := cell_keep hb4 d1
                    have f2 := cell_keep hb4 d2
                    have e5 : q1 = decide ((i0 : Int) < (q : Int)) := by
                      rw [e4, decide_eq_true (⟨by omega, by omega, by rw [HAL.out]; omega⟩ : 0 ≤ (i0 : Int) ∧ (i0 : Int) ≤ (q : Int) ∧ (q : Int) ≤ (a.length : Int)), Bool.true_and]
                    clear hb4 hq2 hm2' h02 HMX d1 d2 e4 HQ1
                    by_cases hft : i0 < q
                    · obtain rfl : q1 = true := by rw [e5]; exact decide_eq_true (by omega)
                      have hftI : (i0 : Int) < (q : Int) := by omega
                      clear e5
                      go_wp2_with fail
                      go_roundw
                      case rel => exact ⟨k + 1, a, nd, by omega, by go_num, HF, hzf⟩
                      case measure => simp [intOf]; omega
                    · obtain rfl : q1 = false := by rw [e5]; exact decide_eq_false (by omega)
                      have hftI : ¬ (i0 : Int) < (q : Int) := by omega
                      clear e5
                      go_wp2_with fail
                      go_roundw
                      case rel => exact ⟨k + 1, a, nd, by omega, by go_num, HF, hzf⟩
                      case measure => simp [intOf]; omega
    · have HLN := fun W (h : Below wo.heap.size wo W) => Lib.hid (len_tree W (HI.out.tree.below h))
      have HBI := Lib.hid HI.out.below
      clear HI
      go_wp2_with fail
      refine (HAW _).out.mono ?_
      rintro _ w6 ⟨rfl, hb6⟩
      have HL6 := HLN w6 hb6
      have HB6 := Lib.hid (below_keep HBI.out hb6)
      clear hb6 HLN
      go_wp2_with fail
      refine HL6.out.mono ?_
      rintro _ _ ⟨rfl, rfl⟩
      go_wp2_with fail
      go_ret
      exact ⟨rfl, HB6.out⟩
end Go.Proofs.Ytfmbbfidjcgeiaa
