/- A part of the proofs: Mrg, RSpl, SplJ, ShCp, Bnd, Put, Mov, TrE, TrS, TrN. No condition beside sizes and tables that read as laid. -/
import Derived.Test.YtfmbbfidjcgeiaaMgAb
import Derived.Test.YtfmbbfidjcgeiaaMgAa
import Derived.Shelf.Small.Bits
import Derived.Shelf.Small.Strs
import Derived.Shelf.Strconv.Itoa0
import Derived.Shelf.Sort.Plain
import Derived.Shelf.Bits.Mul64
import Derived.Ground.Names2Prog
import Derived.Shelf.Slices.Clone
import Derived.Shelf.Slices.CompactI
import Derived.Shelf.Slices.SearchI
import Derived.Shelf.Slices.Cells
import Derived.Shelf.Slices.In.SortNone
import Derived.Shelf.Slices.Empties
import Derived.Ground.SlgnProg
import Derived.Shelf.SlicesG.SearchI
import Derived.Shelf.SlicesE.Clone
import Derived.Test.YtfmbbfidjcgeiaaProg
import Derived.Test.YtfmbbfidjcgeiaaMgAd
import Derived.Test.YtfmbbfidjcgeiaaMgAc
import Derived.Deep.DeepCutAuto
import Derived.OwnWalk
namespace Go.Proofs.Ytfmbbfidjcgeiaa
open Go.RowKit Go.Lib Go.Shelf

theorem ints_at {w : World} {G : Nat → Prop} {a : Option Addr} {n c k : Nat} {l : List Int} {x : Int} (h : Sl intE w G (.slice a n c) l) (hk : l[k]? = some x) : ∃ b o, a = some ⟨b, o, none⟩ ∧ w.cell? ⟨b, o + k, none⟩ = some (.int .i64 x) := by
  obtain ⟨b, o, cs, ha, rfl, hc⟩ := Sl.at h hk
  have h0 : w.cell? ⟨b, o + k * 1 + 0, none⟩ = some (.int .i64 x) := hc 0 _ rfl
  rw [Nat.mul_one, Nat.add_zero] at h0
  exact ⟨b, o, ha, h0⟩
/-- After j of both slices. -/
def accU (a b : List Int) : Nat → List Int
  | 0 => []
  | 1 => a.foldl ins []
  | _ => mergeL a b
theorem accU_length (a b : List Int) (j : Nat) : (accU a b j).length ≤ a.length + b.length := by
  match j with
  | 0 => simp [accU]
  | 1 => have := foldIns_length a []; simp [accU] at *; omega
  | j + 2 => exact mergeL_length a b

set_option maxHeartbeats 8000000 in
set_option maxRecDepth 100000 in
theorem merge_any (v u : Value) (a b : List Int) (w : World) (hv : Sl intE w free v a) (hu : Sl intE w free u b) (hs : a.length + b.length ≤ 1000000000) :
    Calls Try.prog 60 #[v, u] w (RetOwn intE w (mergeL a b)) := by
  obtain ⟨a1, c1, rfl⟩ := hv.shape
  obtain ⟨a2, c2, rfl⟩ := hu.shape
  have HA := Lib.hid hv
  have HB := Lib.hid hu
  obtain ⟨n1, hn1⟩ : ∃ n, n = a.length := ⟨_, rfl⟩
  obtain ⟨n2, hn2⟩ : ∃ n, n = b.length := ⟨_, rfl⟩
  have HN1 := Lib.hid hn1
  have HN2 := Lib.hid hn2
  rw [← hn1] at HA ⊢
  rw [← hn2] at HB ⊢
  clear hv hu hn1 hn2
  go_enter Try.func60, Try.ntmps60
  go_wp2_with fail
  go_loopw [14, 5] (fun i o wr => ∃ j : Nat, j ≤ 2 ∧ i = .int .i64 j ∧ Own intE wr w.heap.size o (accU a b j) ∧ Below w.heap.size w wr) (fun i _ _ => 2 - (intOf i).toNat)
  case atStart => exact ⟨0, Nat.zero_le _, rfl, Own.nil _ _ _, Below.refl _ _⟩
  case round =>
    obtain ⟨j, hj, rfl, hO, hB⟩ := hrel
    obtain ⟨wo, rfl⟩ : ∃ wo : World, wo = wr := ⟨_, rfl⟩
    obtain ⟨oa, oc, rfl⟩ := hO.shape
    by_cases hlt : j < 2
    · obtain ⟨a3, c3, n3, lx, hidx, hlx, hn3, hacc⟩ : ∃ (a3 : Option Addr) (c3 n3 : Nat) (lx : List Int), (∀ W, (Instr.index 130 (.agg #[.slice a1 n1 c1, .slice a2 n2 c2]) (.int .i64 (j : Int))).run Try.prog W = .ok (.slice a3 n3 c3) W) ∧ Sl intE w free (.slice a3 n3 c3) lx ∧ lx.length = n3 ∧ Hid (∀ q, ((lx.take q).foldl ins (accU a b j)).length ≤ a.length + b.length) ∧ lx.foldl ins (accU a b j) = accU a b (j + 1) ∧ n3 ≤ 1000000000 := by
        have hlen : ∀ (xs l : List Int) (q : Nat), ((xs.take q).foldl ins l).length ≤ l.length + xs.length := fun xs l q => Nat.le_trans (foldIns_length _ _) (by rw [List.length_take]; omega)
        rcases (by omega : j = 0 ∨ j = 1) with rfl | rfl
        · exact ⟨a1, c1, n1, a, fun W => by kernel_rfl, HA.out, HN1.out.symm, fun q => by have := hlen a [] q; simp [accU] at *; omega, rfl, by have := HN1.out; omega⟩
        · refine ⟨a2, c2, n2, b, fun W => by kernel_rfl, HB.out, HN2.out.symm, fun q => ?_, by simp [accU, mergeL], by have := HN2.out; omega⟩
          have := hlen b (accU a b 1) q
          have h2 := foldIns_length a []
          simp [accU] at *; omega
      obtain ⟨hacb, hacc, hn3b⟩ := hacc
      have HACC := Lib.hid hacc
      have HL3 := Lib.hid hn3
      have HLX := Lib.hid hlx
      clear hacc hn3 hlx
      have hjd : decide ((j : Int) < 2) = true := by simp; omega
      go_wp2_with fail
      go_loopw [19, 5] (fun i o wr => ∃ q : Nat, q ≤ n3 ∧ i = .int .i64 q ∧ Own intE wr w.heap.size o ((lx.take q).foldl ins (accU a b j)) ∧ Below w.heap.size w wr) (fun i _ _ => n3 - (intOf i).toNat)
      case atStart => exact ⟨0, Nat.zero_le _, rfl, hO, hB⟩
      case round =>
        obtain ⟨q, hq, rfl, hO2, hB2⟩ := hrel
        obtain ⟨wp, rfl⟩ : ∃ wp : World, wp = wr := ⟨_, rfl⟩
        have hml := hacb.out q
        obtain ⟨out, hout⟩ : ∃ out, out = (lx.take q).foldl ins (accU a b j) := ⟨_, rfl⟩
        have HOUT := Lib.hid hout
        rw [← hout] at hO2 hml
        obtain ⟨m, hm⟩ : ∃ m, m = out.length := ⟨_, rfl⟩
        obtain ⟨pa, pc, rfl⟩ := hO2.shape
        have HM := Lib.hid hm
        rw [← hm] at hO2 hml ⊢
        have hmx : m ≤ 1000000000 := by omega
        have hml1 : out.length ≤ m := Nat.le_of_eq HM.out.symm
        have hml2 : m ≤ out.length := Nat.le_of_eq HM.out
        clear hout hm hml
        by_cases hlt2 : q < n3
        · obtain ⟨x, hx⟩ := lget_some lx q (by rw [HL3.out]; exact hlt2)
          obtain ⟨b3, o3, e3, hat⟩ := ints_at HLX.out hx
          subst e3
          replace hat := cell_keep hB2 hat
          have HNEXT : Hid ((lx.take (q + 1)).foldl ins (accU a b j) = ins out x) := by show _ = _; rw [take_get hx, List.foldl_append, ← HOUT.out]; rfl
          clear hx
          go_wp2_with fail
          go_loop [10] (fun t => ∃ k : Nat, k ≤ m ∧ t = .int .i64 k ∧ Hid (∀ i y, i < k → out[i]? = some y → y < x)) (fun t => m - (intOf t).toNat)
          case atStart => exact ⟨0, Nat.zero_le _, rfl, fun i y h => absurd h (Nat.not_lt_zero i)⟩
          case round =>
            obtain ⟨k, hk, rfl, HK⟩ := hrel
            by_cases h3 : k < m
            · obtain ⟨y, hy⟩ := lget_some out k (by rw [← HM.out]; exact h3)
              obtain ⟨b4, o4, e4, hat4⟩ := ints_at hO2.sl hy
              subst e4
              have HY := Lib.hid hy
              have hkb : ((k : Int) == (m : Int)) = false := by rw [beq_eq_false_iff_ne]; omega
              have hkl : (k : Int) < (m : Int) := by omega
              by_cases h4 : y < x
              · clear hy
                go_wp2_with fail
                go_round
                case rel =>
                  refine ⟨k + 1, by omega, by go_num, fun i z hi hz => ?_⟩
                  rcases Nat.lt_or_ge i k with h | h
                  · exact HK.out i z h hz
                  · have : i = k := by omega
                    subst this
                    rw [HY.out] at hz; cases hz; exact h4
                case measure => simp [intOf]; omega
              · have hlead : lead x out = k := lead_eq x out k (by omega) HK.out (fun z hz => by rw [hy] at hz; cases hz; exact h4)
                by_cases h5 : y = x
                · have HINS : Hid ((lx.take (q + 1)).foldl ins (accU a b j) = out) := by show _ = _; rw [HNEXT.out, ins, hlead, if_pos (by rw [hy, h5])]
                  have h5b : (y != x) = false := by simp [h5]
                  have HY5 := Lib.hid h5
                  clear hy hlead h5
                  go_wp2_with fail
                  go_roundw
                  case rel => exact ⟨q + 1, by omega, by go_num, by rw [HINS.out]; exact hO2, hB2⟩
                  case measure => simp [intOf]; omega
                · have HINS : Hid ((lx.take (q + 1)).foldl ins (accU a b j) = out.take k ++ [x] ++ out.drop k) := by show _ = _; rw [HNEXT.out, ins, hlead, if_neg (by rw [hy]; simpa using h5)]
                  have h5b : (y != x) = true := by simpa using h5
                  clear hy hlead
                  have HTL : Hid (([] : List Int).length + (out.take k).length = k) := by show _ = _; simp; omega
                  have HDL : Hid ((out.take k ++ [x]).length + (out.drop k).length = m + 1) := by show _ = _; simp; omega
                  have hcap := hO2.sl.cap
                  have hki1 : (k : Int) ≤ (pc : Int) := by omega
                  have hki2 : (0 : Int) ≤ (k : Int) := by omega
                  have hki3 : (k : Int) ≤ (m : Int) := by omega
                  have hki4 : (m : Int) ≤ (pc : Int) := by omega
                  have HT : Hid (Sl intE wp (fun mm => wp.heap.size ≤ mm) (.slice (some ⟨b4, o4, none⟩) k pc) (out.take k)) := (hO2.sl.takeS hk).old (Nat.le_refl _)
                  have hck : ¬ pc = k := by omega
                  have HD : Hid (Sl intE wp (fun mm => wp.heap.size ≤ mm) (.slice (some ⟨b4, o4 + k, none⟩) (m - k) (pc - k)) (out.drop k)) := by
                    have h := hO2.sl.dropS hk
                    rw [show k * intE.size = k from Nat.mul_one k] at h
                    rw [Option.map_some, Addr.add_lit] at h
                    exact h.old (Nat.le_refl _)
                  go_wp2_with fail
                  go_region_held3 (fun W => Below wp.heap.size wp W)
                    ((first | exact (Below.refl _ _).drew | exact below_alloc_keep (by assumption) | exact Below.trans (by assumption) (Joined.below (by assumption)) | exact Below.trans (by assumption) (Pushed.below (by assumption))))
                    (first
                      | (refine step_join rfl (.const (.slice none 0 0)) (.tmp 51) 49 rfl intE Try.underlying49 wp.heap.size (.slice none 0 0) (.slice (some ⟨b4, o4, none⟩) k pc) [] (out.take k) rfl rfl (Own.nil _ _ _) ((HT.out.below (by assumption)).mono (fun _ _ h => by simp [Value.ownBlock] at h)) (by unfold maxLen; simp; omega) (by show _ * 8 ≤ _; simp; omega) (Below.size (by assumption)) k HTL.out ?_; intro x1 y1 w1 hJ1)
                      | (refine step_push rfl (.tmp 52) (.tmp 54) 49 rfl intE Try.underlying49 wp.heap.size (.slice x1 k y1) (out.take k) rfl hJ1.own [x] #[.int .i64 x] (Els.one rfl) 1 1 rfl rfl (by decide) (by unfold maxLen; simp; omega) (by show _ * 8 ≤ _; simp; omega) hJ1.below.size ?_; intro g cap w2 hP hPa)
                      | (refine step_push_at rfl (.tmp 52) (.tmp 54) 49 rfl intE Try.underlying49 wp.heap.size (.slice x1 k y1) (out.take k) rfl hJ1.own [x] [.int .i64 x] (Els.one rfl) ⟨wp.heap.size, 0, none⟩ 1 1 rfl rfl (fun jj uu hu => hJ1.kept.cell (by simp [Value.ownBlock]) (cells_new wp.drew _ _ jj uu hu)) (by decide) (by unfold maxLen; simp; omega) (by show _ * 8 ≤ _; simp; omega) (Below.size (by assumption)) ?_; intro g cap w2 hP)
                      | (refine step_join rfl (.tmp 55) (.tmp 58) 49 rfl intE Try.underlying49 wp.heap.size (.slice (some ⟨g, 0, none⟩) ((out.take k).length + 1) cap) (.slice (some ⟨b4, o4 + k, none⟩) (m - k) (pc - k)) (out.take k ++ [x]) (out.drop k) rfl rfl (hP.own' (by simp)) ((HD.out.below (by assumption)).mono (fun mm _ hh => ((hP.own' (n := (out.take k).length + 1) (by simp)).lt mm hh.symm).1)) (by unfold maxLen; simp; omega) (by show _ * 8 ≤ _; simp; omega) (Below.size (by assumption)) (m + 1) HDL.out ?_; intro x3 y3 w3 hJ3))
                  all_goals
                    have hb9 : Below wp.heap.size wp w3 := by assumption
                    have hB9 : Below w.heap.size w w3 := hB2.trans (hb9.mono hB2.size)
                    go_wp2_with fail
                    go_roundw
                    case rel => exact ⟨q + 1, by omega, by go_num, by rw [HINS.out]; exact hJ3.own.mono hB2.size, hB9⟩
                    case measure => simp [intOf]; omega
            · have hlead : lead x out = k := lead_eq x out k (by omega) HK.out (fun z hz => by rw [List.getElem?_eq_none (by omega)] at hz; cases hz)
              have HINS : Hid ((lx.take (q + 1)).foldl ins (accU a b j) = out.take k ++ [x] ++ out.drop k) := by show _ = _; rw [HNEXT.out, ins, hlead, if_neg (by rw [List.getElem?_eq_none (by omega)]; simp)]
              have hkb : ((k : Int) == (m : Int)) = true := by rw [beq_iff_eq]; omega
              clear hlead
              have HTL : Hid (([] : List Int).length + (out.take k).length = k) := by show _ = _; simp; omega
              have HDL : Hid ((out.take k ++ [x]).length + (out.drop k).length = m + 1) := by show _ = _; simp; omega
              have hcap := hO2.sl.cap
              have hki1 : (k : Int) ≤ (pc : Int) := by omega
              have hki2 : (0 : Int) ≤ (k : Int) := by omega
              have hki3 : (k : Int) ≤ (m : Int) := by omega
              have hki4 : (m : Int) ≤ (pc : Int) := by omega
              have HT : Hid (Sl intE wp (fun mm => wp.heap.size ≤ mm) (.slice pa k pc) (out.take k)) := (hO2.sl.takeS hk).old (Nat.le_refl _)
              by_cases hck : pc = k
              · have hck' := hck.symm
                subst hck'
                have HD : Hid (Sl intE wp (fun mm => wp.heap.size ≤ mm) (.slice pa 0 0) (out.drop k)) := Sl.none_left (by omega) rfl
                go_wp2_with fail
                go_region_held3 (fun W => Below wp.heap.size wp W)
                  ((first | exact (Below.refl _ _).drew | exact below_alloc_keep (by assumption) | exact Below.trans (by assumption) (Joined.below (by assumption)) | exact Below.trans (by assumption) (Pushed.below (by assumption))))
                  (first
                    | (refine step_join rfl (.const (.slice none 0 0)) (.tmp 51) 49 rfl intE Try.underlying49 wp.heap.size (.slice none 0 0) (.slice pa k k) [] (out.take k) rfl rfl (Own.nil _ _ _) ((HT.out.below (by assumption)).mono (fun _ _ h => by simp [Value.ownBlock] at h)) (by unfold maxLen; simp; omega) (by show _ * 8 ≤ _; simp; omega) (Below.size (by assumption)) k HTL.out ?_; intro x1 y1 w1 hJ1)
                    | (refine step_push rfl (.tmp 52) (.tmp 54) 49 rfl intE Try.underlying49 wp.heap.size (.slice x1 k y1) (out.take k) rfl hJ1.own [x] #[.int .i64 x] (Els.one rfl) 1 1 rfl rfl (by decide) (by unfold maxLen; simp; omega) (by show _ * 8 ≤ _; simp; omega) hJ1.below.size ?_; intro g cap w2 hP hPa)
                    | (refine step_push_at rfl (.tmp 52) (.tmp 54) 49 rfl intE Try.underlying49 wp.heap.size (.slice x1 k y1) (out.take k) rfl hJ1.own [x] [.int .i64 x] (Els.one rfl) ⟨wp.heap.size, 0, none⟩ 1 1 rfl rfl (fun jj uu hu => hJ1.kept.cell (by simp [Value.ownBlock]) (cells_new wp.drew _ _ jj uu hu)) (by decide) (by unfold maxLen; simp; omega) (by show _ * 8 ≤ _; simp; omega) (Below.size (by assumption)) ?_; intro g cap w2 hP)
                    | (refine step_join rfl (.tmp 55) (.tmp 58) 49 rfl intE Try.underlying49 wp.heap.size (.slice (some ⟨g, 0, none⟩) ((out.take k).length + 1) cap) (.slice pa 0 0) (out.take k ++ [x]) (out.drop k) rfl rfl (hP.own' (by simp)) ((HD.out.below (by assumption)).mono (fun mm _ hh => ((hP.own' (n := (out.take k).length + 1) (by simp)).lt mm hh.symm).1)) (by unfold maxLen; simp; omega) (by show _ * 8 ≤ _; simp; omega) (Below.size (by assumption)) (m + 1) HDL.out ?_; intro x3 y3 w3 hJ3))
                all_goals
                  have hb9 : Below wp.heap.size wp w3 := by assumption
                  have hB9 : Below w.heap.size w w3 := hB2.trans (hb9.mono hB2.size)
                  go_wp2_with fail
                  go_roundw
                  case rel => exact ⟨q + 1, by omega, by go_num, by rw [HINS.out]; exact hJ3.own.mono hB2.size, hB9⟩
                  case measure => simp [intOf]; omega
              · have HD : Hid (Sl intE wp (fun mm => wp.heap.size ≤ mm) (.slice (pa.map fun y => y.add k) (m - k) (pc - k)) (out.drop k)) := by
                  have h := hO2.sl.dropS hk
                  rw [show k * intE.size = k from Nat.mul_one k] at h
                  exact h.old (Nat.le_refl _)
                go_wp2_with fail
                go_region_held3 (fun W => Below wp.heap.size wp W)
                  ((first | exact (Below.refl _ _).drew | exact below_alloc_keep (by assumption) | exact Below.trans (by assumption) (Joined.below (by assumption)) | exact Below.trans (by assumption) (Pushed.below (by assumption))))
                  (first
                    | (refine step_join rfl (.const (.slice none 0 0)) (.tmp 51) 49 rfl intE Try.underlying49 wp.heap.size (.slice none 0 0) (.slice pa k pc) [] (out.take k) rfl rfl (Own.nil _ _ _) ((HT.out.below (by assumption)).mono (fun _ _ h => by simp [Value.ownBlock] at h)) (by unfold maxLen; simp; omega) (by show _ * 8 ≤ _; simp; omega) (Below.size (by assumption)) k HTL.out ?_; intro x1 y1 w1 hJ1)
                    | (refine step_push rfl (.tmp 52) (.tmp 54) 49 rfl intE Try.underlying49 wp.heap.size (.slice x1 k y1) (out.take k) rfl hJ1.own [x] #[.int .i64 x] (Els.one rfl) 1 1 rfl rfl (by decide) (by unfold maxLen; simp; omega) (by show _ * 8 ≤ _; simp; omega) hJ1.below.size ?_; intro g cap w2 hP hPa)
                    | (refine step_push_at rfl (.tmp 52) (.tmp 54) 49 rfl intE Try.underlying49 wp.heap.size (.slice x1 k y1) (out.take k) rfl hJ1.own [x] [.int .i64 x] (Els.one rfl) ⟨wp.heap.size, 0, none⟩ 1 1 rfl rfl (fun jj uu hu => hJ1.kept.cell (by simp [Value.ownBlock]) (cells_new wp.drew _ _ jj uu hu)) (by decide) (by unfold maxLen; simp; omega) (by show _ * 8 ≤ _; simp; omega) (Below.size (by assumption)) ?_; intro g cap w2 hP)
                    | (refine step_join rfl (.tmp 55) (.tmp 58) 49 rfl intE Try.underlying49 wp.heap.size (.slice (some ⟨g, 0, none⟩) ((out.take k).length + 1) cap) (.slice (pa.map fun y => y.add k) (m - k) (pc - k)) (out.take k ++ [x]) (out.drop k) rfl rfl (hP.own' (by simp)) ((HD.out.below (by assumption)).mono (fun mm _ hh => ((hP.own' (n := (out.take k).length + 1) (by simp)).lt mm hh.symm).1)) (by unfold maxLen; simp; omega) (by show _ * 8 ≤ _; simp; omega) (Below.size (by assumption)) (m + 1) HDL.out ?_; intro x3 y3 w3 hJ3))
                all_goals
                  have hb9 : Below wp.heap.size wp w3 := by assumption
                  have hB9 : Below w.heap.size w w3 := hB2.trans (hb9.mono hB2.size)
                  go_wp2_with fail
                  go_roundw
                  case rel => exact ⟨q + 1, by omega, by go_num, by rw [HINS.out]; exact hJ3.own.mono hB2.size, hB9⟩
                  case measure => simp [intOf]; omega
        · have HEND : Hid (out = accU a b (j + 1)) := by show _ = _; rw [HOUT.out, List.take_of_length_le (by rw [HL3.out]; omega), HACC.out]
          go_wp2_with fail
          go_roundw
          case rel => exact ⟨j + 1, by omega, by go_num, by rw [← HEND.out]; exact hO2, hB2⟩
          case measure => simp [intOf]; omega
    · have hj2 : j = 2 := by omega
      have HF : Hid (accU a b j = mergeL a b) := by show _ = _; rw [hj2]; rfl
      clear hj2
      go_wp2_with fail
      go_ret
      exact ⟨_, rfl, by rw [← HF.out]; exact hO, hB⟩
end Go.Proofs.Ytfmbbfidjcgeiaa

namespace Go.Proofs.Ytfmbbfidjcgeiaa
open Go.RowKit Go.Lib Go.Shelf

set_option maxHeartbeats 1000000 in
theorem rvalid_any (lo hi : Int) (w : World) :
    Calls Try.prog 37 #[.agg #[.int .i64 lo, .int .i64 hi]] w fun e w' => e = .returned (.bool (pvalid lo hi)) ∧ Below w.heap.size w w' := by
  go_enter Try.func37, Try.ntmps37
  go_wp2
  all_goals go_ret
  all_goals refine ⟨congrArg (fun b => Ending.returned (.bool b)) ?_, below_alloc _ _⟩
  all_goals (simp [pvalid, *]; try omega)

/-- What was there before the call is clear of a row of the call's own. -/
theorem Sl.clearOf {P : Program} {α : Type} {E : El P α} {w0 w : World} {G : Nat → Prop} {v u : Value} {ys : List α} (hu : Sl E w0 G u ys) (hb : Below w0.heap.size w0 w) (hlt : ∀ k, v.ownBlock = some k → w0.heap.size ≤ k) : Sl E w (fun k => some k = v.ownBlock) u ys :=
  ((hu.old (Nat.le_refl _)).below hb).mono (fun k _ hk => hlt k hk.symm)

end Go.Proofs.Ytfmbbfidjcgeiaa

namespace Go.Proofs.Ytfmbbfidjcgeiaa
open Go.RowKit Go.Lib Go.Shelf
end Go.Proofs.Ytfmbbfidjcgeiaa

namespace Go.Proofs.Ytfmbbfidjcgeiaa
open Go.Shelf Go.RowKit Go.Lib Go.Sort
def sh_laysNm220_ren : Go.Shelf.Ren := ⟨fun | 20 => 51 | n => n, fun | 22 => 49 | 3 => 3 | 4 => 4 | 0 => 0 | n => n, fun | n => n⟩
theorem sh_laysNm220 : Lays2.n20 Try.prog sh_laysNm220_ren := {
  mixed := by kernel_rfl
  f20 := Try.func51.trans (congrArg some (by kernel_rfl))
  t0 := Try.underlying0
  a0 := Try.isAgg0
  z0 := Try.sizeOf0
  v0 := Try.zeroValue0
  t3 := Try.underlying3
  a3 := Try.isAgg3
  z3 := Try.sizeOf3
  v3 := Try.zeroValue3
  t4 := Try.underlying4
  a4 := Try.isAgg4
  z4 := Try.sizeOf4
  v4 := Try.zeroValue4
  t22 := Try.underlying49
  a22 := Try.isAgg49
  z22 := Try.sizeOf49
  v22 := Try.zeroValue49
  i3 := by kernel_rfl }
theorem sh_slices_Compact_int (blk off cap : Nat) (zs : List Int) (w : World) (hH : Holds (Value.int .i64) w blk off zs.toArray) (hsz : zs.length ≤ 9223372036854775807) (hcap : zs.length ≤ cap) :
    Calls Try.prog 51 #[.slice (some ⟨blk, off, none⟩) zs.length cap] w fun e w' => e = .returned (.slice (some ⟨blk, off, none⟩) (Lib.compact zs).length cap) ∧ ∃ q, w' = putRow (Value.int .i64) (Sort.ahead w q) blk off (Lib.compact zs ++ List.replicate (zs.length - (Lib.compact zs).length) 0).toArray := Any.slices_Compact_int sh_laysNm220 blk off cap zs w hH hsz hcap
theorem sh_slices_Compact_int_empty (a : Option Addr) (cap : Nat) (w : World) :
    Calls Try.prog 51 #[.slice a 0 cap] w fun e w' => e = .returned (.slice a 0 cap) ∧ w' = w := Any.slices_Compact_int_empty sh_laysNm220 a cap w
theorem sh_slices_Compact_int_cells (b off n c : Nat) (zs : List Int) (w : World) (hz : n ≤ zs.length) (hbig : n ≤ 9223372036854775807) (hcap : n ≤ c) (hc : ∀ j, j < zs.length → w.cell? ⟨b, off + j, none⟩ = some (.int .i64 (zs.getD j 0))) (hf : ∀ j, j < n → w.frozen? ⟨b, off + j, none⟩ = false) :
    Calls Try.prog 51 #[.slice (some ⟨b, off, none⟩) n c] w fun e w' => e = .returned (.slice (some ⟨b, off, none⟩) (Lib.compact (zs.take n)).length c) ∧ ∃ q, w' = (w.drewN q).setCells b off ((Lib.compact (zs.take n) ++ List.replicate (n - (Lib.compact (zs.take n)).length) 0).map (Value.int .i64)) := Any.slices_Compact_int_cells sh_laysNm220 b off n c zs w hz hbig hcap hc hf
end Go.Proofs.Ytfmbbfidjcgeiaa

namespace Go.Proofs.Ytfmbbfidjcgeiaa
open Go.RowKit Go.Lib Go.Shelf Go.Sort

theorem sort_own (v : Value) (l : List Int) (B : Nat) (w : World) (h : Own intE w B v l) (hB : B ≤ w.heap.size) (hs : l.length ≤ 1000000000) :
    Calls Try.prog 50 #[v] w fun e w' => e = .returned (.tuple #[]) ∧ Own intE w' B v (srt l) ∧ Below B w w' := by
  have ho := h.ints
  rcases ho.2 with ⟨rfl, hz⟩ | ⟨gb, cap, cur, rfl, hbase, hgb, r1, r2, r3, r4⟩
  · have hzs : l = [] := List.eq_nil_of_length_eq_zero hz
    subst hzs
    refine (sh_slices_Sort_int_none none 0 w).mono ?_
    rintro e w' ⟨rfl, rfl⟩
    exact ⟨rfl, by simpa [srt] using h, Below.refl _ _⟩
  · have hH : Holds (Value.int .i64) w gb 0 l.toArray := holds_of_block_i hgb (by simpa [numCells] using r4)
    have hgl : gb < w.heap.size := (Array.getElem?_eq_some_iff.1 hgb).1
    refine (sh_slices_Sort_int gb 0 cap l w hH hgl (by omega)).mono ?_
    rintro e w' ⟨rfl, nn, os, rfl⟩
    have hlen : (srt l).length = l.length := List.length_mergeSort _
    refine ⟨rfl, Own.of_ints ?_, (Below.refl _ _).grown (grownBy_sorted_i _) hB (fun j hj => by cases hj; exact hbase)⟩
    have := ownsRow_sorted_i (e := 3) (n := nn) (os := os) (ts := srt l) hlen hbase hgb r1 r2 r3
    rw [hlen]; exact this
theorem compact_own (v : Value) (l : List Int) (B : Nat) (w : World) (h : Own intE w B v l) (hB : B ≤ w.heap.size) (hs : l.length ≤ 1000000000) :
    Calls Try.prog 51 #[v] w fun e w' => ∃ v', e = .returned v' ∧ Own intE w' B v' (Lib.compact l) ∧ Below B w w' := by
  have ho := h.ints
  rcases ho.2 with ⟨rfl, hz⟩ | ⟨gb, cap, cur, rfl, hbase, hgb, r1, r2, r3, r4⟩
  · have hzs : l = [] := List.eq_nil_of_length_eq_zero hz
    subst hzs
    refine (sh_slices_Compact_int_empty none 0 w).mono ?_
    rintro e w' ⟨rfl, rfl⟩
    exact ⟨_, rfl, h, Below.refl _ _⟩
  · have hH : Holds (Value.int .i64) w gb 0 l.toArray := holds_of_block_i hgb (by simpa [numCells] using r4)
    refine (sh_slices_Compact_int gb 0 cap l w hH (by omega) r1).mono ?_
    rintro e w' ⟨rfl, nn, rfl⟩
    have hle := Lib.compact_length_le l
    have hlen : (Lib.compact l ++ List.replicate (l.length - (Lib.compact l).length) 0).length = l.length := by simp; omega
    have ho' := ownsRow_sorted_i (e := 3) (n := nn) (os := #[]) hlen hbase hgb r1 r2 r3
    have hg : w.grownBy (grow (putRow (Value.int .i64) (Sort.ahead w nn) gb 0 (Lib.compact l ++ List.replicate (l.length - (Lib.compact l).length) 0).toArray) #[]) (some gb) := grownBy_sorted_i _
    rw [grow_empty] at ho' hg
    refine ⟨_, rfl, Own.of_ints ?_, (Below.refl _ _).grown hg hB (fun j hj => by cases hj; exact hbase)⟩
    rcases ho'.2 with ⟨e, _⟩ | ⟨g, cap', cur', e, q1, q2, q3, q4, q5, q6⟩
    · cases e
    · cases e
      refine ⟨by simp [numCells], .inr ⟨_, _, cur', rfl, q1, q2, by omega, q4, q5, ?_⟩⟩
      have h7 := congrArg (List.take (Lib.compact l).length) q6
      rw [List.take_take, Nat.mul_one, Nat.min_eq_left hle, List.map_append, List.take_left' (by simp)] at h7
      rw [Nat.mul_one]; exact h7

set_option maxHeartbeats 4000000 in
set_option maxRecDepth 100000 in
theorem bnds_any (v : Value) (l : List Tup) (w : World) (hv : Tups w v l) (hsz : l.length ≤ 100000000) :
    Calls Try.prog 33 #[v] w (RetOwn intE w (bnds l)) := by
  obtain ⟨a, c, rfl⟩ := hv.shape
  have HV := Lib.hid hv
  obtain ⟨n, hn⟩ : ∃ n, n = l.length := ⟨_, rfl⟩
  have HN := Lib.hid hn
  rw [← hn] at hsz HV ⊢
  clear hv hn
  go_enter Try.func33, Try.ntmps33
  go_wp2_with fail
  go_loopw [8, 3] (fun i o wr => ∃ k : Nat, k ≤ n ∧ i = .int .i64 k ∧ Own intE wr w.heap.size o (allEnds (l.take k)) ∧ Below w.heap.size w wr) (fun i _ _ => n - (intOf i).toNat)
  case atStart => exact ⟨0, Nat.zero_le _, rfl, Own.nil _ _ _, Below.refl _ _⟩
  case round =>
    obtain ⟨k, hk, rfl, hO, hB⟩ := hrel
    have hle : (allEnds (l.take k)).length ≤ n * 2 := by rw [HN.out]; exact allEnds_take_length l k
    by_cases hlt : k < n
    · obtain ⟨x, hx⟩ := lget_some l k (by rw [← HN.out]; exact hlt)
      obtain ⟨b, o, a3, n3, e3, m3, rfl, hv1, hu1, p0, p1, p2, p3⟩ := tups_at HV.out hx
      replace p0 := cell_keep hB p0
      replace p1 := cell_keep hB p1
      replace p2 := cell_keep hB p2
      replace p3 := cell_keep hB p3
      have HT : Hid (allEnds (l.take (k + 1)) = allEnds (l.take k) ++ ends x) := allEnds_snoc l k x hx
      obtain ⟨acc, hacc⟩ : ∃ acc, acc = allEnds (l.take k) := ⟨_, rfl⟩
      rw [← hacc] at HT hO hle
      obtain ⟨oa, oc, rfl⟩ := hO.shape
      clear hx hacc
      go_wp2_with fail
      refine (pvalid_any _ _ _).mono ?_
      rintro e w2 ⟨rfl, hb2⟩
      have hbx := box_kept (World.alloc_heap_new wr (.cells #[.slice a3 x.vals.length n3, .int .i64 x.lo, .int .i64 x.hi, .slice e3 x.lin.length m3] 51)) hb2
      have hB2 : Below wr.heap.size wr w2 := below_alloc2' hb2
      have hO2 := hO.below hB2
      have hB2' : Below w.heap.size w w2 := below_keep hB hB2
      clear hb2 p0 p1 p2 p3 hO hB2
      obtain ⟨⟨p0, p1, p2, p3⟩, f0, f1, f2, f3⟩ := box_four hbx
      clear hbx
      cases hval : pvalid x.lo x.hi
      · have HT' : Hid (allEnds (l.take (k + 1)) = acc) := by show _ = _; rw [HT.out, ends, hval]; simp
        clear hval
        go_wp2_with fail
        go_roundw
        case rel => exact ⟨k + 1, by omega, by go_num, by rw [HT'.out]; exact hO2, hB2'⟩
        case measure => simp [intOf]; omega
      · have HT' : Hid (allEnds (l.take (k + 1)) = acc ++ [x.lo, x.hi]) := by show _ = _; rw [HT.out, ends, hval, if_pos rfl]
        clear hval
        go_wp2_with (at_builtin; refine wpList_push rfl _ _ 49 rfl intE Try.underlying49 w.heap.size (.slice oa acc.length oc) acc rfl hO2 [x.lo, x.hi] #[.int .i64 x.lo, .int .i64 x.hi] (Els.cons (cs := [.int .i64 x.lo]) rfl (Els.one (cs := [.int .i64 x.hi]) rfl)) 2 2 rfl rfl (by decide) (by unfold maxLen; omega) (by show _ * 8 ≤ _; omega) hB2'.size ?_; intro g cap w5 hP hPa)
        go_roundw
        case rel => exact ⟨k + 1, by omega, by go_num, by rw [HT'.out]; exact hP.own' (by simp), hB2'.trans hP.below⟩
        case measure => simp [intOf]; omega
    · have HT : Hid (allEnds (l.take k) = allEnds l) := by show _ = _; rw [List.take_of_length_le (by rw [← HN.out]; omega)]
      rw [HT.out] at hO hle
      obtain ⟨oa, oc, rfl⟩ := hO.shape
      go_wp2_with fail
      refine (sort_own _ _ w.heap.size _ hO hB.size (by omega)).mono ?_
      rintro e w2 ⟨rfl, hO2, hb2⟩
      go_wp2_with fail
      have hl2 : (srt (allEnds l)).length = (allEnds l).length := List.length_mergeSort _
      refine (compact_own _ _ w.heap.size _ hO2 (Nat.le_trans hB.size hb2.size) (by omega)).mono ?_
      rintro e w3 ⟨v3, rfl, hO3, hb3⟩
      clear hl2
      obtain ⟨a4, c4, rfl⟩ := hO3.shape
      go_wp2_with fail
      go_ret
      exact ⟨_, rfl, hO3, (hB.trans hb2).trans hb3⟩

set_option maxHeartbeats 4000000 in
set_option maxRecDepth 100000 in
theorem refBnd_any (v : Value) (l : List Tup) (w : World) (hv : Tups w v l) (hsz : l.length ≤ 100000000) :
    Calls Try.prog 39 #[v] w (RetOwn intE w (refBnd l)) := by
  obtain ⟨a, c, rfl⟩ := hv.shape
  have HV := Lib.hid hv
  obtain ⟨n, hn⟩ : ∃ n, n = l.length := ⟨_, rfl⟩
  have HN := Lib.hid hn
  rw [← hn] at hsz HV ⊢
  clear hv hn
  go_enter Try.func39, Try.ntmps39
  go_wp2_with fail
  go_loopw [8, 3] (fun i o wr => ∃ k : Nat, k ≤ n ∧ i = .int .i64 k ∧ Own intE wr w.heap.size o (refBnd (l.take k)) ∧ Below w.heap.size w wr) (fun i _ _ => n - (intOf i).toNat)
  case atStart => exact ⟨0, Nat.zero_le _, rfl, Own.nil _ _ _, Below.refl _ _⟩
  case round =>
    obtain ⟨k, hk, rfl, hO, hB⟩ := hrel
    have hle : (refBnd (l.take k)).length ≤ n * 2 := Nat.le_trans (refBnd_length _) (Nat.mul_le_mul_right _ (by rw [List.length_take, HN.out]; omega))
    by_cases hlt : k < n
    · obtain ⟨x, hx⟩ := lget_some l k (by rw [← HN.out]; exact hlt)
      obtain ⟨b, o, a3, n3, e3, m3, rfl, hv1, hu1, p0, p1, p2, p3⟩ := tups_at HV.out hx
      replace p0 := cell_keep hB p0
      replace p1 := cell_keep hB p1
      replace p2 := cell_keep hB p2
      replace p3 := cell_keep hB p3
      have HT : Hid (refBnd (l.take (k + 1)) = if pvalid x.lo x.hi = true then mergeL (refBnd (l.take k)) [x.lo, x.hi] else refBnd (l.take k)) := refBnd_snoc l k x hx
      obtain ⟨acc, hacc⟩ : ∃ acc, acc = refBnd (l.take k) := ⟨_, rfl⟩
      rw [← hacc] at HT hO hle
      obtain ⟨oa, oc, rfl⟩ := hO.shape
      clear hx hacc
      go_wp2_with fail
      refine (rvalid_any _ _ _).mono ?_
      rintro e w2 ⟨rfl, hb2⟩
      have hbx := box_kept (World.alloc_heap_new wr (.cells #[.slice a3 x.vals.length n3, .int .i64 x.lo, .int .i64 x.hi, .slice e3 x.lin.length m3] 51)) hb2
      have hB2 : Below wr.heap.size wr w2 := below_alloc2' hb2
      have hO2 := hO.below hB2
      have hB2' : Below w.heap.size w w2 := below_keep hB hB2
      clear hb2 p0 p1 p2 p3 hO hB2
      obtain ⟨⟨p0, p1, p2, p3⟩, f0, f1, f2, f3⟩ := box_four hbx
      clear hbx
      cases hval : pvalid x.lo x.hi
      · have HT' : Hid (refBnd (l.take (k + 1)) = acc) := by show _ = _; rw [HT.out, hval]; simp
        clear hval
        go_wp2_with fail
        go_roundw
        case rel => exact ⟨k + 1, by omega, by go_num, by rw [HT'.out]; exact hO2, hB2'⟩
        case measure => simp [intOf]; omega
      · have HT' : Hid (refBnd (l.take (k + 1)) = mergeL acc [x.lo, x.hi]) := by show _ = _; rw [HT.out, hval, if_pos rfl]
        clear hval
        go_wp2_with fail
        have hS2 : Sl intE (w2.alloc (.cells #[.int .i64 x.lo, .int .i64 x.hi] 3)) free (.slice (some ⟨w2.heap.size, 0, none⟩) 2 2) [x.lo, x.hi] := Sl.of_block (World.alloc_heap_new w2 _) (Els.cons (cs := [.int .i64 x.lo]) rfl (Els.one (cs := [.int .i64 x.hi]) rfl)) id rfl (by decide) (by decide)
        refine (merge_any _ _ acc [x.lo, x.hi] _ (hO2.sl.below (below_alloc _ _)) hS2 (by simp; omega)).mono ?_
        rintro e w3 ⟨v3, rfl, hO3, hb3⟩
        obtain ⟨a4, c4, rfl⟩ := hO3.shape
        have hb3' : Below w.heap.size w w3 := below_keep (below_alloc_keep hB2') hb3
        go_wp2_with fail
        go_roundw
        case rel => exact ⟨k + 1, by omega, by go_num, by rw [HT'.out]; exact hO3.mono (by simp; have := hB2'.size; omega), hb3'⟩
        case measure => simp [intOf]; omega
    · have HT : Hid (refBnd (l.take k) = refBnd l) := by show _ = _; rw [List.take_of_length_le (by rw [← HN.out]; omega)]
      rw [HT.out] at hO hle
      obtain ⟨oa, oc, rfl⟩ := hO.shape
      go_wp2_with fail
      go_ret
      exact ⟨_, rfl, hO, hB⟩

end Go.Proofs.Ytfmbbfidjcgeiaa

namespace Go.Proofs.Ytfmbbfidjcgeiaa
open Go.RowKit Go.Lib

section
variable {P : Program} {α : Type}
theorem setL_take_at (us xs : List Value) (s i k j : Nat) (hj : j + us.length ≤ s) (hk : k * s + s ≤ xs.length) : ((setL xs (k * s + j) us).drop (i * s)).take s = if i = k then setL ((xs.drop (i * s)).take s) j us else (xs.drop (i * s)).take s := by
  refine List.ext_getElem? fun m => ?_
  rw [List.getElem?_take, List.getElem?_drop, setL_get]
  by_cases hm : m < s
  · rw [if_pos hm]
    by_cases hik : i = k
    · subst hik
      rw [if_pos rfl, setL_get, List.length_take, List.length_drop, List.getElem?_take, if_pos hm, List.getElem?_drop]
      by_cases h : j ≤ m ∧ m < j + us.length
      · rw [if_pos (by omega), if_pos (by omega), show i * s + m - (i * s + j) = m - j by omega]
      · rw [if_neg (by omega), if_neg (by omega)]
    · rw [if_neg hik, List.getElem?_take, if_pos hm, List.getElem?_drop, if_neg]
      intro h
      rcases Nat.lt_or_gt_of_ne hik with h' | h'
      · have := Nat.mul_le_mul_right s (show i + 1 ≤ k from h'); rw [Nat.add_mul, Nat.one_mul] at this; omega
      · have := Nat.mul_le_mul_right s (show k + 1 ≤ i from h'); rw [Nat.add_mul, Nat.one_mul] at this; omega
  · rw [if_neg hm]
    split
    · rw [List.getElem?_eq_none]
      rw [setL_length, List.length_take]
      omega
    · rw [List.getElem?_take, if_neg hm]
/-- Some cells of one element are stored anew. -/
theorem Own.put_at {E : El P α} {w : World} {B g n c k j : Nat} {l : List α} {y : α} {us : List Value} (h : Own E w B (.slice (some ⟨g, 0, none⟩) n c) l) (hn : l.length = n) (hk : k < n) (hj : j + us.length ≤ E.size)
    (hx : ∀ x cs, l[k]? = some x → E.is w (fun m => some m = some g) x cs → E.is w (fun m => some m = some g) y (setL cs j us)) :
    Own E (w.setCells g (k * E.size + j) us) B (.slice (some ⟨g, 0, none⟩) n c) (l.set k y) ∧ w.grownBy (w.setCells g (k * E.size + j) us) (some g) := by
  obtain ⟨xs, h1, h2⟩ := h
  rw [hn] at h1
  obtain ⟨h3, h4⟩ := owns_setCells us w xs (k * E.size + j) h1
  have hK : Kept (fun m => some m = some g) w (w.setCells g (k * E.size + j) us) := .of_grown h4
  have hxl : xs.length = n * E.size := h1.1
  have hb : k * E.size + E.size ≤ xs.length := by
    have := Nat.mul_le_mul_right E.size (show k + 1 ≤ n from hk); rw [Nat.add_mul, Nat.one_mul] at this; omega
  refine ⟨⟨_, by rw [List.length_set, hn]; exact h3, fun i z hz => ?_⟩, h4⟩
  rw [setL_take_at us xs E.size i k j hj hb]
  by_cases hik : i = k
  · subst hik
    rw [if_pos rfl]
    rw [List.getElem?_set_self (by omega)] at hz
    cases hz
    have hl : l[i]? = some l[i] := List.getElem?_eq_getElem (by omega)
    exact E.kept (hx _ _ hl (h2 i _ hl)) hK
  · rw [if_neg hik]
    rw [List.getElem?_set_ne (Ne.symm hik)] at hz
    exact E.kept (h2 i z hz) hK
theorem Own.shape_pos {E : El P α} {w : World} {B : Nat} {v : Value} {l : List α} (h : Own E w B v l) (hp : 0 < l.length) : ∃ g c, v = .slice (some ⟨g, 0, none⟩) l.length c := by
  obtain ⟨xs, h1, _⟩ := h
  rcases h1.2 with ⟨_, h⟩ | ⟨g, cap, cur, e, _⟩
  · omega
  · exact ⟨g, cap, e⟩
end
end Go.Proofs.Ytfmbbfidjcgeiaa

namespace Go.Proofs.Ytfmbbfidjcgeiaa
open Go.RowKit Go.Lib

def stpOf (s : Stp) : List Value := [.int .i64 s.lo, .int .i64 s.hi, .int .i64 s.v.kind, .int .i64 s.v.n, .string s.v.s]
theorem stp_info : (Try.prog.info? 53).map (fun i => (i.zero, i.size, i.bytes)) = some (some (.agg #[.int .i64 0, .int .i64 0, .int .i64 0, .int .i64 0, .string ⟨#[]⟩]), 5, 48) := by kernel_rfl
def stpE : El Try.prog Stp := El.flat 53 5 48 (by decide) (info_mk stp_info rfl) stpOf (fun _ => rfl) (by intro x u hu; simp [stpOf] at hu; rcases hu with rfl | rfl | rfl | rfl | rfl <;> rfl)
theorem stp_at {w : World} {B g n c k : Nat} {l : List Stp} {s : Stp} (h : Own stpE w B (.slice (some ⟨g, 0, none⟩) n c) l) (hk : l[k]? = some s) :
    w.cell? ⟨g, k * 5, none⟩ = some (.int .i64 s.lo) ∧ w.cell? ⟨g, k * 5 + 1, none⟩ = some (.int .i64 s.hi) ∧ w.cell? ⟨g, k * 5 + 2, none⟩ = some (.int .i64 s.v.kind) ∧ w.cell? ⟨g, k * 5 + 3, none⟩ = some (.int .i64 s.v.n) ∧ w.cell? ⟨g, k * 5 + 4, none⟩ = some (.string s.v.s) := by
  obtain ⟨b, o, cs, ha, rfl, hc⟩ := h.sl.at hk
  cases ha
  have h0 := hc 0 _ rfl
  have h1 := hc 1 _ rfl
  have h2 := hc 2 _ rfl
  have h3 := hc 3 _ rfl
  have h4 := hc 4 _ rfl
  simp only [Nat.zero_add, Nat.add_zero, show stpE.size = 5 from rfl] at h0 h1 h2 h3 h4
  exact ⟨h0, h1, h2, h3, h4⟩
/-- A row that has just been made of a literal. -/
theorem own_lit {P : Program} {α : Type} {E : El P α} {w : World} {l : List α} {c : Array Value} {n : Nat} (h : Els E w (fun k => some k = some w.heap.size) l c.toList) (hn : l.length = n) (hp : n ≤ maxLen) : Own E (w.alloc (.cells c E.ty)) w.heap.size (.slice (some ⟨w.heap.size, 0, none⟩) n n) l := by
  subst hn
  have hl := h.1
  refine ⟨c.toList, ⟨hl, .inr ⟨w.heap.size, l.length, c, rfl, Nat.le_refl _, World.alloc_heap_new _ _, Nat.le_refl _, hp, by simpa using hl, by rw [List.take_of_length_le (by rw [hl]; exact Nat.le_refl _)]⟩⟩, fun i x hx => E.below (h.2 i x hx) (below_alloc _ _)⟩
theorem Own.keptE {P : Program} {α : Type} {E : El P α} {w w' : World} {B : Nat} {v : Value} {l : List α} (h : Own E w B v l) (hb : Below w.heap.size w w') : Own E w' B v l := h.below hb
theorem holdL_snoc {m : List Tup} {k : Nat} {x : Tup} {d : Int} (h : m[k]? = some x) : holdL (m.take (k + 1)) d = holdL (m.take k) d ++ if pincl x.lo x.hi d = true then [x] else [] := by
  unfold holdL
  rw [take_get h, List.filter_append]
  by_cases e : pincl x.lo x.hi d = true <;> simp [e]
theorem holdL_len (m : List Tup) (k : Nat) (d : Int) : (holdL (m.take k) d).length ≤ m.length := by
  unfold holdL
  refine Nat.le_trans (List.length_filter_le _ _) ?_
  rw [List.length_take]; omega
theorem mvPts_len (m : List Tup) : (mvPts m).length ≤ (m.length + 1) * 2 := by
  have := bnds_length (allT :: m)
  rw [List.length_cons] at this
  exact this
/-- While a step is appended: what stays. -/
structure MovS (w : World) (bv b ox oy : Nat) (x y : Int) (v : GVal) (W : World) : Prop where
  val : BoxV W bv v
  cx : W.cell? ⟨b, ox, none⟩ = some (.int .i64 x)
  cy : W.cell? ⟨b, oy, none⟩ = some (.int .i64 y)
section
variable {w W W' : World} {bv b ox oy : Nat} {x y : Int} {v : GVal}
theorem MovS.below (h : MovS w bv b ox oy x y v W) (hb : Below W.heap.size W W') : MovS w bv b ox oy x y v W' := ⟨h.val.below hb, cell_keep hb h.cx, cell_keep hb h.cy⟩
theorem MovS.drew (h : MovS w bv b ox oy x y v W) : MovS w bv b ox oy x y v W.drew := h.below (Below.refl _ _).drew
theorem MovS.facts (h : MovS w bv b ox oy x y v W) : W.cell? ⟨b, ox, none⟩ = some (.int .i64 x) ∧ W.cell? ⟨b, oy, none⟩ = some (.int .i64 y) ∧ W.cell? ⟨bv, 0, none⟩ = some (.int .i64 v.kind) ∧ W.cell? ⟨bv, 1, none⟩ = some (.int .i64 v.n) ∧ W.cell? ⟨bv, 2, none⟩ = some (.string v.s) :=
  ⟨h.cx, h.cy, h.val.cells.1.1, h.val.cells.1.2.1, h.val.cells.1.2.2⟩
theorem MovS.push {B g cap : Nat} {u : Value} {l : List Stp} (h : MovS w bv b ox oy x y v W) (hP : Pushed stpE B W W' u l g cap) (hn : some b ≠ u.ownBlock ∧ some bv ≠ u.ownBlock) : MovS w bv b ox oy x y v W' :=
  ⟨hP.block hn.2 h.val, hP.cell hn.1 h.cx, hP.cell hn.1 h.cy⟩
end
set_option maxHeartbeats 8000000 in
set_option maxRecDepth 100000 in
theorem moving_any (v ve : Value) (l : List Tup) (e : List GExp) (arg days kind : Int) (w : World) (hv : Tups w v l) (hve : Sl expE w free ve e) (hl : l.length ≤ 1000) (he : e.length ≤ 1000) (hc : ∀ x ∈ e, In64 x.c.n) (h64 : ∀ t ∈ l, ∀ x ∈ t.vals, In64 x.n) :
    Calls Try.prog 17 #[v, ve, .int .i64 arg, .int .i64 days, .int .i64 kind] w (RetOwn stpE w (movL l e arg days kind)) := by
  have HX := Lib.hid (extend_any v l (clampD days) (clampD_pos days) w hv (by omega))
  obtain ⟨ext, hext⟩ : ∃ ext, ext = extL (clampD days) l := ⟨_, rfl⟩
  have hel : ext.length ≤ 1000 := by rw [hext]; exact Nat.le_trans (extL_len _ _) hl
  have he64 : ∀ t ∈ ext, ∀ x ∈ t.vals, In64 x.n := by
    rw [hext]
    intro t ht x hx
    obtain ⟨s, hs, e, _⟩ := extL_from ht
    exact h64 s hs x (by rw [e]; exact hx)
  have hres : movL l e arg days kind = stepsL (mvPts ext) fun p => aggT e arg kind (holdL ext p) := by rw [hext]; rfl
  obtain ⟨res, hres2⟩ : ∃ res, res = movL l e arg days kind := ⟨_, rfl⟩
  rw [← hres2] at hres ⊢
  rw [← hext] at HX
  have HRES := Lib.hid hres
  have HE64 := Lib.hid he64
  have HEXL := Lib.hid hve
  have HC := Lib.hid hc
  have HPL := Lib.hid (mvPts_len ext)
  obtain ⟨D, hD⟩ : ∃ D, D = clampD days := ⟨_, rfl⟩
  have HDD : Hid (min (max days 1) 1000000 = D) := Lib.hid (by rw [hD]; rfl)
  rw [← hD] at HX
  clear hv hve hc h64 hext he64 hres hres2 hD
  go_enter Try.func17, Try.ntmps17
  go_wp2_with fail
  rw [HDD.out]
  refine HX.out.mono ?_
  rintro _ w1 ⟨vx, rfl, hO1, hb1⟩
  obtain ⟨ax, cx, rfl⟩ := hO1.shape
  obtain ⟨m, hm⟩ : ∃ m, m = ext.length := ⟨_, rfl⟩
  have HM := Lib.hid hm
  have hS1 := hO1.sl
  rw [← hm] at hS1 hel ⊢
  have HS1 := Lib.hid hS1
  have HB1 := Lib.hid hb1
  clear hO1 hb1 HX hm hS1
  go_wp2_with (at_builtin; refine wpList_join rfl (.tmp 27) (.tmp 28) 30 rfl tupE Try.underlying30 w1.heap.size (.slice (some ⟨w1.heap.size, 0, none⟩) 1 1) (.slice ax m cx) [allT] ext rfl rfl (own_lit (Els.one ⟨_, _, rfl, Sl.nil _ _ _ _ _, Sl.nil _ _ _ _ _⟩) rfl (by decide)) (((HS1.out.old (Nat.le_refl _)).below (below_alloc _ _)).mono (fun j _ hj => by cases hj; exact Nat.le_refl _)) (by rw [← HM.out]; unfold maxLen; simp; omega) (by rw [← HM.out]; show _ * 64 ≤ _; simp; omega) (by simp) (m + 1) (by rw [← HM.out]; simp; omega) ?_; intro aj cj w2 hJ)
  have HBN := Lib.hid (bnds_any _ ([allT] ++ ext) w2 hJ.own.sl (by simp; rw [← HM.out]; omega))
  have hb2 : Below w1.heap.size w1 w2 := (below_alloc _ _).trans hJ.below
  have HB2 : Hid (Below w.heap.size w w2) := Lib.hid (below_keep HB1.out hb2)
  have HS2 := Lib.hid (HS1.out.below hb2)
  clear hJ hb2 HS1
  go_wp2_with fail
  refine HBN.out.mono ?_
  rintro _ w3 ⟨vp, rfl, hO3, hb3⟩
  have hO3' : Own intE w3 w2.heap.size vp (mvPts ext) := hO3
  obtain ⟨pts, hpts⟩ : ∃ pts, pts = mvPts ext := ⟨_, rfl⟩
  rw [← hpts] at hO3' HRES HPL
  obtain ⟨ap, cp, rfl⟩ := hO3'.shape
  obtain ⟨np, hnp⟩ : ∃ np, np = pts.length := ⟨_, rfl⟩
  have HNP := Lib.hid hnp
  have hS := hO3'.sl
  rw [← hnp] at hS ⊢
  have hnpl : np ≤ 2002 := by have := HPL.out; rw [← hnp, ← HM.out] at this; omega
  have HP3 := Lib.hid hS
  have HS3 := Lib.hid (HS2.out.below hb3)
  have HB3 := Lib.hid (below_keep HB2.out hb3)
  have HE3 := Lib.hid (HEXL.out.below HB3.out)
  have HPT := Lib.hid hpts
  clear hO3 hO3' hb3 hS hnp hpts HBN HS2 HB2 HB1 HEXL HPL
  go_wp2_with fail
  go_loopw [14, 13] (fun i o wr => ∃ k : Nat, (k + 1 ≤ np ∨ (np = 0 ∧ k = 0)) ∧ i = .int .i64 ((k : Int) + 1) ∧ Own stpE wr w3.heap.size o (stepsTo pts (fun p => aggT e arg kind (holdL ext p)) k) ∧ Hid (Below w3.heap.size w3 wr)) (fun i _ _ => np - (intOf i).toNat)
  case atStart => exact ⟨0, by omega, rfl, Own.nil _ _ _, Lib.hid (.refl _ _)⟩
  case round =>
    obtain ⟨k, hk, rfl, hO, HB⟩ := hrel
    obtain ⟨wo, rfl⟩ : ∃ wo : World, wo = wr := ⟨_, rfl⟩
    by_cases hlt : k + 1 < np
    · obtain ⟨x, hx⟩ := lget_some pts k (by rw [← HNP.out]; omega)
      obtain ⟨y, hy⟩ := lget_some pts (k + 1) (by rw [← HNP.out]; omega)
      obtain ⟨b, o, rfl, cx0'⟩ := ints_at' HP3.out hx
      obtain ⟨_, _, e0, cy0'⟩ := ints_at' HP3.out hy
      cases e0
      have hbw3 : b < w3.heap.size := World.block_lt_of_cell? _ _ cx0'
      have cx0 := cell_keep HB.out cx0'
      have cy0 := cell_keep HB.out cy0'
      have HST : Hid (stepsTo pts (fun p => aggT e arg kind (holdL ext p)) (k + 1) = putStep (stepsTo pts (fun p => aggT e arg kind (holdL ext p)) k) ⟨x, y, aggT e arg kind (holdL ext x)⟩) := Lib.hid (by rw [stepsTo, hx, hy]; rfl)
      have HLN := Lib.hid (stepsTo_len pts (fun p => aggT e arg kind (holdL ext p)) k)
      obtain ⟨ls, hls⟩ : ∃ ls, ls = stepsTo pts (fun p => aggT e arg kind (holdL ext p)) k := ⟨_, rfl⟩
      rw [← hls] at hO HST HLN
      obtain ⟨ao, co, rfl⟩ := hO.shape
      have HO := Lib.hid hO
      have HOL := Lib.hid hO.lt
      have HX0 := Lib.hid cx0
      have HY0 := Lib.hid cy0
      have hw1 : IntKind.i64.wrap ((k : Int) + 1 - 1) = (k : Int) := by rw [IntWalk.i64_in _ (by omega)]; omega
      have hkI : (k : Int) + 1 < (np : Int) := by omega
      have hkN : k < np := by omega
      have hk0 : 0 ≤ (k : Int) + 1 := by omega
      have hkI2 : (k : Int) < (np : Int) := by omega
      have hw2 : IntKind.i64.wrap (k : Int) = (k : Int) := by rw [IntWalk.i64_in _ (by omega)]
      clear hx hy hls hO cx0 cy0 hk cx0' cy0'
      go_wp2_with fail
      go_loopw [39, 15] (fun i o wr => ∃ j : Nat, j ≤ m ∧ i = .int .i64 (j : Int) ∧ Own valsE wr wo.heap.size o ((holdL (ext.take j) x).map Tup.vals) ∧ Hid (Below wo.heap.size wo wr)) (fun i _ _ => m - (intOf i).toNat)
      case atStart => exact ⟨0, Nat.zero_le _, rfl, Own.nil _ _ _, Lib.hid (.refl _ _)⟩
      case round =>
        obtain ⟨j, hj, rfl, hOm, HBi⟩ := hrel
        obtain ⟨wi, rfl⟩ : ∃ wi : World, wi = wr := ⟨_, rfl⟩
        by_cases hjt : j < m
        · obtain ⟨t, ht⟩ := lget_some ext j (by rw [← HM.out]; exact hjt)
          obtain ⟨bt, ot, a1, n1, e1, m1, rfl, hvv, hll, p0, p1, p2, p3⟩ := tups_at (HS3.out.below HB.out) ht
          replace p0 := cell_keep HBi.out p0
          replace p1 := cell_keep HBi.out p1
          replace p2 := cell_keep HBi.out p2
          replace p3 := cell_keep HBi.out p3
          have cx1 := cell_keep HBi.out HX0.out
          have HT := Lib.hid (holdL_snoc (d := x) ht)
          have HLM := Lib.hid (holdL_len ext j x)
          obtain ⟨lk, hlk⟩ : ∃ lk, lk = holdL (ext.take j) x := ⟨_, rfl⟩
          rw [← hlk] at hOm HT HLM
          have hlm : lk.length ≤ 1000 := by have := HLM.out; rw [← HM.out] at this; omega
          obtain ⟨lv, hlv⟩ : ∃ lv, lv = lk.map Tup.vals := ⟨_, rfl⟩
          have hlvl : lv.length = lk.length := by rw [hlv, List.length_map]
          rw [← hlv] at hOm
          obtain ⟨am, cm, rfl⟩ := hOm.shape
          obtain ⟨xv, xlo, xhi, xl⟩ := t
          dsimp only at p0 p1 p2 p3 hvv hll HT
          have HI := fun W => Lib.hid (incl_any xlo xhi x W)
          generalize pincl xlo xhi x = q at HI HT
          have hg := World.alloc_heap_new wi (.cells #[.slice a1 xv.length n1, .int .i64 xlo, .int .i64 xhi, .slice e1 xl.length m1] 51)
          obtain ⟨⟨d0, d1, d2, d3⟩, _⟩ := box_four hg
          have hB1 : Below wo.heap.size wo (wi.alloc (.cells #[.slice a1 xv.length n1, .int .i64 xlo, .int .i64 xhi, .slice e1 xl.length m1] 51)) := below_alloc_keep HBi.out
          have cx2 := cell_alloc (o := .cells #[.slice a1 xv.length n1, .int .i64 xlo, .int .i64 xhi, .slice e1 xl.length m1] 51) cx1
          have HOM := Lib.hid (hOm.below (below_alloc wi (.cells #[.slice a1 xv.length n1, .int .i64 xlo, .int .i64 xhi, .slice e1 xl.length m1] 51)))
          have HVV := Lib.hid hvv
          have HLV := Lib.hid hlv
          have HLVL := Lib.hid hlvl
          clear ht hvv hll hlk hOm cx1 hg hlv hlvl
          go_upto_region 11 with fail
          obtain ⟨wa, hwa⟩ : ∃ wa, wa = wi.alloc (.cells #[.slice a1 xv.length n1, .int .i64 xlo, .int .i64 xhi, .slice e1 xl.length m1] 51) := ⟨_, rfl⟩
          rw [← hwa] at d0 d1 d2 d3 hB1 cx2 HOM ⊢
          have HWA := Lib.hid (below_alloc wi (.cells #[.slice a1 xv.length n1, .int .i64 xlo, .int .i64 xhi, .slice e1 xl.length m1] 51))
          rw [← hwa] at HWA
          clear hwa p0 p1 p2 p3
          have hO' := HOM.out
          go_region_held3 (fun W => Below wo.heap.size wo W ∧ W.cell? ⟨wi.heap.size, 0, none⟩ = some (.slice a1 xv.length n1) ∧ W.cell? ⟨wi.heap.size, 1, none⟩ = some (.int .i64 xlo) ∧ W.cell? ⟨wi.heap.size, 2, none⟩ = some (.int .i64 xhi) ∧ W.cell? ⟨b, o + k, none⟩ = some (.int .i64 x) ∧ Own valsE W wo.heap.size (.slice am lv.length cm) lv)
            ((go_split_ands; refine ⟨?_, ?_, ?_, ?_, ?_, ?_⟩ <;> (first | with_reducible assumption | with_reducible exact Below.drew (by assumption) | with_reducible exact cell_drew (by assumption) | with_reducible exact Own.drew (by assumption) | with_reducible exact below_keep (by assumption) (by assumption) | with_reducible exact cell_keep (by assumption) (by assumption) | with_reducible exact Own.below (by assumption) (by assumption))))
            (first | ((with_reducible refine (HI _).out.mono ?_); rintro _ w4 ⟨rfl, hb4⟩))
          go_split_ands
          have HB4 : Hid (Below wo.heap.size wo w4) := Lib.hid (by with_reducible assumption)
          have HO4 : Hid (Own valsE w4 wo.heap.size (.slice am lv.length cm) lv) := Lib.hid (by with_reducible assumption)
          have k0 : w4.cell? ⟨wi.heap.size, 0, none⟩ = some (.slice a1 xv.length n1) := by with_reducible assumption
          clear hb4 hO' hB1 d0 d1 d2 d3 cx2 HOM HI HWA HBi
          cases q
          · have HT' : Hid (lv = (holdL (ext.take (j + 1)) x).map Tup.vals) := Lib.hid (by rw [HT.out, if_neg (by decide), List.append_nil]; exact HLV.out)
            go_wp2_with fail
            go_roundw
            case rel => exact ⟨j + 1, by omega, by go_num, by rw [← HT'.out]; exact HO4.out, HB4⟩
            case measure => simp [intOf]; omega
          · have HT' : Hid (lv ++ [xv] = (holdL (ext.take (j + 1)) x).map Tup.vals) := Lib.hid (by rw [HT.out, if_pos rfl, List.map_append, ← HLV.out]; rfl)
            have hlv2 : lv.length ≤ 1000 := by have := HLVL.out; omega
            have HIS : Hid (Els valsE w4 (fun j => some j = (Value.slice am lv.length cm).ownBlock) [xv] [.slice a1 xv.length n1]) := Lib.hid (Els.one ⟨_, rfl, ((HVV.out.old (Nat.le_refl _)).below HB4.out).mono (fun j _ hj => (HO4.out.lt j hj.symm).1)⟩)
            go_wp2_with (at_builtin; refine wpList_push rfl (.tmp 51) (.tmp 54) 82 rfl valsE Try.underlying82 wo.heap.size (.slice am lv.length cm) lv rfl HO4.out [xv] #[.slice a1 xv.length n1] HIS.out 1 1 rfl rfl (by decide) (by unfold maxLen; omega) (by show _ * 24 ≤ _; omega) HB4.out.size ?_; intro g cap w5 hP hPa)
            go_roundw
            case rel => exact ⟨j + 1, by omega, by go_num, by rw [← HT'.out]; exact hP.own' (by simp), Lib.hid (HB4.out.trans hP.below)⟩
            case measure => simp [intOf]; omega
        · have hjm : ext.take j = ext := List.take_of_length_le (by rw [← HM.out]; omega)
          rw [hjm] at hOm
          have hml : (holdL ext x).length ≤ 1000 := by have := holdL_len ext j x; rw [hjm, ← HM.out] at this; omega
          have HAG := Lib.hid (aggr_any ve _ e kind arg ((holdL ext x).map Tup.vals) wi ((HE3.out.below HB.out).below HBi.out) hOm.sl he (by rw [List.length_map]; omega) HC.out (fun r hr z hz => by
            obtain ⟨t, ht, rfl⟩ := List.mem_map.1 hr
            exact HE64.out t (List.mem_filter.1 ht).1 z hz))
          have hag : aggP kind (argsL e arg ((holdL ext x).map Tup.vals)) = aggT e arg kind (holdL ext x) := by unfold aggT argsL; rw [List.map_map]; rfl
          rw [hag] at HAG
          generalize aggT e arg kind (holdL ext x) = av at HAG HST
          obtain ⟨am, cm, rfl⟩ := hOm.shape
          have HOi := Lib.hid (HO.out.below HBi.out)
          have HBi2 := Lib.hid (below_keep HB.out HBi.out)
          have HXi := Lib.hid (cell_keep HBi.out HX0.out)
          have HYi := Lib.hid (cell_keep HBi.out HY0.out)
          obtain ⟨mm, hmm⟩ : ∃ mm, mm = ((holdL ext x).map Tup.vals).length := ⟨_, rfl⟩
          rw [← hmm] at HAG ⊢
          clear hOm hjm hag hml hmm
          obtain ⟨vk, vn, vs⟩ := av
          unfold aggG at HAG
          dsimp only at HAG
          go_wp2_with fail
          refine HAG.out.mono ?_
          rintro _ w6 ⟨rfl, hb6⟩
          have HO6 := Lib.hid (HOi.out.below hb6)
          have HB6 := Lib.hid (below_keep HBi2.out hb6)
          have hzo6 : wo.heap.size ≤ w6.heap.size := Nat.le_trans HBi.out.size hb6.size
          have cx6 := cell_keep hb6 HXi.out
          have cy6 := cell_keep hb6 HYi.out
          clear hb6 HAG HOi HBi2 HXi HYi HX0 HY0 HBi HO
          go_upto_region 16 with fail
          have hbv := World.alloc_heap_new w6 (.cells #[.int .i64 vk, .int .i64 vn, .string vs] 41)
          have hb7 := below_alloc w6 (.cells #[.int .i64 vk, .int .i64 vn, .string vs] 41)
          obtain ⟨w7, hw7⟩ : ∃ w7, w7 = w6.alloc (.cells #[.int .i64 vk, .int .i64 vn, .string vs] 41) := ⟨_, rfl⟩
          obtain ⟨bv, hbvv⟩ : ∃ bv, bv = w6.heap.size := ⟨_, rfl⟩
          rw [← hw7] at hbv hb7 ⊢
          rw [← hbvv] at hbv ⊢
          have HO7 := Lib.hid (HO6.out.below hb7)
          have HB7 := Lib.hid (below_keep HB6.out hb7)
          have HX7 := Lib.hid (cell_keep hb7 cx6)
          have HY7 := Lib.hid (cell_keep hb7 cy6)
          have HBV : Hid (BoxV w7 bv ⟨vk, vn, vs⟩) := Lib.hid hbv
          have hbvw : bv < w7.heap.size := BoxV.lt HBV.out
          have hbvo : wo.heap.size ≤ bv := by omega
          clear hbv hb7 hw7 hbvv HO6 HB6 cx6 cy6 hzo6
          go_cut [77] (fun s77 wx => ∃ qb : Bool, s77 = .bool qb ∧ Hid (qb = true → ∃ i z, ls = i ++ [z] ∧ cmpG z.v ⟨vk, vn, vs⟩ = 0) ∧ Hid (qb = false → putStep ls ⟨x, y, ⟨vk, vn, vs⟩⟩ = ls ++ [⟨x, y, ⟨vk, vn, vs⟩⟩]) ∧ Hid (Below w7.heap.size w7 wx))
          case first =>
            rcases List.eq_nil_or_concat ls with hle | ⟨ini, z, hle⟩
            · subst hle
              have HQ1 : Hid (putStep [] ⟨x, y, ⟨vk, vn, vs⟩⟩ = [] ++ [⟨x, y, ⟨vk, vn, vs⟩⟩]) := Lib.hid rfl
              refine wp_region_held_drew (S := fun W => Below w7.heap.size w7 W) (by kernel_rfl) ((Below.refl _ _).drew) (fun hHeld => ?_)
              refine take_y (i := 0) (d := some 65) (v := ?_) rfl rfl (by kernel_rfl) (by kernel_rfl) (by kernel_rfl) (fun _ _ _ h => h) (by assumption) ?_ ?_
              rotate_left
              · intro oi ho
                simp only [List.getElem?_toArray, List.getElem?_cons_zero, Option.some.injEq] at ho
                subst ho
                intro w hSw
                skip
                go_simp
                (try with_reducible rfl)
              (try simp only [Act.put, List.setIfInBounds_toArray, List.set_cons_zero, List.set_cons_succ])
              refine take_y (i := 1) (d := some 66) (v := ?_) rfl rfl (by kernel_rfl) (by kernel_rfl) (by kernel_rfl) (fun _ _ _ h => h) (by assumption) ?_ ?_
              rotate_left
              · intro oi ho
                simp only [List.getElem?_toArray, List.getElem?_cons_succ, List.getElem?_cons_zero, Option.some.injEq] at ho
                subst ho
                intro w hSw
                skip
                go_simp
                (try with_reducible rfl)
              (try simp only [Act.put, List.setIfInBounds_toArray, List.set_cons_zero, List.set_cons_succ])
              refine take_y (i := 2) (d := some 67) (v := ?_) rfl rfl (by kernel_rfl) (by kernel_rfl) (by kernel_rfl) (fun _ _ _ h => h) (by assumption) ?_ ?_
              rotate_left
              · intro oi ho
                simp only [List.getElem?_toArray, List.getElem?_cons_succ, List.getElem?_cons_zero, Option.some.injEq] at ho
                subst ho
                intro w hSw
                skip
                go_simp
                (try with_reducible rfl)
              (try simp only [Act.put, List.setIfInBounds_toArray, List.set_cons_zero, List.set_cons_succ])
              refine take_n (i := 3) (d := some 68) rfl rfl (by kernel_rfl) (by kernel_rfl) (by kernel_rfl) (fun _ _ _ h => h) (by assumption) ?_
              (try simp only [Act.put, List.setIfInBounds_toArray, List.set_cons_zero, List.set_cons_succ])
              refine take_n (i := 4) (d := some 69) rfl rfl (by kernel_rfl) (by kernel_rfl) (by kernel_rfl) (fun _ _ _ h => h) (by assumption) ?_
              (try simp only [Act.put, List.setIfInBounds_toArray, List.set_cons_zero, List.set_cons_succ])
              refine take_n (i := 5) (d := some 70) rfl rfl (by kernel_rfl) (by kernel_rfl) (by kernel_rfl) (fun _ _ _ h => h) (by assumption) ?_
              (try simp only [Act.put, List.setIfInBounds_toArray, List.set_cons_zero, List.set_cons_succ])
              refine take_n (i := 6) (d := some 71) rfl rfl (by kernel_rfl) (by kernel_rfl) (by kernel_rfl) (fun _ _ _ h => h) (by assumption) ?_
              (try simp only [Act.put, List.setIfInBounds_toArray, List.set_cons_zero, List.set_cons_succ])
              refine take_n (i := 7) (d := some 72) rfl rfl (by kernel_rfl) (by kernel_rfl) (by kernel_rfl) (fun _ _ _ h => h) (by assumption) ?_
              (try simp only [Act.put, List.setIfInBounds_toArray, List.set_cons_zero, List.set_cons_succ])
              refine take_n (i := 8) (d := some 73) rfl rfl (by kernel_rfl) (by kernel_rfl) (by kernel_rfl) (fun _ _ _ h => h) (by assumption) ?_
              (try simp only [Act.put, List.setIfInBounds_toArray, List.set_cons_zero, List.set_cons_succ])
              refine take_n (i := 9) (d := some 74) rfl rfl (by kernel_rfl) (by kernel_rfl) (by kernel_rfl) (fun _ _ _ h => h) (by assumption) ?_
              (try simp only [Act.put, List.setIfInBounds_toArray, List.set_cons_zero, List.set_cons_succ])
              refine take_n (i := 10) (d := some 75) rfl rfl (by kernel_rfl) (by kernel_rfl) (by kernel_rfl) (fun _ _ _ h => h) (by assumption) ?_
              (try simp only [Act.put, List.setIfInBounds_toArray, List.set_cons_zero, List.set_cons_succ])
              refine take_n (i := 11) (d := some 76) rfl rfl (by kernel_rfl) (by kernel_rfl) (by kernel_rfl) (fun _ _ _ h => h) (by assumption) ?_
              (try simp only [Act.put, List.setIfInBounds_toArray, List.set_cons_zero, List.set_cons_succ])
              refine take_y (i := 12) (d := some 77) (v := ?_) rfl rfl (by kernel_rfl) (by kernel_rfl) (by kernel_rfl) (fun _ _ _ h => h) (by assumption) ?_ ?_
              rotate_left
              · intro oi ho
                simp only [List.getElem?_toArray, List.getElem?_cons_succ, List.getElem?_cons_zero, Option.some.injEq] at ho
                subst ho
                intro w hSw
                skip
                go_simp
                (try with_reducible rfl)
              (try simp only [Act.put, List.setIfInBounds_toArray, List.set_cons_zero, List.set_cons_succ])
              refine wpAnyH_done (by kernel_rfl) ?_ _
              go_wp2_with fail
              go_meet
              exact ⟨false, rfl, Lib.hid (fun h => by cases h), Lib.hid (fun _ => HQ1.out), Lib.hid (by assumption)⟩
            · have hll : ls.length = ini.length + 1 := by rw [hle]; simp
              have hlz : ls[ini.length]? = some z := by rw [hle]; simp
              have hla : ls.getLast? = some z := by rw [hle]; simp
              obtain ⟨t, ht⟩ : ∃ t, t = ini.length := ⟨_, rfl⟩
              rw [← ht] at hll hlz
              have hlnn : ls.length ≤ 2002 := by have := HLN.out; omega
              have HLE : Hid (ls = ini ++ [z]) := Lib.hid (by rw [hle, List.concat_eq_append])
              obtain ⟨nl, hnl⟩ : ∃ nl, nl = ls.length := ⟨_, rfl⟩
              have HNL := Lib.hid hnl
              have HO' := HO7.out
              rw [← hnl] at hll hlnn HO' ⊢
              obtain ⟨gq, cq, hsh⟩ := HO'.shape_pos (by omega)
              rw [← hnl] at hsh
              cases hsh
              obtain ⟨_, _, s2, s3, s4⟩ := stp_at HO' hlz
              obtain ⟨⟨v0, v1, v2⟩, _⟩ := HBV.out.cells
              have HPS := @putStep_same ls z ⟨x, y, ⟨vk, vn, vs⟩⟩ hla
              have HPN := @putStep_new ls z ⟨x, y, ⟨vk, vn, vs⟩⟩ hla
              have HCM := fun W => Lib.hid (valCmp_any z.v ⟨vk, vn, vs⟩ W)
              dsimp only at HPS HPN
              generalize hr : cmpG z.v ⟨vk, vn, vs⟩ = r at HCM HPS HPN
              have HR := Lib.hid hr
              have HPN2 := Lib.hid HPN
              obtain ⟨zlo, zhi, zk, zn, zs⟩ := z
              unfold aggG at HCM
              dsimp only at HCM s2 s3 s4
              have hw3 : IntKind.i64.wrap ((nl : Int) - 1) = (t : Int) := by rw [IntWalk.i64_in _ (by omega)]; omega
              have ht1 : (t : Int) < (nl : Int) := by omega
              have ht2 : t < nl := by omega
              have hn1 : (nl : Int) > 0 := by omega
              have hn2 : 0 < nl := by omega
              have hn3 : 0 < (nl : Int) := by omega
              clear hle hll hlz hla hnl HO' hr HPS HPN ht
              go_region_held3 (fun W => Below w7.heap.size w7 W ∧ W.cell? ⟨gq, t * 5 + 2, none⟩ = some (.int .i64 zk) ∧ W.cell? ⟨gq, t * 5 + 3, none⟩ = some (.int .i64 zn) ∧ W.cell? ⟨gq, t * 5 + 4, none⟩ = some (.string zs) ∧ W.cell? ⟨bv, 0, none⟩ = some (.int .i64 vk) ∧ W.cell? ⟨bv, 1, none⟩ = some (.int .i64 vn) ∧ W.cell? ⟨bv, 2, none⟩ = some (.string vs))
                ((go_split_ands; refine ⟨?_, ?_, ?_, ?_, ?_, ?_, ?_⟩ <;> (first | with_reducible assumption | with_reducible exact (Below.refl _ _).drew | with_reducible exact Below.drew (by assumption) | with_reducible exact cell_drew (by assumption) | with_reducible exact below_keep (by assumption) (by assumption) | with_reducible exact cell_keep (by assumption) (by assumption))))
                (first | ((with_reducible refine (HCM _).out.mono ?_); rintro _ w8 ⟨rfl, hb8⟩))
              go_split_ands
              have HBF : Hid (Below w7.heap.size w7 w8) := Lib.hid (by with_reducible assumption)
              clear hw3 ht1 ht2 hn1 hn2 hn3 s2 s3 s4 v0 v1 v2 hb8 HCM
              go_wp2_with fail
              have hnl := HNL.out
              subst hnl
              go_meet
              exact ⟨_, rfl, Lib.hid (fun h => ⟨ini, ⟨zlo, zhi, ⟨zk, zn, zs⟩⟩, HLE.out, by dsimp only; rw [HR.out]; simpa using h⟩), Lib.hid (fun h => HPN2.out (by simpa using h)), HBF⟩
          case rest =>
            obtain ⟨qb, rfl, HT, HF, HBC⟩ := hcut
            have HOc := Lib.hid (HO7.out.below HBC.out)
            have HBc := Lib.hid (below_keep HB7.out HBC.out)
            have HXc := Lib.hid (cell_keep HBC.out HX7.out)
            have HYc := Lib.hid (cell_keep HBC.out HY7.out)
            have HVc := Lib.hid (HBV.out.below HBC.out)
            obtain ⟨w8, rfl⟩ : ∃ w8 : World, w8 = wc := ⟨_, rfl⟩
            clear HO7 HB7 HX7 HY7 HBV HBC
            cases qb
            · have HST2 : Hid (stepsTo pts (fun p => aggT e arg kind (holdL ext p)) (k + 1) = ls ++ [⟨x, y, ⟨vk, vn, vs⟩⟩]) := Lib.hid (by rw [HST.out]; exact HF.out rfl)
              have hlnn : ls.length ≤ 2002 := by have := HLN.out; omega
              have HO8 := HOc
              have HW8 : Hid (w3.heap.size ≤ w8.drew.heap.size) := Lib.hid HBc.out.size
              have HS0 : Hid (MovS w8 bv b (o + k) (o + (k + 1)) x y ⟨vk, vn, vs⟩ w8) := Lib.hid ⟨HVc.out, HXc.out, HYc.out⟩
              have HNE : Hid (some b ≠ (Value.slice ao ls.length co).ownBlock ∧ some bv ≠ (Value.slice ao ls.length co).ownBlock) := Lib.hid ⟨fun e => by have := (HOL.out b e.symm).1; omega, fun e => by have := (HOL.out bv e.symm).2; omega⟩
              clear HOc HXc HYc HVc HST HT HF
              go_upto_region 18 with fail
              refine wp_region_held_drew (S := MovS w8 bv b (o + k) (o + (k + 1)) x y ⟨vk, vn, vs⟩) (by kernel_rfl) HS0.out.drew (fun hHeld => ?_)
              refine take_y (i := 0) (d := some 88) (v := ?_) rfl rfl (by kernel_rfl) (by kernel_rfl) (by kernel_rfl) (fun _ _ _ h => h) (by assumption) ?_ ?_
              rotate_left
              · intro oi ho
                simp only [List.getElem?_toArray, List.getElem?_cons_zero, Option.some.injEq] at ho
                subst ho
                intro w hSw
                obtain ⟨e0, e1, e2, e3, e4⟩ := hSw.facts
                go_simp
                (try with_reducible rfl)
              (try simp only [Act.put, List.setIfInBounds_toArray, List.set_cons_zero, List.set_cons_succ])
              refine take_y (i := 1) (d := some 89) (v := ?_) rfl rfl (by kernel_rfl) (by kernel_rfl) (by kernel_rfl) (fun _ _ _ h => h) (by assumption) ?_ ?_
              rotate_left
              · intro oi ho
                simp only [List.getElem?_toArray, List.getElem?_cons_succ, List.getElem?_cons_zero, Option.some.injEq] at ho
                subst ho
                intro w hSw
                obtain ⟨e0, e1, e2, e3, e4⟩ := hSw.facts
                go_simp
                (try with_reducible rfl)
              (try simp only [Act.put, List.setIfInBounds_toArray, List.set_cons_zero, List.set_cons_succ])
              refine take_y (i := 2) (d := some 90) (v := ?_) rfl rfl (by kernel_rfl) (by kernel_rfl) (by kernel_rfl) (fun _ _ _ h => h) (by assumption) ?_ ?_
              rotate_left
              · intro oi ho
                simp only [List.getElem?_toArray, List.getElem?_cons_succ, List.getElem?_cons_zero, Option.some.injEq] at ho
                subst ho
                intro w hSw
                obtain ⟨e0, e1, e2, e3, e4⟩ := hSw.facts
                go_simp
                (try with_reducible rfl)
              (try simp only [Act.put, List.setIfInBounds_toArray, List.set_cons_zero, List.set_cons_succ])
              refine take_y (i := 3) (d := some 91) (v := ?_) rfl rfl (by kernel_rfl) (by kernel_rfl) (by kernel_rfl) (fun _ _ _ h => h) (by assumption) ?_ ?_
              rotate_left
              · intro oi ho
                simp only [List.getElem?_toArray, List.getElem?_cons_succ, List.getElem?_cons_zero, Option.some.injEq] at ho
                subst ho
                intro w hSw
                obtain ⟨e0, e1, e2, e3, e4⟩ := hSw.facts
                go_simp
                (try with_reducible rfl)
              (try simp only [Act.put, List.setIfInBounds_toArray, List.set_cons_zero, List.set_cons_succ])
              refine take_y (i := 4) (d := some 92) (v := ?_) rfl rfl (by kernel_rfl) (by kernel_rfl) (by kernel_rfl) (fun _ _ _ h => h) (by assumption) ?_ ?_
              rotate_left
              · intro oi ho
                simp only [List.getElem?_toArray, List.getElem?_cons_succ, List.getElem?_cons_zero, Option.some.injEq] at ho
                subst ho
                intro w hSw
                obtain ⟨e0, e1, e2, e3, e4⟩ := hSw.facts
                go_simp
                (try with_reducible rfl)
              (try simp only [Act.put, List.setIfInBounds_toArray, List.set_cons_zero, List.set_cons_succ])
              refine take_y (i := 5) (d := some 93) (v := ?_) rfl rfl (by kernel_rfl) (by kernel_rfl) (by kernel_rfl) (fun _ _ _ h => h) (by assumption) ?_ ?_
              rotate_left
              · intro oi ho
                simp only [List.getElem?_toArray, List.getElem?_cons_succ, List.getElem?_cons_zero, Option.some.injEq] at ho
                subst ho
                intro w hSw
                obtain ⟨e0, e1, e2, e3, e4⟩ := hSw.facts
                go_simp
                (try with_reducible rfl)
              (try simp only [Act.put, List.setIfInBounds_toArray, List.set_cons_zero, List.set_cons_succ])
              refine take_y (i := 6) (d := some 94) (v := ?_) rfl rfl (by kernel_rfl) (by kernel_rfl) (by kernel_rfl) (fun _ _ _ h => h) (by assumption) ?_ ?_
              rotate_left
              · intro oi ho
                simp only [List.getElem?_toArray, List.getElem?_cons_succ, List.getElem?_cons_zero, Option.some.injEq] at ho
                subst ho
                intro w hSw
                obtain ⟨e0, e1, e2, e3, e4⟩ := hSw.facts
                go_simp
                (try with_reducible rfl)
              (try simp only [Act.put, List.setIfInBounds_toArray, List.set_cons_zero, List.set_cons_succ])
              refine take_y (i := 7) (d := some 95) (v := ?_) rfl rfl (by kernel_rfl) (by kernel_rfl) (by kernel_rfl) (fun _ _ _ h => h) (by assumption) ?_ ?_
              rotate_left
              · intro oi ho
                simp only [List.getElem?_toArray, List.getElem?_cons_succ, List.getElem?_cons_zero, Option.some.injEq] at ho
                subst ho
                intro w hSw
                obtain ⟨e0, e1, e2, e3, e4⟩ := hSw.facts
                go_simp
                (try with_reducible rfl)
              (try simp only [Act.put, List.setIfInBounds_toArray, List.set_cons_zero, List.set_cons_succ])
              refine take_y (i := 8) (d := some 96) (v := ?_) rfl rfl (by kernel_rfl) (by kernel_rfl) (by kernel_rfl) (fun _ _ _ h => h) (by assumption) ?_ ?_
              rotate_left
              · intro oi ho
                simp only [List.getElem?_toArray, List.getElem?_cons_succ, List.getElem?_cons_zero, Option.some.injEq] at ho
                subst ho
                intro w hSw
                obtain ⟨e0, e1, e2, e3, e4⟩ := hSw.facts
                go_simp
                (try with_reducible rfl)
              (try simp only [Act.put, List.setIfInBounds_toArray, List.set_cons_zero, List.set_cons_succ])
              refine take_y (i := 9) (d := some 97) (v := ?_) rfl rfl (by kernel_rfl) (by kernel_rfl) (by kernel_rfl) (fun _ _ _ h => h) (by assumption) ?_ ?_
              rotate_left
              · intro oi ho
                simp only [List.getElem?_toArray, List.getElem?_cons_succ, List.getElem?_cons_zero, Option.some.injEq] at ho
                subst ho
                intro w hSw
                obtain ⟨e0, e1, e2, e3, e4⟩ := hSw.facts
                go_simp
                (try with_reducible rfl)
              (try simp only [Act.put, List.setIfInBounds_toArray, List.set_cons_zero, List.set_cons_succ])
              refine take_y (i := 10) (d := some 98) (v := ?_) rfl rfl (by kernel_rfl) (by kernel_rfl) (by kernel_rfl) (fun _ _ _ h => h) (by assumption) ?_ ?_
              rotate_left
              · intro oi ho
                simp only [List.getElem?_toArray, List.getElem?_cons_succ, List.getElem?_cons_zero, Option.some.injEq] at ho
                subst ho
                intro w hSw
                obtain ⟨e0, e1, e2, e3, e4⟩ := hSw.facts
                go_simp
                (try with_reducible rfl)
              (try simp only [Act.put, List.setIfInBounds_toArray, List.set_cons_zero, List.set_cons_succ])
              refine take_y (i := 11) (d := some 99) (v := ?_) rfl rfl (by kernel_rfl) (by kernel_rfl) (by kernel_rfl) (fun _ _ _ h => h) (by assumption) ?_ ?_
              rotate_left
              · intro oi ho
                simp only [List.getElem?_toArray, List.getElem?_cons_succ, List.getElem?_cons_zero, Option.some.injEq] at ho
                subst ho
                intro w hSw
                obtain ⟨e0, e1, e2, e3, e4⟩ := hSw.facts
                go_simp
                (try with_reducible rfl)
              (try simp only [Act.put, List.setIfInBounds_toArray, List.set_cons_zero, List.set_cons_succ])
              refine take_y (i := 12) (d := some 100) (v := ?_) rfl rfl (by kernel_rfl) (by kernel_rfl) (by kernel_rfl) (fun _ _ _ h => h) (by assumption) ?_ ?_
              rotate_left
              · intro oi ho
                simp only [List.getElem?_toArray, List.getElem?_cons_succ, List.getElem?_cons_zero, Option.some.injEq] at ho
                subst ho
                intro w hSw
                obtain ⟨e0, e1, e2, e3, e4⟩ := hSw.facts
                go_simp
                (try with_reducible rfl)
              (try simp only [Act.put, List.setIfInBounds_toArray, List.set_cons_zero, List.set_cons_succ])
              refine wpAnyH_ready (rs := [13]) (by kernel_rfl) (by simp) ?_
              refine AllReadyH.cons rfl (fun K hK => ?_) AllReadyH.nil
              go_simp
              refine hK.out _ _ ?_ (fun hHeld => ?_)
              · exact hHeld.below (below_alloc _ _)
              clear hK K
              (try simp only [Act.put, List.setIfInBounds_toArray, List.set_cons_zero, List.set_cons_succ])
              refine wpAnyH_ready (rs := [14]) (by kernel_rfl) (by simp) ?_
              refine AllReadyH.cons rfl (fun K hK => ?_) AllReadyH.nil
              refine (step_push rfl (.tmp 88) (.tmp 101) 34 rfl stpE Try.underlying34 w3.heap.size (.slice ao ls.length co) ls rfl HO8.out.drew [⟨x, y, ⟨vk, vn, vs⟩⟩] #[.int .i64 x, .int .i64 y, .int .i64 vk, .int .i64 vn, .string vs] (Els.one rfl) 1 1 rfl rfl (by decide) (by unfold maxLen; omega) (by show _ * 48 ≤ _; omega) HW8.out ?_)
              intro g cap w9 hP hPa
              refine hK.out _ _ ?_ (fun hHeld => ?_)
              · exact HS0.out.drew.push hP HNE.out
              clear hK K
              (try simp only [Act.put, List.setIfInBounds_toArray])
              refine take_y (i := 15) (d := some 13) (v := ?_) rfl rfl (by kernel_rfl) (by kernel_rfl) (by kernel_rfl) (fun _ _ _ h => h) (by assumption) ?_ ?_
              rotate_left
              · intro oi ho
                simp only [List.getElem?_toArray, List.getElem?_cons_succ, List.getElem?_cons_zero, Option.some.injEq] at ho
                subst ho
                intro w hSw
                skip
                go_simp
                (try with_reducible rfl)
              (try simp only [Act.put])
              refine wpAnyH_done (by kernel_rfl) ?_ _
              have HOF := Lib.hid (hP.own' (n := ls.length + 1) (by simp))
              have HBF : Hid (Below w3.heap.size w3 w9) := Lib.hid ((HBc.out.drew).trans hP.below)
              clear hP hPa hHeld
              go_wp2_with fail
              go_roundw
              case rel => exact ⟨k + 1, by omega, by go_num, by rw [HST2.out]; exact HOF.out, HBF⟩
              case measure => simp [intOf]; omega
            · obtain ⟨ini, z, hle, hz⟩ := HT.out rfl
              have hll : ls.length = ini.length + 1 := by rw [hle]; simp
              have hlz : ls[ini.length]? = some z := by rw [hle]; simp
              have hla : ls.getLast? = some z := by rw [hle]; simp
              have hdl : ls.dropLast = ini := by rw [hle]; simp
              have hset : ls.set ini.length ⟨z.lo, y, z.v⟩ = ini ++ [⟨z.lo, y, z.v⟩] := by rw [hle]; simp
              have HST2 : Hid (stepsTo pts (fun p => aggT e arg kind (holdL ext p)) (k + 1) = ini ++ [⟨z.lo, y, z.v⟩]) := Lib.hid (by rw [HST.out, putStep_same hla hz, hdl])
              obtain ⟨t, ht⟩ : ∃ t, t = ini.length := ⟨_, rfl⟩
              rw [← ht] at hll hlz hset
              have hlnn : ls.length ≤ 2002 := by have := HLN.out; omega
              have hoo := HOc.out
              obtain ⟨nl, hnl⟩ : ∃ nl, nl = ls.length := ⟨_, rfl⟩
              rw [← hnl] at hll hlnn hoo ⊢
              obtain ⟨gq, cq, hsh⟩ := hoo.shape_pos (by omega)
              rw [← hnl] at hsh
              cases hsh
              obtain ⟨s0, s1, _, _, _⟩ := stp_at hoo hlz
              have hput := (hoo.put_at (E := stpE) (k := t) (j := 1) (us := [.int .i64 y]) (y := ⟨z.lo, y, z.v⟩) hnl.symm (by omega) (by show 1 + 1 ≤ 5; decide) (fun x0 cs hx0 hcs => by
                rw [hlz] at hx0
                cases hx0
                cases hcs
                rfl)).1
              rw [hset] at hput
              have hput2 : Own stpE (w8.setCell ⟨gq, t * 5 + 1, none⟩ (.int .i64 y)) w3.heap.size (.slice (some ⟨gq, 0, none⟩) nl co) (ini ++ [⟨z.lo, y, z.v⟩]) := hput
              have hg3 : w3.heap.size ≤ gq := (HOL.out gq rfl).1
              have hgz : gq < w8.heap.size := World.block_lt_of_cell? _ _ s1
              have hfz : w8.frozen? ⟨gq, t * 5 + 1, none⟩ = false := hoo.frozen hnl.symm _
              have HPUT := Lib.hid hput2
              have HBS : Hid (Below w3.heap.size w3 (w8.setCell ⟨gq, t * 5 + 1, none⟩ (.int .i64 y))) := Lib.hid (HBc.out.setCell hg3 _)
              have hn1 : (nl : Int) - 1 = (t : Int) := by omega
              have ht1 : (t : Int) < (nl : Int) := by omega
              have ht2 : t < nl := by omega
              have cyc := HYc.out
              clear hle hz hll hlz hla hdl hset hnl hoo hput hput2 HOc HST HT HF ht
              go_wp2_with fail
              refine ⟨⟨k + 1, by omega, congrArg (Value.int .i64) (by omega), ?_, HBS⟩, ?_⟩
              · rw [HST2.out]
                exact HPUT.out
              · simp [intOf]; omega
    · have hkn : np = 0 ∨ k = np - 1 := by omega
      have HRS : Hid (stepsTo pts (fun p => aggT e arg kind (holdL ext p)) k = res) := Lib.hid (by
        rw [HRES.out]
        unfold stepsL
        rw [← HNP.out]
        rcases hkn with h | h
        · rw [show k = np - 1 by omega]
        · rw [h])
      rw [HRS.out] at hO
      obtain ⟨ao, co, rfl⟩ := hO.shape
      have HO := Lib.hid (hO.mono HB3.out.size)
      have hlt2 : ¬ ((k : Int) + 1 < (np : Int)) := by omega
      clear hO hkn HRS hk
      go_wp2_with fail
      go_ret
      exact ⟨_, rfl, HO.out, HB3.out.trans (HB.out.mono HB3.out.size)⟩
end Go.Proofs.Ytfmbbfidjcgeiaa

namespace Go.Proofs.Ytfmbbfidjcgeiaa
open Go.RowKit Go.Lib Go.Shelf

def ndCells (d : Nd) : List Value := [.int .i64 (hiW d.s), .int .u64 (loW d.s), .int .i64 d.mn, .int .i64 d.mx]
theorem node_info : (Try.prog.info? 74).map (fun i => (i.zero, i.size, i.bytes)) = some (some (.agg #[.int .i64 0, .int .u64 0, .int .i64 0, .int .i64 0]), 4, 32) := by kernel_rfl
def nodeE : El Try.prog Nd := El.flat 74 4 32 (by decide) (info_mk node_info rfl) ndCells (fun _ => rfl) (by intro x u hu; simp [ndCells] at hu; rcases hu with rfl | rfl | rfl | rfl <;> rfl)
def nd0 : Nd := ⟨0, 0, 0⟩
theorem ndCells0 : ndCells nd0 = [.int .i64 0, .int .u64 0, .int .i64 0, .int .i64 0] := by
  unfold ndCells nd0 hiW loW
  simp
theorem nd_set {l : List Nd} {k : Nat} (hk : k < l.length) (y : Nd) :
    ((((l.flatMap ndCells).set (k * 4) (.int .i64 (hiW y.s))).set (k * 4 + 1) (.int .u64 (loW y.s))).set (k * 4 + 2) (.int .i64 y.mn)).set (k * 4 + 3) (.int .i64 y.mx) = (l.set k y).flatMap ndCells := by
  induction l generalizing k with
  | nil => simp at hk
  | cons x l ih =>
    cases k with
    | zero => simp [ndCells]
    | succ k =>
      have e0 : (k + 1) * 4 = k * 4 + 1 + 1 + 1 + 1 := by omega
      have h := ih (k := k) (by simpa using hk)
      rw [e0]
      simp only [List.flatMap_cons, List.set_cons_succ, ← h]
      simp [ndCells]
theorem made_nodes (n : Nat) : (madeCells #[.int .i64 0, .int .u64 0, .int .i64 0, .int .i64 0] (n * 4)).toList = (List.replicate n nd0).flatMap ndCells := by
  refine List.ext_getElem? fun j => ?_
  rcases Nat.lt_or_ge j (n * 4) with hj | hj
  · have hi : j / 4 < n := by omega
    have hx : (List.replicate n nd0)[j / 4]? = some nd0 := by simp [hi]
    obtain ⟨r, hr, e⟩ : ∃ r, r < 4 ∧ j = j / 4 * 4 + r := ⟨j % 4, by omega, by omega⟩
    have hm : j % 4 = r := by omega
    have hl : (madeCells #[.int .i64 0, .int .u64 0, .int .i64 0, .int .i64 0] (n * 4)).toList[j]? = some (#[.int .i64 0, .int .u64 0, .int .i64 0, Value.int .i64 0][r]!) := by
      simp [madeCells, hj, hm]
    rw [hl, e]
    rcases (by omega : r = 0 ∨ r = 1 ∨ r = 2 ∨ r = 3) with rfl | rfl | rfl | rfl
    · exact (flatMap_at ndCells 4 (fun _ => rfl) _ _ _ 0 _ hx (by rw [ndCells0]; rfl)).symm
    · exact (flatMap_at ndCells 4 (fun _ => rfl) _ _ _ 1 _ hx (by rw [ndCells0]; rfl)).symm
    · exact (flatMap_at ndCells 4 (fun _ => rfl) _ _ _ 2 _ hx (by rw [ndCells0]; rfl)).symm
    · exact (flatMap_at ndCells 4 (fun _ => rfl) _ _ _ 3 _ hx (by rw [ndCells0]; rfl)).symm
  · have h2 := flatMap_length ndCells 4 (fun _ => rfl) (List.replicate n nd0)
    rw [List.getElem?_eq_none (by simpa [size_madeCells] using hj), List.getElem?_eq_none (by rw [h2]; simpa using hj)]
/-- A tree in memory: its box p, its row of nodes g. -/
structure TreeAt (w : World) (B p g : Nat) (nd : List Nd) (n : Nat) : Prop where
  own : Own nodeE w B (.slice (some ⟨g, 0, none⟩) (2 * n) (2 * n)) nd
  len : nd.length = 2 * n
  box : w.heap[p]? = some (.cells #[.int .i64 (n : Int), .slice (some ⟨g, 0, none⟩) (2 * n) (2 * n)] 69)
  base : B ≤ p
  ne : p ≠ g
theorem own_kept {P : Program} {α : Type} {ty : TypeId} {size bytes : Nat} {pos : 0 < size} {info : ∃ i z, P.info? ty = some i ∧ i.zero = some z ∧ i.size = size ∧ i.bytes = bytes ∧ z.cells.size = size}
    {f : α → List Value} {hf : ∀ x, (f x).length = size} {h1 : ∀ x, ∀ u ∈ f x, u.oneCell' = true} {w w' : World} {G : Nat → Prop} {B : Nat} {v : Value} {l : List α} (h : Own (El.flat (P := P) ty size bytes pos info f hf h1) w B v l) (hk : Kept G w w') (hG : ∀ k, v.ownBlock = some k → ¬ G k) : Own (El.flat (P := P) ty size bytes pos info f hf h1) w' B v l := by
  obtain ⟨xs, ⟨h0, h1⟩, h2⟩ := h
  refine ⟨xs, ⟨h0, ?_⟩, fun i x hx => h2 i x hx⟩
  rcases h1 with h1 | ⟨g, cap, cur, e, hg, hh, r⟩
  · exact .inl h1
  · exact .inr ⟨g, cap, cur, e, hg, by rw [hk.2 g (Array.getElem?_eq_some_iff.1 hh).1 (hG g (by rw [e]; rfl))]; exact hh, r⟩
section
variable {w w' : World} {B p g n : Nat} {nd : List Nd}
theorem TreeAt.kept {G : Nat → Prop} (h : TreeAt w B p g nd n) (hk : Kept G w w') (hp : ¬ G p) (hg : ¬ G g) : TreeAt w' B p g nd n :=
  ⟨own_kept h.own hk (fun k e => by cases e; exact hg), h.len, (hk.2 p (Array.getElem?_eq_some_iff.1 h.box).1 hp).trans h.box, h.base, h.ne⟩
theorem TreeAt.below (h : TreeAt w B p g nd n) (hb : Below w.heap.size w w') : TreeAt w' B p g nd n := h.kept (.of_below (G := free) hb) id id
theorem TreeAt.baseg (h : TreeAt w B p g nd n) : B ≤ g ∧ g < w.heap.size := h.own.lt g rfl
theorem TreeAt.lt (h : TreeAt w B p g nd n) : p < w.heap.size := (Array.getElem?_eq_some_iff.1 h.box).1
theorem TreeAt.c0 (h : TreeAt w B p g nd n) : w.cell? ⟨p, 0, none⟩ = some (.int .i64 (n : Int)) := by simp [World.cell?, h.box]
theorem TreeAt.c1 (h : TreeAt w B p g nd n) : w.cell? ⟨p, 1, none⟩ = some (.slice (some ⟨g, 0, none⟩) (2 * n) (2 * n)) := by simp [World.cell?, h.box]
theorem TreeAt.frozen (h : TreeAt w B p g nd n) (j : Nat) : w.frozen? ⟨g, j, none⟩ = false := by
  have h1 := Own.flat_cells h.own
  rw [h.len] at h1
  exact h1.frozenAt j
theorem TreeAt.node (h : TreeAt w B p g nd n) {k : Nat} {d : Nd} (hk : nd[k]? = some d) :
    w.cell? ⟨g, k * 4, none⟩ = some (.int .i64 (hiW d.s)) ∧ w.cell? ⟨g, k * 4 + 1, none⟩ = some (.int .u64 (loW d.s)) ∧ w.cell? ⟨g, k * 4 + 2, none⟩ = some (.int .i64 d.mn) ∧ w.cell? ⟨g, k * 4 + 3, none⟩ = some (.int .i64 d.mx) := by
  obtain ⟨b, o, cs, ha, rfl, hc⟩ := h.own.sl.at hk
  cases ha
  have h0 := hc 0 _ rfl
  have h1 := hc 1 _ rfl
  have h2 := hc 2 _ rfl
  have h3 := hc 3 _ rfl
  simp only [Nat.zero_add, Nat.add_zero, show nodeE.size = 4 from rfl] at h0 h1 h2 h3
  exact ⟨h0, h1, h2, h3⟩
theorem TreeAt.set (h : TreeAt w B p g nd n) {k : Nat} (hk : k < 2 * n) (y : Nd) :
    TreeAt ((((w.setCell ⟨g, k * 4, none⟩ (.int .i64 (hiW y.s))).setCell ⟨g, k * 4 + 1, none⟩ (.int .u64 (loW y.s))).setCell ⟨g, k * 4 + 2, none⟩ (.int .i64 y.mn)).setCell ⟨g, k * 4 + 3, none⟩ (.int .i64 y.mx)) B p g (nd.set k y) n := by
  have h1 := Own.flat_cells h.own
  rw [h.len] at h1
  have h2 := ((((h1.stored (k * 4) (.int .i64 (hiW y.s))).1.stored (k * 4 + 1) (.int .u64 (loW y.s))).1.stored (k * 4 + 2) (.int .i64 y.mn)).1.stored (k * 4 + 3) (.int .i64 y.mx)).1
  rw [nd_set (by rw [h.len]; exact hk) y] at h2
  refine ⟨Own.of_flat (by simpa [h.len] using h2), by rw [List.length_set]; exact h.len, ?_, h.base, h.ne⟩
  rw [heap_setCell_other _ _ _ _ h.ne, heap_setCell_other _ _ _ _ h.ne, heap_setCell_other _ _ _ _ h.ne, heap_setCell_other _ _ _ _ h.ne]
  exact h.box
end
end Go.Proofs.Ytfmbbfidjcgeiaa

namespace Go.Proofs.Ytfmbbfidjcgeiaa
open Go.RowKit Go.Lib Go.Shelf

set_option maxHeartbeats 1000000 in
theorem len_tree {B p g n : Nat} {nd : List Nd} (w : World) (hT : TreeAt w B p g nd n) : Calls Try.prog 26 #[.pointer (some ⟨p, 0, none⟩)] w fun e w' => e = .returned (.int .i64 (n : Int)) ∧ w = w' := by
  have c0 := hT.c0
  clear hT
  go_enter Try.func26, Try.ntmps26
  go_wp2_with fail
  go_ret
  exact ⟨rfl, rfl⟩
theorem grown_below {w W W' : World} {g : Option Nat} (h : w.grownBy W g) (hb : Below W.heap.size W W') : w.grownBy W' g :=
  ⟨hb.os.trans h.os, hb.tape.trans h.tape, hb.output.trans h.output, Nat.le_trans h.size hb.size, fun k hk hn => (hb.block k (Nat.lt_of_lt_of_le hk h.size)).trans (h.block k hk hn)⟩
theorem grown_set {w W : World} {g : Nat} {o : Nat} {v : Value} (h : w.grownBy W (some g)) : w.grownBy (W.setCell ⟨g, o, none⟩ v) (some g) :=
  ⟨h.os, h.tape, h.output, by simpa [World.setCell] using h.size, fun k hk hn => (heap_setCell_other _ _ _ _ (fun e => hn (by rw [e]))).trans (h.block k hk hn)⟩
theorem grown_trans {a b c : World} {g : Option Nat} (h : a.grownBy b g) (k : b.grownBy c g) : a.grownBy c g :=
  ⟨k.os.trans h.os, k.tape.trans h.tape, k.output.trans h.output, Nat.le_trans h.size k.size, fun i hi hn => (k.block i (Nat.lt_of_lt_of_le hi h.size) hn).trans (h.block i hi hn)⟩
/-- While one node is stored anew: what stays. -/
structure RegS (w : World) (B p g n i : Nat) (nd : List Nd) (W : World) : Prop where
  tree : ∃ z, TreeAt W B p g (nd.set i z) n
  grown : w.grownBy W (some g)
section
variable {w W W' : World} {B p g n i : Nat} {nd : List Nd}
theorem RegS.below (h : RegS w B p g n i nd W) (hb : Below W.heap.size W W') : RegS w B p g n i nd W' := by
  obtain ⟨z, hz⟩ := h.tree
  exact ⟨⟨z, hz.below hb⟩, grown_below h.grown hb⟩
theorem RegS.drew (h : RegS w B p g n i nd W) : RegS w B p g n i nd W.drew := h.below (Below.refl _ _).drew
theorem RegS.set (h : RegS w B p g n i nd W) (hi : i < 2 * n) (y : Nd) :
    RegS w B p g n i nd ((((W.setCell ⟨g, i * 4, none⟩ (.int .i64 (hiW y.s))).setCell ⟨g, i * 4 + 1, none⟩ (.int .u64 (loW y.s))).setCell ⟨g, i * 4 + 2, none⟩ (.int .i64 y.mn)).setCell ⟨g, i * 4 + 3, none⟩ (.int .i64 y.mx)) := by
  obtain ⟨z, hz⟩ := h.tree
  refine ⟨⟨y, ?_⟩, grown_set (grown_set (grown_set (grown_set h.grown)))⟩
  have := hz.set hi y
  rw [List.set_set] at this
  exact this
theorem RegS.facts {x y : Nd} {j j2 : Nat} (h : RegS w B p g n i nd W) (hi0 : 0 < i) (hj : Hid (j = 2 * i ∧ j2 = j + 1)) (hx : nd[j]? = some x) (hy : nd[j2]? = some y) :
    W.cell? ⟨p, 0, none⟩ = some (.int .i64 (n : Int)) ∧ W.cell? ⟨p, 1, none⟩ = some (.slice (some ⟨g, 0, none⟩) (2 * n) (2 * n)) ∧
    (W.cell? ⟨g, j * 4, none⟩ = some (.int .i64 (hiW x.s)) ∧ W.cell? ⟨g, j * 4 + 1, none⟩ = some (.int .u64 (loW x.s)) ∧ W.cell? ⟨g, j * 4 + 2, none⟩ = some (.int .i64 x.mn) ∧ W.cell? ⟨g, j * 4 + 3, none⟩ = some (.int .i64 x.mx)) ∧
    W.cell? ⟨g, j2 * 4, none⟩ = some (.int .i64 (hiW y.s)) ∧ W.cell? ⟨g, j2 * 4 + 1, none⟩ = some (.int .u64 (loW y.s)) ∧ W.cell? ⟨g, j2 * 4 + 2, none⟩ = some (.int .i64 y.mn) ∧ W.cell? ⟨g, j2 * 4 + 3, none⟩ = some (.int .i64 y.mx) := by
  obtain ⟨z, hz⟩ := h.tree
  obtain ⟨e1, e2⟩ := hj.out
  exact ⟨hz.c0, hz.c1, hz.node (by rw [List.getElem?_set_ne (by omega)]; exact hx), hz.node (by rw [List.getElem?_set_ne (by omega)]; exact hy)⟩
theorem RegS.done (h : RegS w B p g n i nd W) (hi : i < 2 * n) (y : Nd) :
    TreeAt ((((W.setCell ⟨g, i * 4, none⟩ (.int .i64 (hiW y.s))).setCell ⟨g, i * 4 + 1, none⟩ (.int .u64 (loW y.s))).setCell ⟨g, i * 4 + 2, none⟩ (.int .i64 y.mn)).setCell ⟨g, i * 4 + 3, none⟩ (.int .i64 y.mx)) B p g (nd.set i y) n ∧
    w.grownBy ((((W.setCell ⟨g, i * 4, none⟩ (.int .i64 (hiW y.s))).setCell ⟨g, i * 4 + 1, none⟩ (.int .u64 (loW y.s))).setCell ⟨g, i * 4 + 2, none⟩ (.int .i64 y.mn)).setCell ⟨g, i * 4 + 3, none⟩ (.int .i64 y.mx)) (some g) := by
  obtain ⟨z, hz⟩ := h.tree
  have := hz.set hi y
  rw [List.set_set] at this
  exact ⟨this, grown_set (grown_set (grown_set (grown_set h.grown)))⟩
theorem RegS.facts0 (h : RegS w B p g n i nd W) : W.cell? ⟨p, 0, none⟩ = some (.int .i64 (n : Int)) ∧ W.cell? ⟨p, 1, none⟩ = some (.slice (some ⟨g, 0, none⟩) (2 * n) (2 * n)) := by
  obtain ⟨z, hz⟩ := h.tree
  exact ⟨hz.c0, hz.c1⟩
theorem RegS.at (h : RegS w B p g n i nd W) (hi : i < 2 * n) : (∃ v0 v1 v2 v3, W.cell? ⟨g, i * 4, none⟩ = some v0 ∧ W.cell? ⟨g, i * 4 + 1, none⟩ = some v1 ∧ W.cell? ⟨g, i * 4 + 2, none⟩ = some v2 ∧ W.cell? ⟨g, i * 4 + 3, none⟩ = some v3) ∧
    W.frozen? ⟨g, i * 4, none⟩ = false ∧ W.frozen? ⟨g, i * 4 + 1, none⟩ = false ∧ W.frozen? ⟨g, i * 4 + 2, none⟩ = false ∧ W.frozen? ⟨g, i * 4 + 3, none⟩ = false := by
  obtain ⟨z, hz⟩ := h.tree
  obtain ⟨a0, a1, a2, a3⟩ := hz.node (k := i) (List.getElem?_eq_getElem (by rw [hz.len]; exact hi))
  exact ⟨⟨_, _, _, _, a0, a1, a2, a3⟩, hz.frozen _, hz.frozen _, hz.frozen _, hz.frozen _⟩
end
/-- The numbers of a tree. -/
def Num64 (a : List Int) : Prop := ∀ x ∈ a, -9223372036854775808 ≤ x ∧ x ≤ 9223372036854775807
theorem NdOk.wok {a : List Int} {nd : List Nd} {i : Nat} {d : Nd} (h : NdOk a nd i) (hd : nd[i]? = some d) (hq : Num64 a) (hl : a.length ≤ 200) (h1 : 1 ≤ i) (h2 : i < 2 * a.length) : Wok d.s := by
  have := h.sum hd (q := 9223372036854775808) (by omega) (fun x hx => by have := hq x hx; omega) h1 h2
  unfold Wok
  have hl' : ((2 * a.length : Nat) : Int) ≤ 400 := by omega
  have hb : 9223372036854775808 * ((2 * a.length : Nat) : Int) ≤ 9223372036854775808 * 400 := Int.mul_le_mul_of_nonneg_left hl' (by omega)
  omega
theorem set_getElem_self' {l : List Nd} {i : Nat} {z : Nd} (h : l[i]? = some z) : l.set i z = l := by
  obtain ⟨h1, rfl⟩ := List.getElem?_eq_some_iff.1 h
  exact List.set_getElem_self h1
set_option maxHeartbeats 8000000 in
set_option maxRecDepth 100000 in
theorem set_yes {B p g n : Nat} (a : List Int) (nd : List Nd) (k : Nat) (x : Int) (w : World) (hT : TreeAt w B p g nd n) (hN : TreeN a nd) (hn : a.length = n) (hq : Num64 a) (hl : n ≤ 200) (hk : k < n) (hx : -9223372036854775808 ≤ x ∧ x ≤ 9223372036854775807) :
    Calls Try.prog 24 #[.pointer (some ⟨p, 0, none⟩), .int .i64 (k : Int), .int .i64 x] w fun e w' => ∃ nd', e = .returned (.bool true) ∧ TreeAt w' B p g nd' n ∧ TreeN (a.set k x) nd' ∧ w.grownBy w' (some g) := by
  have hq' : Num64 (a.set k x) := fun z hz => by
    rcases List.mem_or_eq_of_mem_set hz with h | h
    · exact hq z h
    · rw [h]; exact hx
  have HS0 := Lib.hid (SetI.start (x := x) hN (by rw [hn]; exact hk))
  have HL := Lib.hid (len_tree w hT)
  have HLF := fun W => Lib.hid (leaf_any x hx W)
  have hlen' : (a.set k x).length = n := by rw [List.length_set]; exact hn
  rw [hn] at HS0
  obtain ⟨a', ha'⟩ : ∃ a', a' = a.set k x := ⟨_, rfl⟩
  rw [← ha'] at HS0 hq' hlen' ⊢
  have HQ := Lib.hid hq'
  have HLE := Lib.hid hlen'
  have c0 := hT.c0
  have c1 := hT.c1
  obtain ⟨z, hz⟩ := lget_some nd (n + k) (by rw [hT.len]; omega)
  have HT := Lib.hid hT
  have HZ := Lib.hid hz
  clear hN hq hx ha' hq' hlen' hT hz hn
  go_enter Try.func24, Try.ntmps24
  go_upto_region 4 with (refine HL.out.mono ?_; rintro _ _ ⟨rfl, rfl⟩)
  obtain ⟨m, hm⟩ : ∃ m : Nat, m = n + k := ⟨_, rfl⟩
  rw [show (k : Int) + (n : Int) = (m : Int) by omega]
  have hm2 : m < 2 * n := by omega
  have hm3 : (m : Int) < 2 * (n : Int) := by omega
  have HR0 : Hid (RegS w B p g n m nd w) := Lib.hid ⟨⟨z, by rw [hm]; have h := HT.out; have e := set_getElem_self' HZ.out; rw [e]; exact h⟩, World.grownBy.refl _ _⟩
  rw [← hm] at HS0
  have HM := Lib.hid hm
  clear HL hm c0 c1 HT HZ
  refine wp_region_held_drew (S := RegS w B p g n m nd) (by kernel_rfl) HR0.out.drew (fun hHeld => ?_)
  refine take_y (i := 0) (d := some 21) (v := ?_) rfl rfl (by kernel_rfl) (by kernel_rfl) (by kernel_rfl) (fun _ _ _ h => h) (by assumption) ?_ ?_
  rotate_left
  · intro oi ho
    simp only [List.getElem?_toArray, List.getElem?_cons_zero, Option.some.injEq] at ho
    subst ho
    intro w hSw
    obtain ⟨e0, e1⟩ := hSw.facts0
    go_simp
    (try with_reducible rfl)
  (try simp only [Act.put, List.setIfInBounds_toArray, List.set_cons_zero, List.set_cons_succ])
  refine take_y (i := 1) (d := some 22) (v := ?_) rfl rfl (by kernel_rfl) (by kernel_rfl) (by kernel_rfl) (fun _ _ _ h => h) (by assumption) ?_ ?_
  rotate_left
  · intro oi ho
    simp only [List.getElem?_toArray, List.getElem?_cons_succ, List.getElem?_cons_zero, Option.some.injEq] at ho
    subst ho
    intro w hSw
    obtain ⟨e0, e1⟩ := hSw.facts0
    go_simp
    (try with_reducible rfl)
  (try simp only [Act.put, List.setIfInBounds_toArray, List.set_cons_zero, List.set_cons_succ])
  refine take_y (i := 2) (d := some 23) (v := ?_) rfl rfl (by kernel_rfl) (by kernel_rfl) (by kernel_rfl) (fun _ _ _ h => h) (by assumption) ?_ ?_
  rotate_left
  · intro oi ho
    simp only [List.getElem?_toArray, List.getElem?_cons_succ, List.getElem?_cons_zero, Option.some.injEq] at ho
    subst ho
    intro w hSw
    obtain ⟨e0, e1⟩ := hSw.facts0
    go_simp
    (try with_reducible rfl)
  (try simp only [Act.put, List.setIfInBounds_toArray, List.set_cons_zero, List.set_cons_succ])
  refine take_y (i := 3) (d := some 24) (v := ?_) rfl rfl (by kernel_rfl) (by kernel_rfl) (by kernel_rfl) (fun _ _ _ h => h) (by assumption) ?_ ?_
  rotate_left
  · intro oi ho
    simp only [List.getElem?_toArray, List.getElem?_cons_succ, List.getElem?_cons_zero, Option.some.injEq] at ho
    subst ho
    intro w hSw
    obtain ⟨e0, e1⟩ := hSw.facts0
    go_simp
    (try with_reducible rfl)
  (try simp only [Act.put, List.setIfInBounds_toArray, List.set_cons_zero, List.set_cons_succ])
  refine take_y (i := 4) (d := some 25) (v := ?_) rfl rfl (by kernel_rfl) (by kernel_rfl) (by kernel_rfl) (fun _ _ _ h => h) (by assumption) ?_ ?_
  rotate_left
  · intro oi ho
    simp only [List.getElem?_toArray, List.getElem?_cons_succ, List.getElem?_cons_zero, Option.some.injEq] at ho
    subst ho
    intro w hSw
    obtain ⟨e0, e1⟩ := hSw.facts0
    go_simp
    (try with_reducible rfl)
  (try simp only [Act.put, List.setIfInBounds_toArray, List.set_cons_zero, List.set_cons_succ])
  refine take_y (i := 5) (d := some 26) (v := ?_) rfl rfl (by kernel_rfl) (by kernel_rfl) (by kernel_rfl) (fun _ _ _ h => h) (by assumption) ?_ ?_
  rotate_left
  · intro oi ho
    simp only [List.getElem?_toArray, List.getElem?_cons_succ, List.getElem?_cons_zero, Option.some.injEq] at ho
    subst ho
    intro w hSw
    obtain ⟨e0, e1⟩ := hSw.facts0
    go_simp
    (try with_reducible rfl)
  (try simp only [Act.put, List.setIfInBounds_toArray, List.set_cons_zero, List.set_cons_succ])
  refine wpAnyH_ready (rs := [6]) (by kernel_rfl) (by simp) ?_
  refine AllReadyH.cons rfl (fun K hK => ?_) AllReadyH.nil
  go_simp
  refine (HLF _).out.mono ?_
  rintro _ wm ⟨rfl, hbm⟩
  refine hK.out _ _ ?_ (fun hHeld => ?_)
  · exact hHeld.below hbm
  clear hK K
  (try simp only [Act.put, List.setIfInBounds_toArray, List.set_cons_zero, List.set_cons_succ])
  refine take_y (i := 7) (d := some 28) (v := ?_) rfl rfl (by kernel_rfl) (by kernel_rfl) (by kernel_rfl) (fun _ _ _ h => h) (by assumption) ?_ ?_
  rotate_left
  · intro oi ho
    simp only [List.getElem?_toArray, List.getElem?_cons_succ, List.getElem?_cons_zero, Option.some.injEq] at ho
    subst ho
    intro w hSw
    skip
    go_simp
    (try with_reducible rfl)
  (try simp only [Act.put, List.setIfInBounds_toArray, List.set_cons_zero, List.set_cons_succ])
  unfold nodeV
  refine wpAnyH_ready (rs := [8]) (by kernel_rfl) (by simp) ?_
  refine AllReadyH.cons rfl (fun K hK => ?_) AllReadyH.nil
  obtain ⟨⟨v0, v1, v2, v3, k0, k1, k2, k3⟩, k4, k5, k6, k7⟩ := hHeld.at hm2
  go_simp
  refine hK.out _ _ ?_ (fun hHeld => ?_)
  · exact hHeld.set hm2 (leafN x)
  clear hK K
  (try simp only [Act.put, List.setIfInBounds_toArray, List.set_cons_zero, List.set_cons_succ])
  refine wpAnyH_done (by kernel_rfl) ?_ _
  obtain ⟨hT1, hG1⟩ := (by assumption : RegS w B p g n m nd wm).done hm2 (leafN x)
  obtain ⟨w1, hw1⟩ : ∃ w1, w1 = ((((wm.setCell ⟨g, m * 4, none⟩ (.int .i64 (hiW (leafN x).s))).setCell ⟨g, m * 4 + 1, none⟩ (.int .u64 (loW (leafN x).s))).setCell ⟨g, m * 4 + 2, none⟩ (.int .i64 (leafN x).mn)).setCell ⟨g, m * 4 + 3, none⟩ (.int .i64 (leafN x).mx)) := ⟨_, rfl⟩
  rw [← hw1] at hT1 hG1 ⊢
  clear hw1 hHeld k0 k1 k2 k3 k4 k5 k6 k7 hbm HLF HR0
  have HT1 := Lib.hid hT1
  have HG1 := Lib.hid hG1
  clear hT1 hG1
  have hm0 : 0 ≤ (m : Int) := by omega
  have hm9 : (m : Int) ≤ 400 := by omega
  go_wp2_with fail
  obtain ⟨h2, hh2⟩ : ∃ h2 : Nat, h2 = m / 2 := ⟨_, rfl⟩
  rw [show (m : Int) / 2 = (h2 : Int) by omega]
  have HH2 := Lib.hid hh2
  have hh3 : h2 < n := by omega
  clear hh2
  go_loopw [1] (fun i wr => ∃ (d j : Nat) (nd' : List Nd), i = .int .i64 (j : Int) ∧ j < n ∧ Hid (j = (n + k) / 2 ^ (d + 1)) ∧ Hid (TreeAt wr B p g nd' n) ∧ Hid (SetI a' nd' k (d + 1)) ∧ Hid (w.grownBy wr (some g))) (fun i _ => (intOf i).toNat)
  case atStart => exact ⟨0, h2, _, rfl, hh3, Lib.hid (by rw [HH2.out, HM.out, Nat.pow_one]), HT1, HS0, HG1⟩
  case round =>
    obtain ⟨d, i, nd', rfl, hin, HI, HT, HSI, HG⟩ := hrel
    obtain ⟨wo, rfl⟩ : ∃ wo : World, wo = wr := ⟨_, rfl⟩
    by_cases hi0 : 0 < i
    · have hlen := HT.out.len
      obtain ⟨d1, hd1⟩ := lget_some nd' (2 * i) (by omega)
      obtain ⟨d2, hd2⟩ := lget_some nd' (2 * i + 1) (by omega)
      obtain ⟨hS, _, ok1, ok2⟩ := HSI.out.step (by rw [HLE.out]; exact hk) (by rw [HLE.out]; exact HI.out) hi0 hd1 hd2
      have hW1 := ok1.wok hd1 HQ.out (by rw [HLE.out]; exact hl) (by omega) (by rw [HLE.out]; omega)
      have hW2 := ok2.wok hd2 HQ.out (by rw [HLE.out]; exact hl) (by omega) (by rw [HLE.out]; omega)
      have HMG := fun W => Lib.hid (merge_node d1 d2 hW1 hW2 W)
      obtain ⟨j, hj⟩ : ∃ j, j = 2 * i := ⟨_, rfl⟩
      obtain ⟨j2, hj2⟩ : ∃ j2, j2 = j + 1 := ⟨_, rfl⟩
      rw [← hj] at hd1 hd2
      rw [← hj2] at hd2
      have HJ := Lib.hid (And.intro hj hj2)
      have HX := Lib.hid hd1
      have HY := Lib.hid hd2
      have HS := Lib.hid hS
      have hi2 : i < 2 * n := by omega
      have hiI : 0 < (i : Int) := by omega
      have hin2 : (i : Int) < 200 := by omega
      have hx1 : (j : Int) < 2 * (n : Int) := by omega
      have hx2 : (j2 : Int) < 2 * (n : Int) := by omega
      have hx3 : (i : Int) < 2 * (n : Int) := by omega
      have hw1 : IntKind.i64.wrap (2 * (i : Int)) = (j : Int) := by rw [IntWalk.i64_in _ (by omega)]; omega
      have hw2 : IntKind.i64.wrap ((j : Int) + 1) = (j2 : Int) := by rw [IntWalk.i64_in _ (by omega)]; omega
      have HR0 : Hid (RegS wo B p g n i nd' wo) := Lib.hid ⟨⟨nd'[i]'(by omega), by rw [List.set_getElem_self]; exact HT.out⟩, World.grownBy.refl _ _⟩
      clear hlen hd1 hd2 hS ok1 ok2 hW1 hW2 HT HSI HT1 HG1 HS0 hj hj2
      go_upto_region 8 with fail
      refine wp_region_held_drew (S := RegS wo B p g n i nd') (by kernel_rfl) HR0.out.drew (fun hHeld => ?_)
      refine take_y (i := 0) (d := some 35) (v := ?_) rfl rfl (by kernel_rfl) (by kernel_rfl) (by kernel_rfl) (fun _ _ _ h => h) (by assumption) ?_ ?_
      rotate_left
      · intro oi ho
        simp only [List.getElem?_toArray, List.getElem?_cons_zero, Option.some.injEq] at ho
        subst ho
        intro w hSw
        obtain ⟨e0, e1, ⟨e2, e3, e4, e5⟩, e6, e7, e8, e9⟩ := hSw.facts hi0 HJ HX.out HY.out
        go_simp
        (try with_reducible rfl)
      (try simp only [Act.put, List.setIfInBounds_toArray, List.set_cons_zero, List.set_cons_succ])
      refine take_y (i := 1) (d := some 36) (v := ?_) rfl rfl (by kernel_rfl) (by kernel_rfl) (by kernel_rfl) (fun _ _ _ h => h) (by assumption) ?_ ?_
      rotate_left
      · intro oi ho
        simp only [List.getElem?_toArray, List.getElem?_cons_succ, List.getElem?_cons_zero, Option.some.injEq] at ho
        subst ho
        intro w hSw
        obtain ⟨e0, e1, ⟨e2, e3, e4, e5⟩, e6, e7, e8, e9⟩ := hSw.facts hi0 HJ HX.out HY.out
        go_simp
        (try with_reducible rfl)
      (try simp only [Act.put, List.setIfInBounds_toArray, List.set_cons_zero, List.set_cons_succ])
      refine take_y (i := 2) (d := some 37) (v := ?_) rfl rfl (by kernel_rfl) (by kernel_rfl) (by kernel_rfl) (fun _ _ _ h => h) (by assumption) ?_ ?_
      rotate_left
      · intro oi ho
        simp only [List.getElem?_toArray, List.getElem?_cons_succ, List.getElem?_cons_zero, Option.some.injEq] at ho
        subst ho
        intro w hSw
        obtain ⟨e0, e1, ⟨e2, e3, e4, e5⟩, e6, e7, e8, e9⟩ := hSw.facts hi0 HJ HX.out HY.out
        go_simp
        (try with_reducible rfl)
      (try simp only [Act.put, List.setIfInBounds_toArray, List.set_cons_zero, List.set_cons_succ])
      refine take_y (i := 3) (d := some 38) (v := ?_) rfl rfl (by kernel_rfl) (by kernel_rfl) (by kernel_rfl) (fun _ _ _ h => h) (by assumption) ?_ ?_
      rotate_left
      · intro oi ho
        simp only [List.getElem?_toArray, List.getElem?_cons_succ, List.getElem?_cons_zero, Option.some.injEq] at ho
        subst ho
        intro w hSw
        obtain ⟨e0, e1, ⟨e2, e3, e4, e5⟩, e6, e7, e8, e9⟩ := hSw.facts hi0 HJ HX.out HY.out
        go_simp
        (try with_reducible rfl)
      (try simp only [Act.put, List.setIfInBounds_toArray, List.set_cons_zero, List.set_cons_succ])
      refine take_y (i := 4) (d := some 39) (v := ?_) rfl rfl (by kernel_rfl) (by kernel_rfl) (by kernel_rfl) (fun _ _ _ h => h) (by assumption) ?_ ?_
      rotate_left
      · intro oi ho
        simp only [List.getElem?_toArray, List.getElem?_cons_succ, List.getElem?_cons_zero, Option.some.injEq] at ho
        subst ho
        intro w hSw
        obtain ⟨e0, e1, ⟨e2, e3, e4, e5⟩, e6, e7, e8, e9⟩ := hSw.facts hi0 HJ HX.out HY.out
        go_simp
        (try with_reducible rfl)
      (try simp only [Act.put, List.setIfInBounds_toArray, List.set_cons_zero, List.set_cons_succ])
      refine take_y (i := 5) (d := some 40) (v := ?_) rfl rfl (by kernel_rfl) (by kernel_rfl) (by kernel_rfl) (fun _ _ _ h => h) (by assumption) ?_ ?_
      rotate_left
      · intro oi ho
        simp only [List.getElem?_toArray, List.getElem?_cons_succ, List.getElem?_cons_zero, Option.some.injEq] at ho
        subst ho
        intro w hSw
        obtain ⟨e0, e1, ⟨e2, e3, e4, e5⟩, e6, e7, e8, e9⟩ := hSw.facts hi0 HJ HX.out HY.out
        go_simp
        (try with_reducible rfl)
      (try simp only [Act.put, List.setIfInBounds_toArray, List.set_cons_zero, List.set_cons_succ])
      refine take_y (i := 6) (d := some 41) (v := ?_) rfl rfl (by kernel_rfl) (by kernel_rfl) (by kernel_rfl) (fun _ _ _ h => h) (by assumption) ?_ ?_
      rotate_left
      · intro oi ho
        simp only [List.getElem?_toArray, List.getElem?_cons_succ, List.getElem?_cons_zero, Option.some.injEq] at ho
        subst ho
        intro w hSw
        obtain ⟨e0, e1, ⟨e2, e3, e4, e5⟩, e6, e7, e8, e9⟩ := hSw.facts hi0 HJ HX.out HY.out
        go_simp
        (try with_reducible rfl)
      (try simp only [Act.put, List.setIfInBounds_toArray, List.set_cons_zero, List.set_cons_succ])
      refine take_y (i := 7) (d := some 42) (v := ?_) rfl rfl (by kernel_rfl) (by kernel_rfl) (by kernel_rfl) (fun _ _ _ h => h) (by assumption) ?_ ?_
      rotate_left
      · intro oi ho
        simp only [List.getElem?_toArray, List.getElem?_cons_succ, List.getElem?_cons_zero, Option.some.injEq] at ho
        subst ho
        intro w hSw
        obtain ⟨e0, e1, ⟨e2, e3, e4, e5⟩, e6, e7, e8, e9⟩ := hSw.facts hi0 HJ HX.out HY.out
        go_simp
        (try with_reducible rfl)
      (try simp only [Act.put, List.setIfInBounds_toArray, List.set_cons_zero, List.set_cons_succ])
      refine take_y (i := 8) (d := some 43) (v := ?_) rfl rfl (by kernel_rfl) (by kernel_rfl) (by kernel_rfl) (fun _ _ _ h => h) (by assumption) ?_ ?_
      rotate_left
      · intro oi ho
        simp only [List.getElem?_toArray, List.getElem?_cons_succ, List.getElem?_cons_zero, Option.some.injEq] at ho
        subst ho
        intro w hSw
        obtain ⟨e0, e1, ⟨e2, e3, e4, e5⟩, e6, e7, e8, e9⟩ := hSw.facts hi0 HJ HX.out HY.out
        go_simp
        (try with_reducible rfl)
      (try simp only [Act.put, List.setIfInBounds_toArray, List.set_cons_zero, List.set_cons_succ])
      refine take_y (i := 9) (d := some 44) (v := ?_) rfl rfl (by kernel_rfl) (by kernel_rfl) (by kernel_rfl) (fun _ _ _ h => h) (by assumption) ?_ ?_
      rotate_left
      · intro oi ho
        simp only [List.getElem?_toArray, List.getElem?_cons_succ, List.getElem?_cons_zero, Option.some.injEq] at ho
        subst ho
        intro w hSw
        obtain ⟨e0, e1, ⟨e2, e3, e4, e5⟩, e6, e7, e8, e9⟩ := hSw.facts hi0 HJ HX.out HY.out
        go_simp
        (try with_reducible rfl)
      (try simp only [Act.put, List.setIfInBounds_toArray, List.set_cons_zero, List.set_cons_succ])
      refine take_y (i := 10) (d := some 45) (v := ?_) rfl rfl (by kernel_rfl) (by kernel_rfl) (by kernel_rfl) (fun _ _ _ h => h) (by assumption) ?_ ?_
      rotate_left
      · intro oi ho
        simp only [List.getElem?_toArray, List.getElem?_cons_succ, List.getElem?_cons_zero, Option.some.injEq] at ho
        subst ho
        intro w hSw
        obtain ⟨e0, e1, ⟨e2, e3, e4, e5⟩, e6, e7, e8, e9⟩ := hSw.facts hi0 HJ HX.out HY.out
        go_simp
        (try with_reducible rfl)
      (try simp only [Act.put, List.setIfInBounds_toArray, List.set_cons_zero, List.set_cons_succ])
      refine take_y (i := 11) (d := some 46) (v := ?_) rfl rfl (by kernel_rfl) (by kernel_rfl) (by kernel_rfl) (fun _ _ _ h => h) (by assumption) ?_ ?_
      rotate_left
      · intro oi ho
        simp only [List.getElem?_toArray, List.getElem?_cons_succ, List.getElem?_cons_zero, Option.some.injEq] at ho
        subst ho
        intro w hSw
        obtain ⟨e0, e1, ⟨e2, e3, e4, e5⟩, e6, e7, e8, e9⟩ := hSw.facts hi0 HJ HX.out HY.out
        go_simp
        (try with_reducible rfl)
      (try simp only [Act.put, List.setIfInBounds_toArray, List.set_cons_zero, List.set_cons_succ])
      refine take_y (i := 12) (d := some 47) (v := ?_) rfl rfl (by kernel_rfl) (by kernel_rfl) (by kernel_rfl) (fun _ _ _ h => h) (by assumption) ?_ ?_
      rotate_left
      · intro oi ho
        simp only [List.getElem?_toArray, List.getElem?_cons_succ, List.getElem?_cons_zero, Option.some.injEq] at ho
        subst ho
        intro w hSw
        obtain ⟨e0, e1, ⟨e2, e3, e4, e5⟩, e6, e7, e8, e9⟩ := hSw.facts hi0 HJ HX.out HY.out
        go_simp
        (try with_reducible rfl)
      (try simp only [Act.put, List.setIfInBounds_toArray, List.set_cons_zero, List.set_cons_succ])
      refine take_y (i := 13) (d := some 48) (v := ?_) rfl rfl (by kernel_rfl) (by kernel_rfl) (by kernel_rfl) (fun _ _ _ h => h) (by assumption) ?_ ?_
      rotate_left
      · intro oi ho
        simp only [List.getElem?_toArray, List.getElem?_cons_succ, List.getElem?_cons_zero, Option.some.injEq] at ho
        subst ho
        intro w hSw
        obtain ⟨e0, e1, ⟨e2, e3, e4, e5⟩, e6, e7, e8, e9⟩ := hSw.facts hi0 HJ HX.out HY.out
        go_simp
        (try with_reducible rfl)
      (try simp only [Act.put, List.setIfInBounds_toArray, List.set_cons_zero, List.set_cons_succ])
      refine take_y (i := 14) (d := some 49) (v := ?_) rfl rfl (by kernel_rfl) (by kernel_rfl) (by kernel_rfl) (fun _ _ _ h => h) (by assumption) ?_ ?_
      rotate_left
      · intro oi ho
        simp only [List.getElem?_toArray, List.getElem?_cons_succ, List.getElem?_cons_zero, Option.some.injEq] at ho
        subst ho
        intro w hSw
        obtain ⟨e0, e1, ⟨e2, e3, e4, e5⟩, e6, e7, e8, e9⟩ := hSw.facts hi0 HJ HX.out HY.out
        go_simp
        (try with_reducible rfl)
      (try simp only [Act.put, List.setIfInBounds_toArray, List.set_cons_zero, List.set_cons_succ])
      refine take_y (i := 15) (d := some 50) (v := ?_) rfl rfl (by kernel_rfl) (by kernel_rfl) (by kernel_rfl) (fun _ _ _ h => h) (by assumption) ?_ ?_
      rotate_left
      · intro oi ho
        simp only [List.getElem?_toArray, List.getElem?_cons_succ, List.getElem?_cons_zero, Option.some.injEq] at ho
        subst ho
        intro w hSw
        obtain ⟨e0, e1, ⟨e2, e3, e4, e5⟩, e6, e7, e8, e9⟩ := hSw.facts hi0 HJ HX.out HY.out
        go_simp
        (try with_reducible rfl)
      (try simp only [Act.put, List.setIfInBounds_toArray, List.set_cons_zero, List.set_cons_succ])
      refine take_y (i := 16) (d := some 51) (v := ?_) rfl rfl (by kernel_rfl) (by kernel_rfl) (by kernel_rfl) (fun _ _ _ h => h) (by assumption) ?_ ?_
      rotate_left
      · intro oi ho
        simp only [List.getElem?_toArray, List.getElem?_cons_succ, List.getElem?_cons_zero, Option.some.injEq] at ho
        subst ho
        intro w hSw
        obtain ⟨e0, e1, ⟨e2, e3, e4, e5⟩, e6, e7, e8, e9⟩ := hSw.facts hi0 HJ HX.out HY.out
        go_simp
        (try with_reducible rfl)
      (try simp only [Act.put, List.setIfInBounds_toArray, List.set_cons_zero, List.set_cons_succ])
      refine take_y (i := 17) (d := some 52) (v := ?_) rfl rfl (by kernel_rfl) (by kernel_rfl) (by kernel_rfl) (fun _ _ _ h => h) (by assumption) ?_ ?_
      rotate_left
      · intro oi ho
        simp only [List.getElem?_toArray, List.getElem?_cons_succ, List.getElem?_cons_zero, Option.some.injEq] at ho
        subst ho
        intro w hSw
        obtain ⟨e0, e1, ⟨e2, e3, e4, e5⟩, e6, e7, e8, e9⟩ := hSw.facts hi0 HJ HX.out HY.out
        go_simp
        (try with_reducible rfl)
      (try simp only [Act.put, List.setIfInBounds_toArray, List.set_cons_zero, List.set_cons_succ])
      refine take_y (i := 18) (d := some 53) (v := ?_) rfl rfl (by kernel_rfl) (by kernel_rfl) (by kernel_rfl) (fun _ _ _ h => h) (by assumption) ?_ ?_
      rotate_left
      · intro oi ho
        simp only [List.getElem?_toArray, List.getElem?_cons_succ, List.getElem?_cons_zero, Option.some.injEq] at ho
        subst ho
        intro w hSw
        obtain ⟨e0, e1, ⟨e2, e3, e4, e5⟩, e6, e7, e8, e9⟩ := hSw.facts hi0 HJ HX.out HY.out
        go_simp
        (try with_reducible rfl)
      (try simp only [Act.put, List.setIfInBounds_toArray, List.set_cons_zero, List.set_cons_succ])
      refine take_y (i := 19) (d := some 54) (v := ?_) rfl rfl (by kernel_rfl) (by kernel_rfl) (by kernel_rfl) (fun _ _ _ h => h) (by assumption) ?_ ?_
      rotate_left
      · intro oi ho
        simp only [List.getElem?_toArray, List.getElem?_cons_succ, List.getElem?_cons_zero, Option.some.injEq] at ho
        subst ho
        intro w hSw
        obtain ⟨e0, e1, ⟨e2, e3, e4, e5⟩, e6, e7, e8, e9⟩ := hSw.facts hi0 HJ HX.out HY.out
        go_simp
        (try with_reducible rfl)
      (try simp only [Act.put, List.setIfInBounds_toArray, List.set_cons_zero, List.set_cons_succ])
      refine take_y (i := 20) (d := some 55) (v := ?_) rfl rfl (by kernel_rfl) (by kernel_rfl) (by kernel_rfl) (fun _ _ _ h => h) (by assumption) ?_ ?_
      rotate_left
      · intro oi ho
        simp only [List.getElem?_toArray, List.getElem?_cons_succ, List.getElem?_cons_zero, Option.some.injEq] at ho
        subst ho
        intro w hSw
        obtain ⟨e0, e1, ⟨e2, e3, e4, e5⟩, e6, e7, e8, e9⟩ := hSw.facts hi0 HJ HX.out HY.out
        go_simp
        (try with_reducible rfl)
      (try simp only [Act.put, List.setIfInBounds_toArray, List.set_cons_zero, List.set_cons_succ])
      refine take_y (i := 21) (d := some 56) (v := ?_) rfl rfl (by kernel_rfl) (by kernel_rfl) (by kernel_rfl) (fun _ _ _ h => h) (by assumption) ?_ ?_
      rotate_left
      · intro oi ho
        simp only [List.getElem?_toArray, List.getElem?_cons_succ, List.getElem?_cons_zero, Option.some.injEq] at ho
        subst ho
        intro w hSw
        obtain ⟨e0, e1, ⟨e2, e3, e4, e5⟩, e6, e7, e8, e9⟩ := hSw.facts hi0 HJ HX.out HY.out
        go_simp
        (try with_reducible rfl)
      (try simp only [Act.put, List.setIfInBounds_toArray, List.set_cons_zero, List.set_cons_succ])
      refine wpAnyH_ready (rs := [22]) (by kernel_rfl) (by simp) ?_
      refine AllReadyH.cons rfl (fun K hK => ?_) AllReadyH.nil
      go_simp
      refine (HMG _).out.mono ?_
      rintro _ wm ⟨rfl, hbm⟩
      refine hK.out _ _ ?_ (fun hHeld => ?_)
      · exact hHeld.below hbm
      clear hK K
      (try simp only [Act.put, List.setIfInBounds_toArray, List.set_cons_zero, List.set_cons_succ])
      refine take_y (i := 23) (d := some 58) (v := ?_) rfl rfl (by kernel_rfl) (by kernel_rfl) (by kernel_rfl) (fun _ _ _ h => h) (by assumption) ?_ ?_
      rotate_left
      · intro oi ho
        simp only [List.getElem?_toArray, List.getElem?_cons_succ, List.getElem?_cons_zero, Option.some.injEq] at ho
        subst ho
        intro w hSw
        skip
        go_simp
        (try with_reducible rfl)
      (try simp only [Act.put, List.setIfInBounds_toArray, List.set_cons_zero, List.set_cons_succ])
      unfold nodeV
      refine wpAnyH_ready (rs := [24]) (by kernel_rfl) (by simp) ?_
      refine AllReadyH.cons rfl (fun K hK => ?_) AllReadyH.nil
      obtain ⟨⟨v0, v1, v2, v3, k0, k1, k2, k3⟩, k4, k5, k6, k7⟩ := hHeld.at hi2
      go_simp
      refine hK.out _ _ ?_ (fun hHeld => ?_)
      · exact hHeld.set hi2 (mergeN d1 d2)
      clear hK K
      (try simp only [Act.put, List.setIfInBounds_toArray, List.set_cons_zero, List.set_cons_succ])
      refine wpAnyH_done (by kernel_rfl) ?_ _
      obtain ⟨hT2, hG2⟩ := (by assumption : RegS wo B p g n i nd' wm).done hi2 (mergeN d1 d2)
      obtain ⟨w2, hw2'⟩ : ∃ w2, w2 = ((((wm.setCell ⟨g, i * 4, none⟩ (.int .i64 (hiW (mergeN d1 d2).s))).setCell ⟨g, i * 4 + 1, none⟩ (.int .u64 (loW (mergeN d1 d2).s))).setCell ⟨g, i * 4 + 2, none⟩ (.int .i64 (mergeN d1 d2).mn)).setCell ⟨g, i * 4 + 3, none⟩ (.int .i64 (mergeN d1 d2).mx)) := ⟨_, rfl⟩
      rw [← hw2'] at hT2 hG2 ⊢
      have HT2 := Lib.hid hT2
      have HG2 := Lib.hid (grown_trans HG.out hG2)
      have hd2 : (i : Int) / 2 = ((i / 2 : Nat) : Int) := by omega
      have HD2 := Lib.hid hd2
      have hi9 : (i : Int) ≤ 400 := by omega
      clear hw2' hHeld k0 k1 k2 k3 k4 k5 k6 k7 hbm HMG HR0 hT2 hG2 hw1 hw2 hx1 hx2 hx3 hd2 HX HY HJ
      go_wp2_with fail
      go_roundw
      case rel => exact ⟨d + 1, i / 2, _, by rw [HD2.out], by omega, Lib.hid (by rw [HI.out, Nat.pow_succ _ (d + 1), Nat.div_div_eq_div_mul]), HT2, HS, HG2⟩
      case measure => simp [intOf]; omega
    · obtain rfl : i = 0 := by omega
      have HF := Lib.hid (HSI.out.done (by rw [HLE.out]; exact HI.out.symm))
      clear HSI HS0 HT1 HG1
      go_wp2_with fail
      go_ret
      exact ⟨nd', rfl, HT.out, HF.out, HG.out⟩
end Go.Proofs.Ytfmbbfidjcgeiaa

namespace Go.Proofs.Ytfmbbfidjcgeiaa
open Go.RowKit Go.Lib Go.Shelf

theorem node_parts : ∃ i, Try.prog.info? 74 = some i ∧ i.zero = some (.agg #[.int .i64 0, .int .u64 0, .int .i64 0, .int .i64 0]) ∧ i.size = 4 ∧ i.bytes = 32 := info_parts node_info
theorem i64_info : (Try.prog.info? 2).map (fun i => (i.zero, i.size, i.bytes)) = some (some (.int .i64 0), 1, 8) := by kernel_rfl
def i64E : El Try.prog Int := El.flat 2 1 8 (by decide) (info_mk i64_info rfl) (fun x => [.int .i64 x]) (fun _ => rfl) (by intro x u hu; simp at hu; subst hu; rfl)
theorem i64_at {w : World} {G : Nat → Prop} {a : Option Addr} {n c k : Nat} {l : List Int} {x : Int} (h : Sl i64E w G (.slice a n c) l) (hk : l[k]? = some x) : ∃ b o, a = some ⟨b, o, none⟩ ∧ w.cell? ⟨b, o + k, none⟩ = some (.int .i64 x) := by
  obtain ⟨b, o, cs, ha, rfl, hc⟩ := h.at hk
  have := hc 0 _ rfl
  rw [show i64E.size = 1 from rfl, Nat.mul_one, Nat.add_zero] at this
  exact ⟨b, o, ha, this⟩
/-- The leaves of the first k elements are laid. -/
def LeafI (a : List Int) (nd : List Nd) (k : Nat) : Prop := ∀ j x, j < k → a[j]? = some x → nd[a.length + j]? = some (leafN x)
theorem LeafI.step {a : List Int} {nd : List Nd} {k : Nat} {x : Int} (h : LeafI a nd k) (hx : a[k]? = some x) (hl : a.length + k < nd.length) : LeafI a (nd.set (a.length + k) (leafN x)) (k + 1) := fun j y hj hy => by
  by_cases e : j = k
  · subst e
    rw [hx] at hy
    cases hy
    exact List.getElem?_set_self hl
  · rw [List.getElem?_set_ne (by omega)]
    exact h j y (by omega) hy
/-- The nodes above i are told. -/
def BuildI (a : List Int) (nd : List Nd) (i : Nat) : Prop := nd.length = 2 * a.length ∧ ∀ j, 1 ≤ j → i < j → j < 2 * a.length → NdOk a nd j
theorem BuildI.start {a : List Int} {nd : List Nd} (h : LeafI a nd a.length) (hl : nd.length = 2 * a.length) : BuildI a nd (a.length - 1) := ⟨hl, fun j h1 h2 h3 => by
  obtain ⟨x, hx⟩ := lget_some a (j - a.length) (by omega)
  have := NdOk.leaf hx (h (j - a.length) x (by omega) hx)
  rw [show a.length + (j - a.length) = j by omega] at this
  exact this⟩
theorem BuildI.step {a : List Int} {nd : List Nd} {i : Nat} {d e : Nd} (h : BuildI a nd i) (h1 : 1 ≤ i) (h2 : i < a.length) (hd : nd[2 * i]? = some d) (he : nd[2 * i + 1]? = some e) : BuildI a (nd.set i (mergeN d e)) (i - 1) :=
  ⟨by rw [List.length_set]; exact h.1, fun j j1 j2 j3 => by
    by_cases ej : j = i
    · subst ej
      exact NdOk.node h1 h2 hd he (h.2 _ (by omega) (by omega) (by omega)) (h.2 _ (by omega) (by omega) (by omega)) (by rw [h.1]; omega)
    · exact (h.2 j j1 (by omega) j3).set (Ne.symm ej)⟩
theorem BuildI.done {a : List Int} {nd : List Nd} {i : Nat} (h : BuildI a nd i) (hi : i = 0) : TreeN a nd := ⟨h.1, fun j h1 h2 => h.2 j h1 (by omega) h2⟩
theorem own_made_nodes {w : World} {B g n : Nat} (h : w.ownsRow B 74 4 (.slice (some ⟨g, 0, none⟩) n n) n (madeCells #[.int .i64 0, .int .u64 0, .int .i64 0, .int .i64 0] (n * 4)).toList) : Own nodeE w B (.slice (some ⟨g, 0, none⟩) n n) (List.replicate n nd0) := by
  rw [made_nodes] at h
  exact Own.of_flat (by simpa using h)
theorem boxed_tree {w : World} {B p g n : Nat} {nd : List Nd} (h : Own nodeE w B (.slice (some ⟨g, 0, none⟩) (2 * n) (2 * n)) nd) (hl : nd.length = 2 * n) (hp : p = w.heap.size) :
    TreeAt (w.alloc (.cells #[.int .i64 (n : Int), .slice (some ⟨g, 0, none⟩) (2 * n) (2 * n)] 69)) B p g nd n := by
  have hlt : B ≤ g ∧ g < w.heap.size := h.lt g rfl
  exact ⟨h.below (below_alloc _ _), hl, by rw [hp]; exact World.alloc_heap_new _ _, by omega, by omega⟩
set_option maxHeartbeats 8000000 in
set_option maxRecDepth 100000 in
theorem new_tree (v : Value) (a : List Int) (w : World) (hv : Sl i64E w free v a) (hq : Num64 a) (hl : a.length ≤ 200) :
    Calls Try.prog 11 #[v] w fun e w' => ∃ p nd, e = .returned (.pointer (some ⟨p, 0, none⟩)) ∧ TreeAt w' w.heap.size p w.heap.size nd a.length ∧ TreeN a nd ∧ Below w.heap.size w w' := by
  have hv1 := hv
  obtain ⟨_, sa, sc, rfl, hsc, hs⟩ := hv
  obtain ⟨n, hn⟩ : ∃ n, n = a.length := ⟨_, rfl⟩
  have HV := Lib.hid hv1
  have HN := Lib.hid hn
  have HQ := Lib.hid hq
  rw [← hn] at hl hsc HV ⊢
  clear hv1 hn hq hs
  obtain ⟨i0, hi, hj0, hj1, hj2⟩ := node_parts
  go_enter Try.func11, Try.ntmps11
  go_upto_region 2 with (at_make; refine wpList_make_full _ rfl _ _ 67 rfl w.heap.size 74 i0 _ 4 Try.underlying67 hi hj0 hj1 _ _ _ _ (2 * n) rfl rfl (by go_num) (by go_num) (by rw [hj2]; omega) (by unfold maxLen; omega) (by simp) ?_; intro w0 hown0 hg0)
  have hO0 := own_made_nodes hown0
  have hlt : w.heap.size ≤ w.heap.size ∧ w.heap.size < w0.heap.size := hO0.lt w.heap.size rfl
  obtain ⟨p, hp⟩ : ∃ p, p = w0.heap.size := ⟨_, rfl⟩
  have hT1 := boxed_tree hO0 (by simp) hp
  have hB1 : Below w.heap.size w (w0.alloc (.cells #[.int .i64 (n : Int), .slice (some ⟨w.heap.size, 0, none⟩) (2 * n) (2 * n)] 69)) := ((Below.refl _ _).grown hg0 (by simp) (fun k hk => by cases hk)).alloc (by omega) _
  obtain ⟨w1, hw1⟩ : ∃ w1, w1 = w0.alloc (.cells #[.int .i64 (n : Int), .slice (some ⟨w.heap.size, 0, none⟩) (2 * n) (2 * n)] 69) := ⟨_, rfl⟩
  rw [← hw1] at hT1 hB1 ⊢
  rw [← hp]
  have HT1 := Lib.hid hT1
  have HB1 := Lib.hid hB1
  have hz1 := hB1.size
  clear hown0 hg0 hO0 hlt hB1 hT1 hw1 hp
  have HBW := Lib.hid (fun (wr : World) (h : w1.grownBy wr (some w.heap.size)) => HB1.out.grown h hz1 (fun k hk => by cases hk; exact Nat.le_refl _))
  go_wp2_with fail
  go_loopw [17] (fun i wr => ∃ (k : Nat) (nd : List Nd), i = .int .i64 (k : Int) ∧ k ≤ n ∧ Hid (TreeAt wr w.heap.size p w.heap.size nd n) ∧ Hid (LeafI a nd k) ∧ Hid (w1.grownBy wr (some w.heap.size))) (fun i _ => n - (intOf i).toNat)
  case atStart => exact ⟨0, _, rfl, Nat.zero_le _, HT1, Lib.hid (fun j x hj => by omega), Lib.hid (World.grownBy.refl _ _)⟩
  case round =>
    obtain ⟨k, nd, rfl, hkn, HT, HLI, HG⟩ := hrel
    obtain ⟨wo, rfl⟩ : ∃ wo : World, wo = wr := ⟨_, rfl⟩
    by_cases hk : k < n
    · obtain ⟨x, hx⟩ := lget_some a k (by rw [← HN.out]; exact hk)
      obtain ⟨b, o, rfl, cx⟩ := i64_at (HV.out.below (HBW.out _ HG.out)) hx
      have hlen := HT.out.len
      have hx0 := HQ.out x (List.mem_of_getElem? hx)
      have HLF := fun W => Lib.hid (leaf_any x hx0 W)
      obtain ⟨m, hm⟩ : ∃ m, m = n + k := ⟨_, rfl⟩
      have HS : Hid (LeafI a (nd.set m (leafN x)) (k + 1)) := Lib.hid (by
        have h := HLI.out.step hx (by rw [hlen, ← HN.out]; omega)
        rw [← HN.out, ← hm] at h
        exact h)
      have hm2 : m < 2 * n := by omega
      have hm3 : (m : Int) < 2 * (n : Int) := by omega
      have HR0 : Hid (RegS wo w.heap.size p w.heap.size n m nd wo) := Lib.hid ⟨⟨nd[m]'(by omega), by rw [List.set_getElem_self]; exact HT.out⟩, World.grownBy.refl _ _⟩
      have hw1 : IntKind.i64.wrap ((n : Int) + (k : Int)) = (m : Int) := by rw [IntWalk.i64_in _ (by omega)]; omega
      clear hx hlen hx0 hm HT HLI HT1
      go_upto_region 5 with fail
      refine wp_region_held_drew (S := RegS wo w.heap.size p w.heap.size n m nd) (by kernel_rfl) HR0.out.drew (fun hHeld => ?_)
      refine take_y (i := 0) (d := some 22) (v := ?_) rfl rfl (by kernel_rfl) (by kernel_rfl) (by kernel_rfl) (fun _ _ _ h => h) (by assumption) ?_ ?_
      rotate_left
      · intro oi ho
        simp only [List.getElem?_toArray, List.getElem?_cons_zero, Option.some.injEq] at ho
        subst ho
        intro w hSw
        obtain ⟨e0, e1⟩ := hSw.facts0
        go_simp
        (try with_reducible rfl)
      (try simp only [Act.put, List.setIfInBounds_toArray, List.set_cons_zero, List.set_cons_succ])
      refine take_y (i := 1) (d := some 23) (v := ?_) rfl rfl (by kernel_rfl) (by kernel_rfl) (by kernel_rfl) (fun _ _ _ h => h) (by assumption) ?_ ?_
      rotate_left
      · intro oi ho
        simp only [List.getElem?_toArray, List.getElem?_cons_succ, List.getElem?_cons_zero, Option.some.injEq] at ho
        subst ho
        intro w hSw
        obtain ⟨e0, e1⟩ := hSw.facts0
        go_simp
        (try with_reducible rfl)
      (try simp only [Act.put, List.setIfInBounds_toArray, List.set_cons_zero, List.set_cons_succ])
      refine take_y (i := 2) (d := some 24) (v := ?_) rfl rfl (by kernel_rfl) (by kernel_rfl) (by kernel_rfl) (fun _ _ _ h => h) (by assumption) ?_ ?_
      rotate_left
      · intro oi ho
        simp only [List.getElem?_toArray, List.getElem?_cons_succ, List.getElem?_cons_zero, Option.some.injEq] at ho
        subst ho
        intro w hSw
        obtain ⟨e0, e1⟩ := hSw.facts0
        go_simp
        (try with_reducible rfl)
      (try simp only [Act.put, List.setIfInBounds_toArray, List.set_cons_zero, List.set_cons_succ])
      refine take_y (i := 3) (d := some 25) (v := ?_) rfl rfl (by kernel_rfl) (by kernel_rfl) (by kernel_rfl) (fun _ _ _ h => h) (by assumption) ?_ ?_
      rotate_left
      · intro oi ho
        simp only [List.getElem?_toArray, List.getElem?_cons_succ, List.getElem?_cons_zero, Option.some.injEq] at ho
        subst ho
        intro w hSw
        obtain ⟨e0, e1⟩ := hSw.facts0
        go_simp
        (try with_reducible rfl)
      (try simp only [Act.put, List.setIfInBounds_toArray, List.set_cons_zero, List.set_cons_succ])
      refine take_y (i := 4) (d := some 26) (v := ?_) rfl rfl (by kernel_rfl) (by kernel_rfl) (by kernel_rfl) (fun _ _ _ h => h) (by assumption) ?_ ?_
      rotate_left
      · intro oi ho
        simp only [List.getElem?_toArray, List.getElem?_cons_succ, List.getElem?_cons_zero, Option.some.injEq] at ho
        subst ho
        intro w hSw
        obtain ⟨e0, e1⟩ := hSw.facts0
        go_simp
        (try with_reducible rfl)
      (try simp only [Act.put, List.setIfInBounds_toArray, List.set_cons_zero, List.set_cons_succ])
      refine take_y (i := 5) (d := some 27) (v := ?_) rfl rfl (by kernel_rfl) (by kernel_rfl) (by kernel_rfl) (fun _ _ _ h => h) (by assumption) ?_ ?_
      rotate_left
      · intro oi ho
        simp only [List.getElem?_toArray, List.getElem?_cons_succ, List.getElem?_cons_zero, Option.some.injEq] at ho
        subst ho
        intro w hSw
        obtain ⟨e0, e1⟩ := hSw.facts0
        go_simp
        (try with_reducible rfl)
      (try simp only [Act.put, List.setIfInBounds_toArray, List.set_cons_zero, List.set_cons_succ])
      refine take_y (i := 6) (d := some 28) (v := ?_) rfl rfl (by kernel_rfl) (by kernel_rfl) (by kernel_rfl) (fun _ _ _ h => h) (by assumption) ?_ ?_
      rotate_left
      · intro oi ho
        simp only [List.getElem?_toArray, List.getElem?_cons_succ, List.getElem?_cons_zero, Option.some.injEq] at ho
        subst ho
        intro w hSw
        obtain ⟨e0, e1⟩ := hSw.facts0
        go_simp
        (try with_reducible rfl)
      (try simp only [Act.put, List.setIfInBounds_toArray, List.set_cons_zero, List.set_cons_succ])
      refine take_y (i := 7) (d := some 29) (v := ?_) rfl rfl (by kernel_rfl) (by kernel_rfl) (by kernel_rfl) (fun _ _ _ h => h) (by assumption) ?_ ?_
      rotate_left
      · intro oi ho
        simp only [List.getElem?_toArray, List.getElem?_cons_succ, List.getElem?_cons_zero, Option.some.injEq] at ho
        subst ho
        intro w hSw
        obtain ⟨e0, e1⟩ := hSw.facts0
        go_simp
        (try with_reducible rfl)
      (try simp only [Act.put, List.setIfInBounds_toArray, List.set_cons_zero, List.set_cons_succ])
      refine take_y (i := 8) (d := some 30) (v := ?_) rfl rfl (by kernel_rfl) (by kernel_rfl) (by kernel_rfl) (fun _ _ _ h => h) (by assumption) ?_ ?_
      rotate_left
      · intro oi ho
        simp only [List.getElem?_toArray, List.getElem?_cons_succ, List.getElem?_cons_zero, Option.some.injEq] at ho
        subst ho
        intro w hSw
        obtain ⟨e0, e1⟩ := hSw.facts0
        go_simp
        (try with_reducible rfl)
      (try simp only [Act.put, List.setIfInBounds_toArray, List.set_cons_zero, List.set_cons_succ])
      refine take_y (i := 9) (d := some 31) (v := ?_) rfl rfl (by kernel_rfl) (by kernel_rfl) (by kernel_rfl) (fun _ _ _ h => h) (by assumption) ?_ ?_
      rotate_left
      · intro oi ho
        simp only [List.getElem?_toArray, List.getElem?_cons_succ, List.getElem?_cons_zero, Option.some.injEq] at ho
        subst ho
        intro w hSw
        obtain ⟨e0, e1⟩ := hSw.facts0
        go_simp
        (try with_reducible rfl)
      (try simp only [Act.put, List.setIfInBounds_toArray, List.set_cons_zero, List.set_cons_succ])
      refine take_y (i := 10) (d := some 32) (v := ?_) rfl rfl (by kernel_rfl) (by kernel_rfl) (by kernel_rfl) (fun _ _ _ h => h) (by assumption) ?_ ?_
      rotate_left
      · intro oi ho
        simp only [List.getElem?_toArray, List.getElem?_cons_succ, List.getElem?_cons_zero, Option.some.injEq] at ho
        subst ho
        intro w hSw
        obtain ⟨e0, e1⟩ := hSw.facts0
        go_simp
        (try with_reducible rfl)
      (try simp only [Act.put, List.setIfInBounds_toArray, List.set_cons_zero, List.set_cons_succ])
      refine wpAnyH_ready (rs := [11]) (by kernel_rfl) (by simp) ?_
      refine AllReadyH.cons rfl (fun K hK => ?_) AllReadyH.nil
      go_simp
      refine (HLF _).out.mono ?_
      rintro _ wm ⟨rfl, hbm⟩
      refine hK.out _ _ ?_ (fun hHeld => ?_)
      · exact hHeld.below hbm
      clear hK K
      (try simp only [Act.put, List.setIfInBounds_toArray, List.set_cons_zero, List.set_cons_succ])
      refine take_y (i := 12) (d := some 34) (v := ?_) rfl rfl (by kernel_rfl) (by kernel_rfl) (by kernel_rfl) (fun _ _ _ h => h) (by assumption) ?_ ?_
      rotate_left
      · intro oi ho
        simp only [List.getElem?_toArray, List.getElem?_cons_succ, List.getElem?_cons_zero, Option.some.injEq] at ho
        subst ho
        intro w hSw
        skip
        go_simp
        (try with_reducible rfl)
      (try simp only [Act.put, List.setIfInBounds_toArray, List.set_cons_zero, List.set_cons_succ])
      unfold nodeV
      refine wpAnyH_ready (rs := [13]) (by kernel_rfl) (by simp) ?_
      refine AllReadyH.cons rfl (fun K hK => ?_) AllReadyH.nil
      obtain ⟨⟨v0, v1, v2, v3, k0, k1, k2, k3⟩, k4, k5, k6, k7⟩ := hHeld.at hm2
      go_simp
      refine hK.out _ _ ?_ (fun hHeld => ?_)
      · exact hHeld.set hm2 (leafN x)
      clear hK K
      (try simp only [Act.put, List.setIfInBounds_toArray, List.set_cons_zero, List.set_cons_succ])
      refine wpAnyH_done (by kernel_rfl) ?_ _
      obtain ⟨hT2, hG2⟩ := (by assumption : RegS wo w.heap.size p w.heap.size n m nd wm).done hm2 (leafN x)
      obtain ⟨w2, hw2'⟩ : ∃ w2, w2 = ((((wm.setCell ⟨w.heap.size, m * 4, none⟩ (.int .i64 (hiW (leafN x).s))).setCell ⟨w.heap.size, m * 4 + 1, none⟩ (.int .u64 (loW (leafN x).s))).setCell ⟨w.heap.size, m * 4 + 2, none⟩ (.int .i64 (leafN x).mn)).setCell ⟨w.heap.size, m * 4 + 3, none⟩ (.int .i64 (leafN x).mx)) := ⟨_, rfl⟩
      rw [← hw2'] at hT2 hG2 ⊢
      have HT2 := Lib.hid hT2
      have HG2 := Lib.hid (grown_trans HG.out hG2)
      clear hw2' hHeld k0 k1 k2 k3 k4 k5 k6 k7 hbm HLF HR0 hT2 hG2 hw1 hm2 hm3 cx
      go_wp2_with fail
      go_roundw
      case rel => exact ⟨k + 1, _, by go_num, by omega, HT2, HS, HG2⟩
      case measure => simp [intOf]; omega
    · obtain rfl : k = n := by omega
      have c0 := HT.out.c0
      have HBI : Hid (BuildI a nd ((k : Int) - 1).toNat) := Lib.hid (by
        have h := BuildI.start (by rw [← HN.out]; exact HLI.out) (by rw [HT.out.len, HN.out])
        rw [← HN.out] at h
        rw [show ((k : Int) - 1).toNat = k - 1 by omega]
        exact h)
      clear HLI HT1
      go_wp2_with fail
      go_loopw [6] (fun i wr => ∃ (ii : Int) (nd : List Nd), i = .int .i64 ii ∧ -1 ≤ ii ∧ ii < k ∧ Hid (TreeAt wr w.heap.size p w.heap.size nd k) ∧ Hid (BuildI a nd ii.toNat) ∧ Hid (w1.grownBy wr (some w.heap.size))) (fun i _ => (intOf i).toNat)
      case atStart => exact ⟨_, nd, rfl, by omega, by omega, HT, HBI, HG⟩
      case round =>
        obtain ⟨ii, nd', rfl, hi1, hi2', HT, HBI, HG⟩ := hrel
        clear c0
        obtain ⟨wo, rfl⟩ : ∃ wo : World, wo = wr := ⟨_, rfl⟩
        by_cases hii : 0 < ii
        · obtain ⟨i, rfl⟩ : ∃ i : Nat, ii = (i : Int) := ⟨ii.toNat, by omega⟩
          have hi0 : 0 < i := by omega
          have hin : i < k := by omega
          have hlen := HT.out.len
          have hB := HBI.out
          rw [Int.toNat_natCast] at hB
          obtain ⟨d1, hd1⟩ := lget_some nd' (2 * i) (by omega)
          obtain ⟨d2, hd2⟩ := lget_some nd' (2 * i + 1) (by omega)
          have hS := hB.step hi0 (by rw [← HN.out]; exact hin) hd1 hd2
          have hW1 := (hB.2 (2 * i) (by omega) (by omega) (by rw [← HN.out]; omega)).wok hd1 HQ.out (by rw [← HN.out]; exact hl) (by omega) (by rw [← HN.out]; omega)
          have hW2 := (hB.2 (2 * i + 1) (by omega) (by omega) (by rw [← HN.out]; omega)).wok hd2 HQ.out (by rw [← HN.out]; exact hl) (by omega) (by rw [← HN.out]; omega)
          have HMG := fun W => Lib.hid (merge_node d1 d2 hW1 hW2 W)
          obtain ⟨j, hj⟩ : ∃ j, j = 2 * i := ⟨_, rfl⟩
          obtain ⟨j2, hj2⟩ : ∃ j2, j2 = j + 1 := ⟨_, rfl⟩
          rw [← hj] at hd1 hd2
          rw [← hj2] at hd2
          have HJ := Lib.hid (And.intro hj hj2)
          have HX := Lib.hid hd1
          have HY := Lib.hid hd2
          have HS := Lib.hid hS
          have hi2 : i < 2 * k := by omega
          have hin2 : (i : Int) < 200 := by omega
          have hx1 : (j : Int) < 2 * (k : Int) := by omega
          have hx2 : (j2 : Int) < 2 * (k : Int) := by omega
          have hx3 : (i : Int) < 2 * (k : Int) := by omega
          have hw1 : IntKind.i64.wrap (2 * (i : Int)) = (j : Int) := by rw [IntWalk.i64_in _ (by omega)]; omega
          have hw2 : IntKind.i64.wrap ((j : Int) + 1) = (j2 : Int) := by rw [IntWalk.i64_in _ (by omega)]; omega
          have HR0 : Hid (RegS wo w.heap.size p w.heap.size k i nd' wo) := Lib.hid ⟨⟨nd'[i]'(by omega), by rw [List.set_getElem_self]; exact HT.out⟩, World.grownBy.refl _ _⟩
          clear hlen hd1 hd2 hS hB hW1 hW2 HT HBI hj hj2
          go_upto_region 10 with fail
          refine wp_region_held_drew (S := RegS wo w.heap.size p w.heap.size k i nd') (by kernel_rfl) HR0.out.drew (fun hHeld => ?_)
          refine take_y (i := 0) (d := some 45) (v := ?_) rfl rfl (by kernel_rfl) (by kernel_rfl) (by kernel_rfl) (fun _ _ _ h => h) (by assumption) ?_ ?_
          rotate_left
          · intro oi ho
            simp only [List.getElem?_toArray, List.getElem?_cons_zero, Option.some.injEq] at ho
            subst ho
            intro w hSw
            obtain ⟨e0, e1, ⟨e2, e3, e4, e5⟩, e6, e7, e8, e9⟩ := hSw.facts hi0 HJ HX.out HY.out
            go_simp
            (try with_reducible rfl)
          (try simp only [Act.put, List.setIfInBounds_toArray, List.set_cons_zero, List.set_cons_succ])
          refine take_y (i := 1) (d := some 46) (v := ?_) rfl rfl (by kernel_rfl) (by kernel_rfl) (by kernel_rfl) (fun _ _ _ h => h) (by assumption) ?_ ?_
          rotate_left
          · intro oi ho
            simp only [List.getElem?_toArray, List.getElem?_cons_succ, List.getElem?_cons_zero, Option.some.injEq] at ho
            subst ho
            intro w hSw
            obtain ⟨e0, e1, ⟨e2, e3, e4, e5⟩, e6, e7, e8, e9⟩ := hSw.facts hi0 HJ HX.out HY.out
            go_simp
            (try with_reducible rfl)
          (try simp only [Act.put, List.setIfInBounds_toArray, List.set_cons_zero, List.set_cons_succ])
          refine take_y (i := 2) (d := some 47) (v := ?_) rfl rfl (by kernel_rfl) (by kernel_rfl) (by kernel_rfl) (fun _ _ _ h => h) (by assumption) ?_ ?_
          rotate_left
          · intro oi ho
            simp only [List.getElem?_toArray, List.getElem?_cons_succ, List.getElem?_cons_zero, Option.some.injEq] at ho
            subst ho
            intro w hSw
            obtain ⟨e0, e1, ⟨e2, e3, e4, e5⟩, e6, e7, e8, e9⟩ := hSw.facts hi0 HJ HX.out HY.out
            go_simp
            (try with_reducible rfl)
          (try simp only [Act.put, List.setIfInBounds_toArray, List.set_cons_zero, List.set_cons_succ])
          refine take_y (i := 3) (d := some 48) (v := ?_) rfl rfl (by kernel_rfl) (by kernel_rfl) (by kernel_rfl) (fun _ _ _ h => h) (by assumption) ?_ ?_
          rotate_left
          · intro oi ho
            simp only [List.getElem?_toArray, List.getElem?_cons_succ, List.getElem?_cons_zero, Option.some.injEq] at ho
            subst ho
            intro w hSw
            obtain ⟨e0, e1, ⟨e2, e3, e4, e5⟩, e6, e7, e8, e9⟩ := hSw.facts hi0 HJ HX.out HY.out
            go_simp
            (try with_reducible rfl)
          (try simp only [Act.put, List.setIfInBounds_toArray, List.set_cons_zero, List.set_cons_succ])
          refine take_y (i := 4) (d := some 49) (v := ?_) rfl rfl (by kernel_rfl) (by kernel_rfl) (by kernel_rfl) (fun _ _ _ h => h) (by assumption) ?_ ?_
          rotate_left
          · intro oi ho
            simp only [List.getElem?_toArray, List.getElem?_cons_succ, List.getElem?_cons_zero, Option.some.injEq] at ho
            subst ho
            intro w hSw
            obtain ⟨e0, e1, ⟨e2, e3, e4, e5⟩, e6, e7, e8, e9⟩ := hSw.facts hi0 HJ HX.out HY.out
            go_simp
            (try with_reducible rfl)
          (try simp only [Act.put, List.setIfInBounds_toArray, List.set_cons_zero, List.set_cons_succ])
          refine take_y (i := 5) (d := some 50) (v := ?_) rfl rfl (by kernel_rfl) (by kernel_rfl) (by kernel_rfl) (fun _ _ _ h => h) (by assumption) ?_ ?_
          rotate_left
          · intro oi ho
            simp only [List.getElem?_toArray, List.getElem?_cons_succ, List.getElem?_cons_zero, Option.some.injEq] at ho
            subst ho
            intro w hSw
            obtain ⟨e0, e1, ⟨e2, e3, e4, e5⟩, e6, e7, e8, e9⟩ := hSw.facts hi0 HJ HX.out HY.out
            go_simp
            (try with_reducible rfl)
          (try simp only [Act.put, List.setIfInBounds_toArray, List.set_cons_zero, List.set_cons_succ])
          refine take_y (i := 6) (d := some 51) (v := ?_) rfl rfl (by kernel_rfl) (by kernel_rfl) (by kernel_rfl) (fun _ _ _ h => h) (by assumption) ?_ ?_
          rotate_left
          · intro oi ho
            simp only [List.getElem?_toArray, List.getElem?_cons_succ, List.getElem?_cons_zero, Option.some.injEq] at ho
            subst ho
            intro w hSw
            obtain ⟨e0, e1, ⟨e2, e3, e4, e5⟩, e6, e7, e8, e9⟩ := hSw.facts hi0 HJ HX.out HY.out
            go_simp
            (try with_reducible rfl)
          (try simp only [Act.put, List.setIfInBounds_toArray, List.set_cons_zero, List.set_cons_succ])
          refine take_y (i := 7) (d := some 52) (v := ?_) rfl rfl (by kernel_rfl) (by kernel_rfl) (by kernel_rfl) (fun _ _ _ h => h) (by assumption) ?_ ?_
          rotate_left
          · intro oi ho
            simp only [List.getElem?_toArray, List.getElem?_cons_succ, List.getElem?_cons_zero, Option.some.injEq] at ho
            subst ho
            intro w hSw
            obtain ⟨e0, e1, ⟨e2, e3, e4, e5⟩, e6, e7, e8, e9⟩ := hSw.facts hi0 HJ HX.out HY.out
            go_simp
            (try with_reducible rfl)
          (try simp only [Act.put, List.setIfInBounds_toArray, List.set_cons_zero, List.set_cons_succ])
          refine take_y (i := 8) (d := some 53) (v := ?_) rfl rfl (by kernel_rfl) (by kernel_rfl) (by kernel_rfl) (fun _ _ _ h => h) (by assumption) ?_ ?_
          rotate_left
          · intro oi ho
            simp only [List.getElem?_toArray, List.getElem?_cons_succ, List.getElem?_cons_zero, Option.some.injEq] at ho
            subst ho
            intro w hSw
            obtain ⟨e0, e1, ⟨e2, e3, e4, e5⟩, e6, e7, e8, e9⟩ := hSw.facts hi0 HJ HX.out HY.out
            go_simp
            (try with_reducible rfl)
          (try simp only [Act.put, List.setIfInBounds_toArray, List.set_cons_zero, List.set_cons_succ])
          refine take_y (i := 9) (d := some 54) (v := ?_) rfl rfl (by kernel_rfl) (by kernel_rfl) (by kernel_rfl) (fun _ _ _ h => h) (by assumption) ?_ ?_
          rotate_left
          · intro oi ho
            simp only [List.getElem?_toArray, List.getElem?_cons_succ, List.getElem?_cons_zero, Option.some.injEq] at ho
            subst ho
            intro w hSw
            obtain ⟨e0, e1, ⟨e2, e3, e4, e5⟩, e6, e7, e8, e9⟩ := hSw.facts hi0 HJ HX.out HY.out
            go_simp
            (try with_reducible rfl)
          (try simp only [Act.put, List.setIfInBounds_toArray, List.set_cons_zero, List.set_cons_succ])
          refine take_y (i := 10) (d := some 55) (v := ?_) rfl rfl (by kernel_rfl) (by kernel_rfl) (by kernel_rfl) (fun _ _ _ h => h) (by assumption) ?_ ?_
          rotate_left
          · intro oi ho
            simp only [List.getElem?_toArray, List.getElem?_cons_succ, List.getElem?_cons_zero, Option.some.injEq] at ho
            subst ho
            intro w hSw
            obtain ⟨e0, e1, ⟨e2, e3, e4, e5⟩, e6, e7, e8, e9⟩ := hSw.facts hi0 HJ HX.out HY.out
            go_simp
            (try with_reducible rfl)
          (try simp only [Act.put, List.setIfInBounds_toArray, List.set_cons_zero, List.set_cons_succ])
          refine take_y (i := 11) (d := some 56) (v := ?_) rfl rfl (by kernel_rfl) (by kernel_rfl) (by kernel_rfl) (fun _ _ _ h => h) (by assumption) ?_ ?_
          rotate_left
          · intro oi ho
            simp only [List.getElem?_toArray, List.getElem?_cons_succ, List.getElem?_cons_zero, Option.some.injEq] at ho
            subst ho
            intro w hSw
            obtain ⟨e0, e1, ⟨e2, e3, e4, e5⟩, e6, e7, e8, e9⟩ := hSw.facts hi0 HJ HX.out HY.out
            go_simp
            (try with_reducible rfl)
          (try simp only [Act.put, List.setIfInBounds_toArray, List.set_cons_zero, List.set_cons_succ])
          refine take_y (i := 12) (d := some 57) (v := ?_) rfl rfl (by kernel_rfl) (by kernel_rfl) (by kernel_rfl) (fun _ _ _ h => h) (by assumption) ?_ ?_
          rotate_left
          · intro oi ho
            simp only [List.getElem?_toArray, List.getElem?_cons_succ, List.getElem?_cons_zero, Option.some.injEq] at ho
            subst ho
            intro w hSw
            obtain ⟨e0, e1, ⟨e2, e3, e4, e5⟩, e6, e7, e8, e9⟩ := hSw.facts hi0 HJ HX.out HY.out
            go_simp
            (try with_reducible rfl)
          (try simp only [Act.put, List.setIfInBounds_toArray, List.set_cons_zero, List.set_cons_succ])
          refine take_y (i := 13) (d := some 58) (v := ?_) rfl rfl (by kernel_rfl) (by kernel_rfl) (by kernel_rfl) (fun _ _ _ h => h) (by assumption) ?_ ?_
          rotate_left
          · intro oi ho
            simp only [List.getElem?_toArray, List.getElem?_cons_succ, List.getElem?_cons_zero, Option.some.injEq] at ho
            subst ho
            intro w hSw
            obtain ⟨e0, e1, ⟨e2, e3, e4, e5⟩, e6, e7, e8, e9⟩ := hSw.facts hi0 HJ HX.out HY.out
            go_simp
            (try with_reducible rfl)
          (try simp only [Act.put, List.setIfInBounds_toArray, List.set_cons_zero, List.set_cons_succ])
          refine take_y (i := 14) (d := some 59) (v := ?_) rfl rfl (by kernel_rfl) (by kernel_rfl) (by kernel_rfl) (fun _ _ _ h => h) (by assumption) ?_ ?_
          rotate_left
          · intro oi ho
            simp only [List.getElem?_toArray, List.getElem?_cons_succ, List.getElem?_cons_zero, Option.some.injEq] at ho
            subst ho
            intro w hSw
            obtain ⟨e0, e1, ⟨e2, e3, e4, e5⟩, e6, e7, e8, e9⟩ := hSw.facts hi0 HJ HX.out HY.out
            go_simp
            (try with_reducible rfl)
          (try simp only [Act.put, List.setIfInBounds_toArray, List.set_cons_zero, List.set_cons_succ])
          refine take_y (i := 15) (d := some 60) (v := ?_) rfl rfl (by kernel_rfl) (by kernel_rfl) (by kernel_rfl) (fun _ _ _ h => h) (by assumption) ?_ ?_
          rotate_left
          · intro oi ho
            simp only [List.getElem?_toArray, List.getElem?_cons_succ, List.getElem?_cons_zero, Option.some.injEq] at ho
            subst ho
            intro w hSw
            obtain ⟨e0, e1, ⟨e2, e3, e4, e5⟩, e6, e7, e8, e9⟩ := hSw.facts hi0 HJ HX.out HY.out
            go_simp
            (try with_reducible rfl)
          (try simp only [Act.put, List.setIfInBounds_toArray, List.set_cons_zero, List.set_cons_succ])
          refine take_y (i := 16) (d := some 61) (v := ?_) rfl rfl (by kernel_rfl) (by kernel_rfl) (by kernel_rfl) (fun _ _ _ h => h) (by assumption) ?_ ?_
          rotate_left
          · intro oi ho
            simp only [List.getElem?_toArray, List.getElem?_cons_succ, List.getElem?_cons_zero, Option.some.injEq] at ho
            subst ho
            intro w hSw
            obtain ⟨e0, e1, ⟨e2, e3, e4, e5⟩, e6, e7, e8, e9⟩ := hSw.facts hi0 HJ HX.out HY.out
            go_simp
            (try with_reducible rfl)
          (try simp only [Act.put, List.setIfInBounds_toArray, List.set_cons_zero, List.set_cons_succ])
          refine take_y (i := 17) (d := some 62) (v := ?_) rfl rfl (by kernel_rfl) (by kernel_rfl) (by kernel_rfl) (fun _ _ _ h => h) (by assumption) ?_ ?_
          rotate_left
          · intro oi ho
            simp only [List.getElem?_toArray, List.getElem?_cons_succ, List.getElem?_cons_zero, Option.some.injEq] at ho
            subst ho
            intro w hSw
            obtain ⟨e0, e1, ⟨e2, e3, e4, e5⟩, e6, e7, e8, e9⟩ := hSw.facts hi0 HJ HX.out HY.out
            go_simp
            (try with_reducible rfl)
          (try simp only [Act.put, List.setIfInBounds_toArray, List.set_cons_zero, List.set_cons_succ])
          refine take_y (i := 18) (d := some 63) (v := ?_) rfl rfl (by kernel_rfl) (by kernel_rfl) (by kernel_rfl) (fun _ _ _ h => h) (by assumption) ?_ ?_
          rotate_left
          · intro oi ho
            simp only [List.getElem?_toArray, List.getElem?_cons_succ, List.getElem?_cons_zero, Option.some.injEq] at ho
            subst ho
            intro w hSw
            obtain ⟨e0, e1, ⟨e2, e3, e4, e5⟩, e6, e7, e8, e9⟩ := hSw.facts hi0 HJ HX.out HY.out
            go_simp
            (try with_reducible rfl)
          (try simp only [Act.put, List.setIfInBounds_toArray, List.set_cons_zero, List.set_cons_succ])
          refine take_y (i := 19) (d := some 64) (v := ?_) rfl rfl (by kernel_rfl) (by kernel_rfl) (by kernel_rfl) (fun _ _ _ h => h) (by assumption) ?_ ?_
          rotate_left
          · intro oi ho
            simp only [List.getElem?_toArray, List.getElem?_cons_succ, List.getElem?_cons_zero, Option.some.injEq] at ho
            subst ho
            intro w hSw
            obtain ⟨e0, e1, ⟨e2, e3, e4, e5⟩, e6, e7, e8, e9⟩ := hSw.facts hi0 HJ HX.out HY.out
            go_simp
            (try with_reducible rfl)
          (try simp only [Act.put, List.setIfInBounds_toArray, List.set_cons_zero, List.set_cons_succ])
          refine take_y (i := 20) (d := some 65) (v := ?_) rfl rfl (by kernel_rfl) (by kernel_rfl) (by kernel_rfl) (fun _ _ _ h => h) (by assumption) ?_ ?_
          rotate_left
          · intro oi ho
            simp only [List.getElem?_toArray, List.getElem?_cons_succ, List.getElem?_cons_zero, Option.some.injEq] at ho
            subst ho
            intro w hSw
            obtain ⟨e0, e1, ⟨e2, e3, e4, e5⟩, e6, e7, e8, e9⟩ := hSw.facts hi0 HJ HX.out HY.out
            go_simp
            (try with_reducible rfl)
          (try simp only [Act.put, List.setIfInBounds_toArray, List.set_cons_zero, List.set_cons_succ])
          refine take_y (i := 21) (d := some 66) (v := ?_) rfl rfl (by kernel_rfl) (by kernel_rfl) (by kernel_rfl) (fun _ _ _ h => h) (by assumption) ?_ ?_
          rotate_left
          · intro oi ho
            simp only [List.getElem?_toArray, List.getElem?_cons_succ, List.getElem?_cons_zero, Option.some.injEq] at ho
            subst ho
            intro w hSw
            obtain ⟨e0, e1, ⟨e2, e3, e4, e5⟩, e6, e7, e8, e9⟩ := hSw.facts hi0 HJ HX.out HY.out
            go_simp
            (try with_reducible rfl)
          (try simp only [Act.put, List.setIfInBounds_toArray, List.set_cons_zero, List.set_cons_succ])
          refine wpAnyH_ready (rs := [22]) (by kernel_rfl) (by simp) ?_
          refine AllReadyH.cons rfl (fun K hK => ?_) AllReadyH.nil
          go_simp
          refine (HMG _).out.mono ?_
          rintro _ wm ⟨rfl, hbm⟩
          refine hK.out _ _ ?_ (fun hHeld => ?_)
          · exact hHeld.below hbm
          clear hK K
          (try simp only [Act.put, List.setIfInBounds_toArray, List.set_cons_zero, List.set_cons_succ])
          refine take_y (i := 23) (d := some 68) (v := ?_) rfl rfl (by kernel_rfl) (by kernel_rfl) (by kernel_rfl) (fun _ _ _ h => h) (by assumption) ?_ ?_
          rotate_left
          · intro oi ho
            simp only [List.getElem?_toArray, List.getElem?_cons_succ, List.getElem?_cons_zero, Option.some.injEq] at ho
            subst ho
            intro w hSw
            skip
            go_simp
            (try with_reducible rfl)
          (try simp only [Act.put, List.setIfInBounds_toArray, List.set_cons_zero, List.set_cons_succ])
          unfold nodeV
          refine wpAnyH_ready (rs := [24]) (by kernel_rfl) (by simp) ?_
          refine AllReadyH.cons rfl (fun K hK => ?_) AllReadyH.nil
          obtain ⟨⟨v0, v1, v2, v3, k0, k1, k2, k3⟩, k4, k5, k6, k7⟩ := hHeld.at hi2
          go_simp
          refine hK.out _ _ ?_ (fun hHeld => ?_)
          · exact hHeld.set hi2 (mergeN d1 d2)
          clear hK K
          (try simp only [Act.put, List.setIfInBounds_toArray, List.set_cons_zero, List.set_cons_succ])
          refine wpAnyH_done (by kernel_rfl) ?_ _
          obtain ⟨hT2, hG2⟩ := (by assumption : RegS wo w.heap.size p w.heap.size k i nd' wm).done hi2 (mergeN d1 d2)
          obtain ⟨w2, hw2'⟩ : ∃ w2, w2 = ((((wm.setCell ⟨w.heap.size, i * 4, none⟩ (.int .i64 (hiW (mergeN d1 d2).s))).setCell ⟨w.heap.size, i * 4 + 1, none⟩ (.int .u64 (loW (mergeN d1 d2).s))).setCell ⟨w.heap.size, i * 4 + 2, none⟩ (.int .i64 (mergeN d1 d2).mn)).setCell ⟨w.heap.size, i * 4 + 3, none⟩ (.int .i64 (mergeN d1 d2).mx)) := ⟨_, rfl⟩
          rw [← hw2'] at hT2 hG2 ⊢
          have HT2 := Lib.hid hT2
          have HG2 := Lib.hid (grown_trans HG.out hG2)
          clear hw2' hHeld k0 k1 k2 k3 k4 k5 k6 k7 hbm HMG HR0 hT2 hG2 hw1 hw2 hx1 hx2 hx3 HX HY HJ
          go_wp2_with fail
          go_roundw
          case rel => exact ⟨(i : Int) - 1, _, rfl, by omega, by omega, HT2, by rw [show ((i : Int) - 1).toNat = i - 1 by omega]; exact HS, HG2⟩
          case measure => simp [intOf]; omega
        · have HF := Lib.hid (HBI.out.done (by omega))
          clear HBI
          go_wp2_with fail
          go_ret
          exact ⟨p, rfl, nd', HT.out, HF.out, HBW.out _ HG.out⟩
end Go.Proofs.Ytfmbbfidjcgeiaa
