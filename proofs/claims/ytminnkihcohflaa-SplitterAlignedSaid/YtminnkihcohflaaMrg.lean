/- The definition's MergeLineage. No condition beside sizes. -/
import Derived.Test.YtminnkihcohflaaMrgP
import Derived.Test.YtminnkihcohflaaElB
namespace Go.Proofs.Ytminnkihcohflaa
open Go.RowKit Go.Lib Go.Shelf

theorem ints_at {w : World} {G : Nat → Prop} {a : Option Addr} {n c k : Nat} {l : List Int} {x : Int} (h : Sl intE w G (.slice a n c) l) (hk : l[k]? = some x) : ∃ b o, a = some ⟨b, o, none⟩ ∧ w.cell? ⟨b, o + k, none⟩ = some (.int .i64 x) := by
  obtain ⟨b, o, cs, ha, rfl, hc⟩ := Sl.at h hk
  have h0 : w.cell? ⟨b, o + k * 1 + 0, none⟩ = some (.int .i64 x) := hc 0 _ rfl
  rw [Nat.mul_one, Nat.add_zero] at h0
  exact ⟨b, o, ha, h0⟩
/-- After j of both slices. -/
def accU (a b : List Int) : Nat → List Int
  | 0 => []
  | 1 => a.foldl ins []
  | _ => mergeL a b
theorem accU_length (a b : List Int) (j : Nat) : (accU a b j).length ≤ a.length + b.length := by
  match j with
  | 0 => simp [accU]
  | 1 => have := foldIns_length a []; simp [accU] at *; omega
  | j + 2 => exact mergeL_length a b

set_option maxHeartbeats 8000000 in
set_option maxRecDepth 100000 in
theorem merge_any (v u : Value) (a b : List Int) (w : World) (hv : Sl intE w free v a) (hu : Sl intE w free u b) (hs : a.length + b.length ≤ 1000000000) :
    Calls Try.prog 66 #[v, u] w (RetOwn intE w (mergeL a b)) := by
  obtain ⟨a1, c1, rfl⟩ := hv.shape
  obtain ⟨a2, c2, rfl⟩ := hu.shape
  have HA := Lib.hid hv
  have HB := Lib.hid hu
  obtain ⟨n1, hn1⟩ : ∃ n, n = a.length := ⟨_, rfl⟩
  obtain ⟨n2, hn2⟩ : ∃ n, n = b.length := ⟨_, rfl⟩
  have HN1 := Lib.hid hn1
  have HN2 := Lib.hid hn2
  rw [← hn1] at HA ⊢
  rw [← hn2] at HB ⊢
  clear hv hu hn1 hn2
  go_enter Try.func66, Try.ntmps66
  go_wp2_with fail
  go_loopw [14, 5] (fun i o wr => ∃ j : Nat, j ≤ 2 ∧ i = .int .i64 j ∧ Own intE wr w.heap.size o (accU a b j) ∧ Below w.heap.size w wr) (fun i _ _ => 2 - (intOf i).toNat)
  case atStart => exact ⟨0, Nat.zero_le _, rfl, Own.nil _ _ _, Below.refl _ _⟩
  case round =>
    obtain ⟨j, hj, rfl, hO, hB⟩ := hrel
    obtain ⟨wo, rfl⟩ : ∃ wo : World, wo = wr := ⟨_, rfl⟩
    obtain ⟨oa, oc, rfl⟩ := hO.shape
    by_cases hlt : j < 2
    · obtain ⟨a3, c3, n3, lx, hidx, hlx, hn3, hacc⟩ : ∃ (a3 : Option Addr) (c3 n3 : Nat) (lx : List Int), (∀ W, (Instr.index 144 (.agg #[.slice a1 n1 c1, .slice a2 n2 c2]) (.int .i64 (j : Int))).run Try.prog W = .ok (.slice a3 n3 c3) W) ∧ Sl intE w free (.slice a3 n3 c3) lx ∧ lx.length = n3 ∧ Hid (∀ q, ((lx.take q).foldl ins (accU a b j)).length ≤ a.length + b.length) ∧ lx.foldl ins (accU a b j) = accU a b (j + 1) ∧ n3 ≤ 1000000000 := by
        have hlen : ∀ (xs l : List Int) (q : Nat), ((xs.take q).foldl ins l).length ≤ l.length + xs.length := fun xs l q => Nat.le_trans (foldIns_length _ _) (by rw [List.length_take]; omega)
        rcases (by omega : j = 0 ∨ j = 1) with rfl | rfl
        · exact ⟨a1, c1, n1, a, fun W => by kernel_rfl, HA.out, HN1.out.symm, fun q => by have := hlen a [] q; simp [accU] at *; omega, rfl, by have := HN1.out; omega⟩
        · refine ⟨a2, c2, n2, b, fun W => by kernel_rfl, HB.out, HN2.out.symm, fun q => ?_, by simp [accU, mergeL], by have := HN2.out; omega⟩
          have := hlen b (accU a b 1) q
          have h2 := foldIns_length a []
          simp [accU] at *; omega
      obtain ⟨hacb, hacc, hn3b⟩ := hacc
      have HACC := Lib.hid hacc
      have HL3 := Lib.hid hn3
      have HLX := Lib.hid hlx
      clear hacc hn3 hlx
      have hjd : decide ((j : Int) < 2) = true := by simp; omega
      go_wp2_with fail
      go_loopw [19, 5] (fun i o wr => ∃ q : Nat, q ≤ n3 ∧ i = .int .i64 q ∧ Own intE wr w.heap.size o ((lx.take q).foldl ins (accU a b j)) ∧ Below w.heap.size w wr) (fun i _ _ => n3 - (intOf i).toNat)
      case atStart => exact ⟨0, Nat.zero_le _, rfl, hO, hB⟩
      case round =>
        obtain ⟨q, hq, rfl, hO2, hB2⟩ := hrel
        obtain ⟨wp, rfl⟩ : ∃ wp : World, wp = wr := ⟨_, rfl⟩
        have hml := hacb.out q
        obtain ⟨out, hout⟩ : ∃ out, out = (lx.take q).foldl ins (accU a b j) := ⟨_, rfl⟩
        have HOUT := Lib.hid hout
        rw [← hout] at hO2 hml
        obtain ⟨m, hm⟩ : ∃ m, m = out.length := ⟨_, rfl⟩
        obtain ⟨pa, pc, rfl⟩ := hO2.shape
        have HM := Lib.hid hm
        rw [← hm] at hO2 hml ⊢
        have hmx : m ≤ 1000000000 := by omega
        have hml1 : out.length ≤ m := Nat.le_of_eq HM.out.symm
        have hml2 : m ≤ out.length := Nat.le_of_eq HM.out
        clear hout hm hml
        by_cases hlt2 : q < n3
        · obtain ⟨x, hx⟩ := lget_some lx q (by rw [HL3.out]; exact hlt2)
          obtain ⟨b3, o3, e3, hat⟩ := ints_at HLX.out hx
          subst e3
          replace hat := cell_keep hB2 hat
          have HNEXT : Hid ((lx.take (q + 1)).foldl ins (accU a b j) = ins out x) := by show _ = _; rw [take_get hx, List.foldl_append, ← HOUT.out]; rfl
          clear hx
          go_wp2_with fail
          go_loop [10] (fun t => ∃ k : Nat, k ≤ m ∧ t = .int .i64 k ∧ Hid (∀ i y, i < k → out[i]? = some y → y < x)) (fun t => m - (intOf t).toNat)
          case atStart => exact ⟨0, Nat.zero_le _, rfl, fun i y h => absurd h (Nat.not_lt_zero i)⟩
          case round =>
            obtain ⟨k, hk, rfl, HK⟩ := hrel
            by_cases h3 : k < m
            · obtain ⟨y, hy⟩ := lget_some out k (by rw [← HM.out]; exact h3)
              obtain ⟨b4, o4, e4, hat4⟩ := ints_at hO2.sl hy
              subst e4
              have HY := Lib.hid hy
              have hkb : ((k : Int) == (m : Int)) = false := by rw [beq_eq_false_iff_ne]; omega
              have hkl : (k : Int) < (m : Int) := by omega
              by_cases h4 : y < x
              · clear hy
                go_wp2_with fail
                go_round
                case rel =>
                  refine ⟨k + 1, by omega, by go_num, fun i z hi hz => ?_⟩
                  rcases Nat.lt_or_ge i k with h | h
                  · exact HK.out i z h hz
                  · have : i = k := by omega
                    subst this
                    rw [HY.out] at hz; cases hz; exact h4
                case measure => simp [intOf]; omega
              · have hlead : lead x out = k := lead_eq x out k (by omega) HK.out (fun z hz => by rw [hy] at hz; cases hz; exact h4)
                by_cases h5 : y = x
                · have HINS : Hid ((lx.take (q + 1)).foldl ins (accU a b j) = out) := by show _ = _; rw [HNEXT.out, ins, hlead, if_pos (by rw [hy, h5])]
                  have h5b : (y != x) = false := by simp [h5]
                  have HY5 := Lib.hid h5
                  clear hy hlead h5
                  go_wp2_with fail
                  go_roundw
                  case rel => exact ⟨q + 1, by omega, by go_num, by rw [HINS.out]; exact hO2, hB2⟩
                  case measure => simp [intOf]; omega
                · have HINS : Hid ((lx.take (q + 1)).foldl ins (accU a b j) = out.take k ++ [x] ++ out.drop k) := by show _ = _; rw [HNEXT.out, ins, hlead, if_neg (by rw [hy]; simpa using h5)]
                  have h5b : (y != x) = true := by simpa using h5
                  clear hy hlead
                  have HTL : Hid (([] : List Int).length + (out.take k).length = k) := by show _ = _; simp; omega
                  have HDL : Hid ((out.take k ++ [x]).length + (out.drop k).length = m + 1) := by show _ = _; simp; omega
                  have hcap := hO2.sl.cap
                  have hki1 : (k : Int) ≤ (pc : Int) := by omega
                  have hki2 : (0 : Int) ≤ (k : Int) := by omega
                  have hki3 : (k : Int) ≤ (m : Int) := by omega
                  have hki4 : (m : Int) ≤ (pc : Int) := by omega
                  have HT : Hid (Sl intE wp (fun mm => wp.heap.size ≤ mm) (.slice (some ⟨b4, o4, none⟩) k pc) (out.take k)) := (hO2.sl.takeS hk).old (Nat.le_refl _)
                  have hck : ¬ pc = k := by omega
                  have HD : Hid (Sl intE wp (fun mm => wp.heap.size ≤ mm) (.slice (some ⟨b4, o4 + k, none⟩) (m - k) (pc - k)) (out.drop k)) := by
                    have h := hO2.sl.dropS hk
                    rw [show k * intE.size = k from Nat.mul_one k] at h
                    rw [Option.map_some, Addr.add_lit] at h
                    exact h.old (Nat.le_refl _)
                  go_wp2_with fail
                  go_region_held3 (fun W => Below wp.heap.size wp W)
                    ((first | exact (Below.refl _ _).drew | exact below_alloc_keep (by assumption) | exact Below.trans (by assumption) (Joined.below (by assumption)) | exact Below.trans (by assumption) (Pushed.below (by assumption))))
                    (first
                      | (refine step_join rfl (.const (.slice none 0 0)) (.tmp 51) 23 rfl intE Try.underlying23 wp.heap.size (.slice none 0 0) (.slice (some ⟨b4, o4, none⟩) k pc) [] (out.take k) rfl rfl (Own.nil _ _ _) ((HT.out.below (by assumption)).mono (fun _ _ h => by simp [Value.ownBlock] at h)) (by unfold maxLen; simp; omega) (by show _ * 8 ≤ _; simp; omega) (Below.size (by assumption)) k HTL.out ?_; intro x1 y1 w1 hJ1)
                      | (refine step_push rfl (.tmp 52) (.tmp 54) 23 rfl intE Try.underlying23 wp.heap.size (.slice x1 k y1) (out.take k) rfl hJ1.own [x] #[.int .i64 x] (Els.one rfl) 1 1 rfl rfl (by decide) (by unfold maxLen; simp; omega) (by show _ * 8 ≤ _; simp; omega) hJ1.below.size ?_; intro g cap w2 hP hPa)
                      | (refine step_push_at rfl (.tmp 52) (.tmp 54) 23 rfl intE Try.underlying23 wp.heap.size (.slice x1 k y1) (out.take k) rfl hJ1.own [x] [.int .i64 x] (Els.one rfl) ⟨wp.heap.size, 0, none⟩ 1 1 rfl rfl (fun jj uu hu => hJ1.kept.cell (by simp [Value.ownBlock]) (cells_new wp.drew _ _ jj uu hu)) (by decide) (by unfold maxLen; simp; omega) (by show _ * 8 ≤ _; simp; omega) (Below.size (by assumption)) ?_; intro g cap w2 hP)
                      | (refine step_join rfl (.tmp 55) (.tmp 58) 23 rfl intE Try.underlying23 wp.heap.size (.slice (some ⟨g, 0, none⟩) ((out.take k).length + 1) cap) (.slice (some ⟨b4, o4 + k, none⟩) (m - k) (pc - k)) (out.take k ++ [x]) (out.drop k) rfl rfl (hP.own' (by simp)) ((HD.out.below (by assumption)).mono (fun mm _ hh => ((hP.own' (n := (out.take k).length + 1) (by simp)).lt mm hh.symm).1)) (by unfold maxLen; simp; omega) (by show _ * 8 ≤ _; simp; omega) (Below.size (by assumption)) (m + 1) HDL.out ?_; intro x3 y3 w3 hJ3))
                  all_goals
                    have hb9 : Below wp.heap.size wp w3 := by assumption
                    have hB9 : Below w.heap.size w w3 := hB2.trans (hb9.mono hB2.size)
                    go_wp2_with fail
                    go_roundw
                    case rel => exact ⟨q + 1, by omega, by go_num, by rw [HINS.out]; exact hJ3.own.mono hB2.size, hB9⟩
                    case measure => simp [intOf]; omega
            · have hlead : lead x out = k := lead_eq x out k (by omega) HK.out (fun z hz => by rw [List.getElem?_eq_none (by omega)] at hz; cases hz)
              have HINS : Hid ((lx.take (q + 1)).foldl ins (accU a b j) = out.take k ++ [x] ++ out.drop k) := by show _ = _; rw [HNEXT.out, ins, hlead, if_neg (by rw [List.getElem?_eq_none (by omega)]; simp)]
              have hkb : ((k : Int) == (m : Int)) = true := by rw [beq_iff_eq]; omega
              clear hlead
              have HTL : Hid (([] : List Int).length + (out.take k).length = k) := by show _ = _; simp; omega
              have HDL : Hid ((out.take k ++ [x]).length + (out.drop k).length = m + 1) := by show _ = _; simp; omega
              have hcap := hO2.sl.cap
              have hki1 : (k : Int) ≤ (pc : Int) := by omega
              have hki2 : (0 : Int) ≤ (k : Int) := by omega
              have hki3 : (k : Int) ≤ (m : Int) := by omega
              have hki4 : (m : Int) ≤ (pc : Int) := by omega
              have HT : Hid (Sl intE wp (fun mm => wp.heap.size ≤ mm) (.slice pa k pc) (out.take k)) := (hO2.sl.takeS hk).old (Nat.le_refl _)
              by_cases hck : pc = k
              · have hck' := hck.symm
                subst hck'
                have HD : Hid (Sl intE wp (fun mm => wp.heap.size ≤ mm) (.slice pa 0 0) (out.drop k)) := Sl.none_left (by omega) rfl
                go_wp2_with fail
                go_region_held3 (fun W => Below wp.heap.size wp W)
                  ((first | exact (Below.refl _ _).drew | exact below_alloc_keep (by assumption) | exact Below.trans (by assumption) (Joined.below (by assumption)) | exact Below.trans (by assumption) (Pushed.below (by assumption))))
                  (first
                    | (refine step_join rfl (.const (.slice none 0 0)) (.tmp 51) 23 rfl intE Try.underlying23 wp.heap.size (.slice none 0 0) (.slice pa k k) [] (out.take k) rfl rfl (Own.nil _ _ _) ((HT.out.below (by assumption)).mono (fun _ _ h => by simp [Value.ownBlock] at h)) (by unfold maxLen; simp; omega) (by show _ * 8 ≤ _; simp; omega) (Below.size (by assumption)) k HTL.out ?_; intro x1 y1 w1 hJ1)
                    | (refine step_push rfl (.tmp 52) (.tmp 54) 23 rfl intE Try.underlying23 wp.heap.size (.slice x1 k y1) (out.take k) rfl hJ1.own [x] #[.int .i64 x] (Els.one rfl) 1 1 rfl rfl (by decide) (by unfold maxLen; simp; omega) (by show _ * 8 ≤ _; simp; omega) hJ1.below.size ?_; intro g cap w2 hP hPa)
                    | (refine step_push_at rfl (.tmp 52) (.tmp 54) 23 rfl intE Try.underlying23 wp.heap.size (.slice x1 k y1) (out.take k) rfl hJ1.own [x] [.int .i64 x] (Els.one rfl) ⟨wp.heap.size, 0, none⟩ 1 1 rfl rfl (fun jj uu hu => hJ1.kept.cell (by simp [Value.ownBlock]) (cells_new wp.drew _ _ jj uu hu)) (by decide) (by unfold maxLen; simp; omega) (by show _ * 8 ≤ _; simp; omega) (Below.size (by assumption)) ?_; intro g cap w2 hP)
                    | (refine step_join rfl (.tmp 55) (.tmp 58) 23 rfl intE Try.underlying23 wp.heap.size (.slice (some ⟨g, 0, none⟩) ((out.take k).length + 1) cap) (.slice pa 0 0) (out.take k ++ [x]) (out.drop k) rfl rfl (hP.own' (by simp)) ((HD.out.below (by assumption)).mono (fun mm _ hh => ((hP.own' (n := (out.take k).length + 1) (by simp)).lt mm hh.symm).1)) (by unfold maxLen; simp; omega) (by show _ * 8 ≤ _; simp; omega) (Below.size (by assumption)) (m + 1) HDL.out ?_; intro x3 y3 w3 hJ3))
                all_goals
                  have hb9 : Below wp.heap.size wp w3 := by assumption
                  have hB9 : Below w.heap.size w w3 := hB2.trans (hb9.mono hB2.size)
                  go_wp2_with fail
                  go_roundw
                  case rel => exact ⟨q + 1, by omega, by go_num, by rw [HINS.out]; exact hJ3.own.mono hB2.size, hB9⟩
                  case measure => simp [intOf]; omega
              · have HD : Hid (Sl intE wp (fun mm => wp.heap.size ≤ mm) (.slice (pa.map fun y => y.add k) (m - k) (pc - k)) (out.drop k)) := by
                  have h := hO2.sl.dropS hk
                  rw [show k * intE.size = k from Nat.mul_one k] at h
                  exact h.old (Nat.le_refl _)
                go_wp2_with fail
                go_region_held3 (fun W => Below wp.heap.size wp W)
                  ((first | exact (Below.refl _ _).drew | exact below_alloc_keep (by assumption) | exact Below.trans (by assumption) (Joined.below (by assumption)) | exact Below.trans (by assumption) (Pushed.below (by assumption))))
                  (first
                    | (refine step_join rfl (.const (.slice none 0 0)) (.tmp 51) 23 rfl intE Try.underlying23 wp.heap.size (.slice none 0 0) (.slice pa k pc) [] (out.take k) rfl rfl (Own.nil _ _ _) ((HT.out.below (by assumption)).mono (fun _ _ h => by simp [Value.ownBlock] at h)) (by unfold maxLen; simp; omega) (by show _ * 8 ≤ _; simp; omega) (Below.size (by assumption)) k HTL.out ?_; intro x1 y1 w1 hJ1)
                    | (refine step_push rfl (.tmp 52) (.tmp 54) 23 rfl intE Try.underlying23 wp.heap.size (.slice x1 k y1) (out.take k) rfl hJ1.own [x] #[.int .i64 x] (Els.one rfl) 1 1 rfl rfl (by decide) (by unfold maxLen; simp; omega) (by show _ * 8 ≤ _; simp; omega) hJ1.below.size ?_; intro g cap w2 hP hPa)
                    | (refine step_push_at rfl (.tmp 52) (.tmp 54) 23 rfl intE Try.underlying23 wp.heap.size (.slice x1 k y1) (out.take k) rfl hJ1.own [x] [.int .i64 x] (Els.one rfl) ⟨wp.heap.size, 0, none⟩ 1 1 rfl rfl (fun jj uu hu => hJ1.kept.cell (by simp [Value.ownBlock]) (cells_new wp.drew _ _ jj uu hu)) (by decide) (by unfold maxLen; simp; omega) (by show _ * 8 ≤ _; simp; omega) (Below.size (by assumption)) ?_; intro g cap w2 hP)
                    | (refine step_join rfl (.tmp 55) (.tmp 58) 23 rfl intE Try.underlying23 wp.heap.size (.slice (some ⟨g, 0, none⟩) ((out.take k).length + 1) cap) (.slice (pa.map fun y => y.add k) (m - k) (pc - k)) (out.take k ++ [x]) (out.drop k) rfl rfl (hP.own' (by simp)) ((HD.out.below (by assumption)).mono (fun mm _ hh => ((hP.own' (n := (out.take k).length + 1) (by simp)).lt mm hh.symm).1)) (by unfold maxLen; simp; omega) (by show _ * 8 ≤ _; simp; omega) (Below.size (by assumption)) (m + 1) HDL.out ?_; intro x3 y3 w3 hJ3))
                all_goals
                  have hb9 : Below wp.heap.size wp w3 := by assumption
                  have hB9 : Below w.heap.size w w3 := hB2.trans (hb9.mono hB2.size)
                  go_wp2_with fail
                  go_roundw
                  case rel => exact ⟨q + 1, by omega, by go_num, by rw [HINS.out]; exact hJ3.own.mono hB2.size, hB9⟩
                  case measure => simp [intOf]; omega
        · have HEND : Hid (out = accU a b (j + 1)) := by show _ = _; rw [HOUT.out, List.take_of_length_le (by rw [HL3.out]; omega), HACC.out]
          go_wp2_with fail
          go_roundw
          case rel => exact ⟨j + 1, by omega, by go_num, by rw [← HEND.out]; exact hO2, hB2⟩
          case measure => simp [intOf]; omega
    · have hj2 : j = 2 := by omega
      have HF : Hid (accU a b j = mergeL a b) := by show _ = _; rw [hj2]; rfl
      clear hj2
      go_wp2_with fail
      go_ret
      exact ⟨_, rfl, by rw [← HF.out]; exact hO, hB⟩
end Go.Proofs.Ytminnkihcohflaa
