/- A part of the proofs: Asg, Avd, Edt, Edp, Edv, Idf, Edu, Del, Ins, MapI, AppP, ApIx, Chk, Chl, Apl. No condition beside sizes and tables that read as laid. -/
import Derived.Test.YtfmbbfidjcgeiaaGreatMgAc
import Derived.Test.YtfmbbfidjcgeiaaGreatMgAb
import Derived.Test.YtfmbbfidjcgeiaaGreatMgAa
import Derived.Maps.OwnSet
import Derived.Maps.OwnOps
import Derived.Maps.RangeWalk
import Derived.Maps.Views
namespace Go.Proofs.YtfmbbfidjcgeiaaGreat
open Go.RowKit Go.Lib Go.Shelf

/-- slices.Clone of values: a row of the call's own. -/
theorem cloneVals_own (v : Value) (l : List GVal) (w : World) (hr : Sl valE w free v l) (hs : l.length ≤ 1000) :
    Calls Tryz.prog 23 #[v] w (RetOwn valE w l) := by
  obtain ⟨_, _, a, c, rfl, _, hp⟩ := hr.reads
  obtain ⟨i0, hi, hz0, hz1, hz2⟩ := info_parts val_info
  have q22 : ∀ (w : World) (a : Option Addr) (n c n' c' : Nat), (binOp .eql 51 (.slice a n c) (.slice none n' c')).run Tryz.prog w = .ok (.bool a.isNone) w := fun w a n c n' c' => Lib.run_eql_slice_nil w _ _ a n c n' c' Tryz.underlying51
  cases a with
  | none =>
    have hl : l.length = 0 := by
      rcases Nat.eq_zero_or_pos l.length with h | h
      · exact h
      · obtain ⟨b, o, e, _⟩ := hp h; cases e
    refine (AnyE.slices_Clone_nil sh_clone78 _ _ _).mono ?_
    rintro e w' ⟨rfl, rfl⟩
    have : l = [] := List.eq_nil_of_length_eq_zero hl
    subst this
    exact ⟨_, rfl, Own.nil _ _ _, Below.refl _ _⟩
  | some p =>
    rcases Nat.eq_zero_or_pos l.length with h | h
    · have : l = [] := List.eq_nil_of_length_eq_zero h
      subst this
      clear hr hp
      go_enter Tryz.func23, Tryz.ntmps23
      go_wp2_with (at_builtin; refine wpList_append_own _ rfl _ _ 51 rfl w.heap.size 36 i0 _ 3 32 Tryz.underlying51 hi hz0 hz1 hz2 rfl (by decide) _ _ _ rfl (World.ownsRow_made w #[] 0 (Nat.le_refl _) (Nat.zero_le _) rfl) p 0 c [] rfl rfl (by intro j u hj; simp at hj) (by intro u hu; cases hu) (by unfold maxLen; omega) (by omega) (by simp) ?_; intro v' w1 hown hgrow _)
      go_ret
      exact ⟨v', rfl, Own.of_flat hown, ((Below.refl _ w).alloc (Nat.le_refl _) _).grown hgrow (by simp) (fun k hk => ((World.ownsRow_made (base := w.heap.size) (e := 36) (size := 3) w #[] 0 (Nat.le_refl _) (Nat.zero_le _) rfl).lt k hk).1)⟩
    obtain ⟨b, o, e, hc⟩ := hp h
    cases e
    refine (AnyE.slices_Clone sh_clone78 i0 _ 3 32 hi hz0 hz1 hz2 rfl (by decide) (fun w => Tryz.sizeOf36 w) b o l.length c (valCells l) w (valCells_length l) (by unfold maxLen; omega) (by omega) hc (valCells_one l)).mono ?_
    rintro e w' ⟨v', rfl, ho, _, hb⟩
    exact ⟨_, rfl, Own.of_flat ho, hb⟩
/-- An assignment. -/
structure Asg where
  col : Int
  ex : Int
theorem asg_info : (Tryz.prog.info? 45).map (fun i => (i.zero, i.size, i.bytes)) = some (some (.agg #[.int .i64 0, .int .i64 0]), 2, 16) := by kernel_rfl
def asgE : El Tryz.prog Asg := El.flat 45 2 16 (by decide) (info_mk asg_info rfl) (fun x => [.int .i64 x.col, .int .i64 x.ex]) (fun _ => rfl) (by intro x u hu; simp at hu; rcases hu with rfl | rfl <;> rfl)
theorem asg_at {w : World} {a : Option Addr} {n c k : Nat} {l : List Asg} {x : Asg} (h : Sl asgE w free (.slice a n c) l) (hk : l[k]? = some x) :
    ∃ b o, a = some ⟨b, o, none⟩ ∧ w.cell? ⟨b, o + k * 2, none⟩ = some (.int .i64 x.col) ∧ w.cell? ⟨b, o + k * 2 + 1, none⟩ = some (.int .i64 x.ex) := by
  obtain ⟨b, o, cs, ha, rfl, hc⟩ := Sl.at h hk
  exact ⟨b, o, ha, hc 0 _ rfl, hc 1 _ rfl⟩
def asg1 (e : List GExp) (old : List GVal) (vals : List GVal) (s : Asg) : List GVal := if 0 ≤ s.col ∧ s.col < vals.length then vals.set s.col.toNat (evalG e s.ex old) else vals
/-- The values behind the assignments. -/
def asgV (e : List GExp) (set : List Asg) (old : List GVal) : List GVal := set.foldl (asg1 e old) old
theorem asg1_length (e : List GExp) (old vals : List GVal) (s : Asg) : (asg1 e old vals s).length = vals.length := by unfold asg1; split <;> simp
theorem asgV_snoc (e : List GExp) (set : List Asg) (s : Asg) (old : List GVal) : asgV e (set ++ [s]) old = asg1 e old (asgV e set old) s := by unfold asgV; rw [List.foldl_append]; rfl
theorem asgV_length (e : List GExp) (set : List Asg) (old : List GVal) : (asgV e set old).length = old.length := by
  suffices h : ∀ v, (set.foldl (asg1 e old) v).length = v.length from h old
  induction set with
  | nil => intro v; rfl
  | cons x l ih => intro v; rw [List.foldl_cons, ih, asg1_length]
set_option maxHeartbeats 4000000 in
set_option maxRecDepth 100000 in
theorem upd1_any (vo vs ve : Value) (old : List GVal) (set : List Asg) (e : List GExp) (g1 g2 : Nat) (w : World) (ho : Sl valE w free vo old) (hs : Sl asgE w free vs set) (he : Sl expE w free ve e)
    (h1 : w.cell? ⟨g1, 0, none⟩ = some vs) (h2 : w.cell? ⟨g2, 0, none⟩ = some ve) (hel : e.length ≤ 1000) (hol : old.length ≤ 1000) (hc : ∀ x ∈ e, In64 x.c.n) (hvn : ∀ g ∈ old, In64 g.n) :
    Calls Tryz.prog 22 #[vo, .pointer (some ⟨g1, 0, none⟩), .pointer (some ⟨g2, 0, none⟩)] w (RetOwn valE w (asgV e set old)) := by
  obtain ⟨a, c, rfl⟩ := ho.shape
  obtain ⟨a2, c2, rfl⟩ := hs.shape
  obtain ⟨a3, c3, rfl⟩ := he.shape
  have HO := Lib.hid ho
  have HS := Lib.hid hs
  have HE := Lib.hid he
  have HC := Lib.hid hc
  have HVN := Lib.hid hvn
  obtain ⟨n, hn⟩ : ∃ n, n = set.length := ⟨_, rfl⟩
  have HN := Lib.hid hn
  have hsn := hs.1
  rw [← hn] at HS hsn h1
  have H1 := Lib.hid h1
  have H2 := Lib.hid h2
  clear ho hs he hc hvn hn
  go_enter Tryz.func22, Tryz.ntmps22
  go_wp2_with fail
  refine (cloneVals_own _ old _ HO.out hol).mono ?_
  rintro _ w1 ⟨v1, rfl, hO1, hB1⟩
  obtain ⟨a4, c4, rfl⟩ := hO1.shape
  have h1' := cell_keep hB1 h1
  have h2' := cell_keep hB1 h2
  have HO1 := Lib.hid hO1
  have HB1 := Lib.hid hB1
  clear h1 h2 hO1 hB1
  go_wp2_with fail
  go_loopw [12] (fun i wr => ∃ k : Nat, k ≤ n ∧ i = .int .i64 k ∧ Own valE wr w.heap.size (.slice a4 old.length c4) (asgV e (set.take k) old) ∧ Below w.heap.size w wr) (fun i _ => n - (intOf i).toNat)
  case atStart => exact ⟨0, Nat.zero_le _, rfl, HO1.out, HB1.out⟩
  case round =>
    obtain ⟨k, hk, rfl, hOk, hBk⟩ := hrel
    obtain ⟨wo, rfl⟩ : ∃ wo : World, wo = wr := ⟨_, rfl⟩
    by_cases hlt : k < n
    · obtain ⟨x, hx⟩ := lget_some set k (by rw [← HN.out]; exact hlt)
      obtain ⟨b, o, rfl, p0, p1⟩ := asg_at (HS.out.below hBk) hx
      have HX := Lib.hid hx
      have HOk := Lib.hid hOk
      have HBk := Lib.hid hBk
      have HLK : Hid ((asgV e (set.take k) old).length = old.length) := asgV_length _ _ _
      obtain ⟨col, ex⟩ := x
      dsimp only at p0 p1
      clear hx hOk hBk
      have HT : ∀ r, asg1 e old (asgV e (set.take k) old) ⟨col, ex⟩ = r → Hid (asgV e (set.take (k + 1)) old = r) := fun r hr => by
        show _ = _
        rw [take_get HX.out, asgV_snoc, hr]
      by_cases hc0 : 0 ≤ col
      · by_cases hc1 : col < (old.length : Int)
        · obtain ⟨C, rfl⟩ := Int.eq_ofNat_of_zero_le hc0
          have hC : C < old.length := by omega
          obtain ⟨z, hz⟩ := lget_some (asgV e (set.take k) old) C (by rw [HLK.out]; exact hC)
          obtain ⟨gO, rfl⟩ : ∃ gO, a4 = some ⟨gO, 0, none⟩ := by
            obtain ⟨b', o', e', _⟩ := val_at HOk.out.sl hz
            subst e'
            obtain ⟨xs, h1, _⟩ := HOk.out
            rcases h1.2 with ⟨h', _⟩ | ⟨g', cap', cur, h', _⟩
            · simp at h'
            · simp only [Value.slice.injEq, Option.some.injEq, Addr.mk.injEq] at h'
              obtain ⟨⟨_, ho', _⟩, _⟩ := h'
              exact ⟨b', by rw [ho']⟩
          have hgO := HOk.out.lt gO rfl
          have HOa := HOk.out.below (below_alloc wo (.cells #[.int .i64 (C : Int), .int .i64 ex] 45))
          have HBa := below_alloc_keep (o := .cells #[.int .i64 (C : Int), .int .i64 ex] 45) HBk.out
          obtain ⟨q0, q1, q2⟩ := own_at3 HOa hz
          replace q0 := vAt_of q0
          replace q1 := vAt_of q1
          replace q2 := vAt_of q2
          have f0 := own_frozen HOa HLK.out (C * 3)
          have f1 := own_frozen HOa HLK.out (C * 3 + 1)
          have f2 := own_frozen HOa HLK.out (C * 3 + 2)
          obtain ⟨b0, b1, _, _⟩ := box_two (World.alloc_heap_new wo (.cells #[.int .i64 (C : Int), .int .i64 ex] 45))
          have e0 := cell_keep (below_alloc wo (.cells #[.int .i64 (C : Int), .int .i64 ex] 45)) (cell_keep HBk.out H2.out)
          have hg2 : g2 < w.heap.size := World.block_lt_of_cell? w _ H2.out
          have n1 : gO ≠ wo.heap.size := by omega
          have n2 : gO ≠ g2 := by omega
          have n3 : w.heap.size ≤ gO := hgO.1
          have HEV : ∀ W, Below w.heap.size w W → Hid (Calls Tryz.prog 24 #[.slice a3 e.length c3, .int .i64 ex, .slice a old.length c] W fun e' w' => e' = .returned (aggG (evalG e ex old)) ∧ Below W.heap.size W w') := fun W hW =>
            eval_any _ _ e ex old W (HE.out.below hW) (HO.out.below hW) (by omega) HC.out HVN.out
          obtain ⟨y, hy⟩ : ∃ y, y = evalG e ex old := ⟨_, rfl⟩
          rw [← hy] at HEV
          have HT1 := HT ((asgV e (set.take k) old).set C y) (by unfold asg1; rw [if_pos ⟨hc0, by rw [HLK.out]; exact hc1⟩, hy]; rfl)
          have HOA := Lib.hid HOa
          have HBA := Lib.hid HBa
          unfold aggG at HEV
          clear HT hz hy HOa HBa
          have HBB := HBA.out
          go_wp2_with fail
          go_region_held3 (fun W => Below w.heap.size w W ∧ W.cell? ⟨wo.heap.size, 0, none⟩ = some (.int .i64 (C : Int)) ∧ W.cell? ⟨wo.heap.size, 1, none⟩ = some (.int .i64 ex) ∧ W.cell? ⟨g2, 0, none⟩ = some (.slice a3 e.length c3)
              ∧ W.cell? ⟨gO, C * 3, none⟩ = some (vAt W ⟨gO, C * 3, none⟩) ∧ W.cell? ⟨gO, C * 3 + 1, none⟩ = some (vAt W ⟨gO, C * 3 + 1, none⟩) ∧ W.cell? ⟨gO, C * 3 + 2, none⟩ = some (vAt W ⟨gO, C * 3 + 2, none⟩)
              ∧ W.frozen? ⟨gO, C * 3, none⟩ = false ∧ W.frozen? ⟨gO, C * 3 + 1, none⟩ = false ∧ W.frozen? ⟨gO, C * 3 + 2, none⟩ = false)
            ((go_split_ands; refine ⟨?_, ?_, ?_, ?_, ?_, ?_, ?_, ?_, ?_, ?_⟩ <;> first | (with_reducible assumption) | with_reducible exact Below.drew (by assumption) | with_reducible exact cell_drew (by assumption) | with_reducible exact vAt_drew (by assumption) | with_reducible exact frozen_drew (by assumption) | with_reducible exact below_tr3 (Nat.le_refl _) (by assumption) (by assumption) | with_reducible exact cell_keep (by assumption) (by assumption) | with_reducible exact vAt_keep (by assumption) (by assumption) | with_reducible exact frozen_keep (by assumption) (by assumption) (by assumption) | with_reducible exact below_set3 (by assumption) (by assumption) (by assumption) (by assumption) | with_reducible exact cell_set3 (by assumption) (by assumption) rfl rfl | with_reducible exact vAt_set3 (by assumption) | with_reducible exact frozen_set3 (by assumption)))
            (first
              | (go_at_call 24; go_split_ands; refine (HEV _ (by first | assumption | exact Below.drew (by assumption))).out.mono ?_; rintro e' wE ⟨rfl, hbE⟩))
          have o1 := own_set3 (HOA.out.drew.below hbE) HLK.out hC y
          have hbw : Below w.heap.size w wE := below_tr3 (Nat.le_refl _) HBB.drew hbE
          have HO2 := Lib.hid o1
          have HB2 := Lib.hid (below_set3 (q1 := ⟨gO, C * 3, none⟩) (q2 := ⟨gO, C * 3 + 1, none⟩) (q3 := ⟨gO, C * 3 + 2, none⟩) (u1 := .int .i64 y.kind) (u2 := .int .i64 y.n) (u3 := .string y.s) hbw n3 n3 n3)
          clear o1 hbw hbE HBB
          go_wp2_with fail
          go_roundw
          case rel => exact ⟨k + 1, by omega, by go_num, by rw [HT1.out]; exact HO2.out, HB2.out⟩
          case measure => simp [intOf]; omega
        · have HT1 := HT _ (by unfold asg1; rw [if_neg]; rw [HLK.out]; intro h; exact hc1 h.2)
          clear HT
          go_wp2_with fail
          go_roundw
          case rel => exact ⟨k + 1, by omega, by go_num, by rw [HT1.out]; exact HOk.out.below (below_alloc _ _), HBk.out.trans ((below_alloc _ _).mono HBk.out.size)⟩
          case measure => simp [intOf]; omega
      · have HT1 := HT _ (by unfold asg1; rw [if_neg]; intro h; exact hc0 h.1)
        clear HT
        go_wp2_with fail
        go_roundw
        case rel => exact ⟨k + 1, by omega, by go_num, by rw [HT1.out]; exact HOk.out.below (below_alloc _ _), HBk.out.trans ((below_alloc _ _).mono HBk.out.size)⟩
        case measure => simp [intOf]; omega
    · have HF : Hid (asgV e (set.take k) old = asgV e set old) := by show _ = _; rw [List.take_of_length_le (by rw [← HN.out]; omega)]
      rw [HF.out] at hOk
      have HOk := Lib.hid hOk
      have HBk := Lib.hid hBk
      clear hOk hBk
      go_wp2_with fail
      go_ret
      exact ⟨_, rfl, HOk.out, HBk.out⟩
end Go.Proofs.YtfmbbfidjcgeiaaGreat



namespace Go.Proofs.YtfmbbfidjcgeiaaGreat
open Go.RowKit Go.Lib Go.Shelf

theorem Own.shift {P : Program} {α : Type} {E : El P α} {D D' K : Nat → Prop} {w w' : World} {B : Nat} {v : Value} {l : List α} (h : Own (E.avoid D) w B v l) (hk : Kept K w w') (hs : ∀ k, k < w.heap.size → K k → D k) (hD : ∀ k, v.ownBlock = some k → ¬ K k) (hd : ∀ k, k < w.heap.size → D' k → D k ∨ some k = v.ownBlock) : Own (E.avoid D') w' B v l := by
  obtain ⟨xs, h1, h2⟩ := h
  refine ⟨xs, ⟨h1.1, h1.2.imp id ?_⟩, fun i x hx => ?_⟩
  · rintro ⟨g, cap, cur, rfl, hg, hh, r⟩
    exact ⟨g, cap, cur, rfl, hg, (hk.2 g (Array.getElem?_eq_some_iff.1 hh).1 (hD g rfl)).trans hh, r⟩
  · have h3 : E.is w (fun k => (some k = v.ownBlock ∨ D k) ∨ D' k) x ((xs.drop (i * E.size)).take E.size) := E.mono (h2 i x hx) (fun k hk h => by
      rcases h with h | h
      · exact h
      · exact (hd k hk h).symm)
    have h4 := E.kept h3 ⟨hk.1, fun k h5 h6 => hk.2 k h5 (fun h7 => h6 (.inl (.inr (hs k h5 h7))))⟩
    exact E.mono h4 (fun k _ h => h.imp .inl id)
set_option maxHeartbeats 4000000 in
set_option maxRecDepth 100000 in
theorem add_yes {D : Nat → Prop} (av : Option Addr) (nv cv : Nat) (vc va : Value) (vals : List GVal) (lo hi id : Int) (l : List Tup) (gd gv B : Nat) (w : World) (hd : w.heap[gd]? = some (.cells #[vc, va] 42 (0, 0))) (hid : w.cell? ⟨gv, 0, none⟩ = some (.int .i64 id)) (ho : Own (tupE.avoid D) w B va l)
    (hvv : Sl valE w (fun k => some k = va.ownBlock ∨ D k) (.slice av nv cv) vals) (hgD : D gd) (hDl : ∀ k, D k → k < w.heap.size) (hne : some gd ≠ va.ownBlock) (hB : B ≤ w.heap.size) (hll : l.length ≤ 1000) (hlt : lo < hi) :
    Calls Tryz.prog 37 #[.slice av nv cv, .int .i64 lo, .int .i64 hi, .pointer (some ⟨gd, 0, none⟩), .pointer (some ⟨gv, 0, none⟩)] w fun e w' =>
      e = .returned (.tuple #[]) ∧ ∃ va', Own (tupE.avoid D) w' B va' (l ++ [⟨vals, lo, hi, [id]⟩]) ∧ w'.heap[gd]? = some (.cells #[vc, va'] 42 (0, 0)) ∧ (va'.ownBlock = va.ownBlock ∨ ∃ m, va'.ownBlock = some m ∧ w.heap.size ≤ m) ∧ Kept (fun k => k = gd ∨ some k = va.ownBlock) w w' ∧ (∀ m, m ≤ B → m ≤ gd → Below m w w') := by
  obtain ⟨a1, c1, rfl⟩ := ho.shape
  obtain ⟨d0, d1, d2, d3⟩ := box_two hd
  have hgd : gd < w.heap.size := World.block_lt_of_cell? w _ d0
  have HO := Lib.hid (ho.below (below_alloc w (.cells #[.int .i64 id] 3)))
  have HD := Lib.hid hd
  have hnw : ¬ (some w.heap.size = (Value.slice a1 l.length c1).ownBlock ∨ D w.heap.size) := by
    rintro (h | h)
    · have := (ho.lt _ h.symm).2; omega
    · exact absurd (hDl _ h) (by omega)
  have hS : Sl intE (w.alloc (.cells #[.int .i64 id] 3)) (fun k => some k = (Value.slice a1 l.length c1).ownBlock ∨ D k) (.slice (some ⟨w.heap.size, 0, none⟩) 1 1) [id] :=
    Sl.of_block (World.alloc_heap_new w _) (Els.one (cs := [.int .i64 id]) rfl) hnw rfl (by simp) (by simp)
  have HIS : Hid (Els (tupE.avoid D) (w.alloc (.cells #[.int .i64 id] 3)) (fun k => some k = (Value.slice a1 l.length c1).ownBlock) [⟨vals, lo, hi, [id]⟩] [.slice av nv cv, .int .i64 lo, .int .i64 hi, .slice (some ⟨w.heap.size, 0, none⟩) 1 1]) :=
    Els.one ⟨_, _, rfl, hvv.below (below_alloc _ _), hS⟩
  have hB1 : B ≤ (w.alloc (.cells #[.int .i64 id] 3)).heap.size := by simp; omega
  clear ho hd hS hvv
  go_enter Tryz.func37, Tryz.ntmps37
  go_wp2_with (at_builtin; refine wpList_push rfl (.tmp 12) (.tmp 21) 40 rfl (tupE.avoid D) Tryz.underlying40 B (.slice a1 l.length c1) l rfl HO.out [⟨vals, lo, hi, [id]⟩] #[.slice av nv cv, .int .i64 lo, .int .i64 hi, .slice (some ⟨w.heap.size, 0, none⟩) 1 1] HIS.out 1 1 rfl (show Value.slice (some ⟨w.heap.size + 1, 0, none⟩) 1 1 = .slice (some ⟨(w.alloc (.cells #[.int .i64 id] 3)).heap.size, 0, none⟩) 1 1 by simp) (by decide) (by unfold maxLen; omega) (by show _ * 64 ≤ _; omega) hB1 ?_; intro g cap w5 hP hPa; have hd5 := hP.block hne (box_kept HD.out (below_alloc w _)); obtain ⟨k0, k1, k2, k3⟩ := box_two hd5)
  go_end0
  have hK : Kept (fun k => some k = (Value.slice a1 l.length c1).ownBlock) w w5 := ⟨Nat.le_trans (by simp) hP.kept.1, fun k hk hn => (hP.kept.2 k (by simp; omega) hn).trans ((below_alloc w _).block k hk)⟩
  have hgg : gd ≠ g := hP.ne hne (by simp; omega)
  have hKd : Kept (fun k => k = gd) w5 (w5.setCell ⟨gd, 1, none⟩ (.slice (some ⟨g, 0, none⟩) (l.length + 1) cap)) := ⟨by simp, fun k _ hn => heap_setCell_other _ _ _ _ hn⟩
  refine ⟨rfl, _, (hP.own' (n := l.length + 1) (by simp)).shift hKd (fun k _ h => h ▸ hgD) (fun k hk h => by cases hk; exact hgg h.symm) (fun k _ h => .inl h), ?_, ?_, ?_, ?_⟩
  · rw [heap_setCell_same _ _ _ _ _ _ hd5]
    rfl
  · exact hP.place.imp (fun h => Eq.symm h) (fun h => ⟨g, rfl, by simp at h; omega⟩)
  · exact ⟨by have := hK.1; simpa using this, fun k hk hn => (heap_setCell_other _ _ _ _ (fun e => hn (.inl e))).trans (hK.2 k hk (fun e => hn (.inr e)))⟩
  · intro m h1 h2
    exact ((below_alloc_from w _ (by omega)).trans (hP.below.mono h1)).setCell h2 _
set_option maxHeartbeats 1000000 in
theorem add_no (vv p1 p2 : Value) (lo hi : Int) (w : World) (hlt : ¬ lo < hi) :
    Calls Tryz.prog 37 #[vv, .int .i64 lo, .int .i64 hi, p1, p2] w fun e w' => e = .returned (.tuple #[]) ∧ w = w' := by
  go_enter Tryz.func37, Tryz.ntmps37
  go_wp2_with fail
  go_end0
  exact ⟨rfl, rfl⟩
theorem add_any {D : Nat → Prop} (av : Option Addr) (nv cv : Nat) (vc va : Value) (vals : List GVal) (lo hi id : Int) (l : List Tup) (gd gv B : Nat) (w : World) (hd : w.heap[gd]? = some (.cells #[vc, va] 42 (0, 0))) (hid : w.cell? ⟨gv, 0, none⟩ = some (.int .i64 id)) (ho : Own (tupE.avoid D) w B va l)
    (hvv : Sl valE w (fun k => some k = va.ownBlock ∨ D k) (.slice av nv cv) vals) (hgD : D gd) (hDl : ∀ k, D k → k < w.heap.size) (hne : some gd ≠ va.ownBlock) (hB : B ≤ w.heap.size) (hll : l.length ≤ 1000) :
    Calls Tryz.prog 37 #[.slice av nv cv, .int .i64 lo, .int .i64 hi, .pointer (some ⟨gd, 0, none⟩), .pointer (some ⟨gv, 0, none⟩)] w fun e w' =>
      e = .returned (.tuple #[]) ∧ ∃ va', Own (tupE.avoid D) w' B va' (l ++ if lo < hi then [⟨vals, lo, hi, [id]⟩] else []) ∧ w'.heap[gd]? = some (.cells #[vc, va'] 42 (0, 0)) ∧ (va'.ownBlock = va.ownBlock ∨ ∃ m, va'.ownBlock = some m ∧ w.heap.size ≤ m) ∧ Kept (fun k => k = gd ∨ some k = va.ownBlock) w w' ∧ (∀ m, m ≤ B → m ≤ gd → Below m w w') := by
  by_cases hlt : lo < hi
  · refine (add_yes av nv cv vc va vals lo hi id l gd gv B w hd hid ho hvv hgD hDl hne hB hll hlt).mono ?_
    rw [if_pos hlt]
    exact fun _ _ h => h
  · refine (add_no (.slice av nv cv) (.pointer (some ⟨gd, 0, none⟩)) (.pointer (some ⟨gv, 0, none⟩)) lo hi w hlt).mono ?_
    rintro _ w' ⟨rfl, rfl⟩
    rw [if_neg hlt, List.append_nil]
    exact ⟨rfl, va, ho, hd, .inl rfl, ⟨Nat.le_refl _, fun _ _ _ => rfl⟩, fun m _ _ => Below.refl _ _⟩
end Go.Proofs.YtfmbbfidjcgeiaaGreat

namespace Go.Proofs.YtfmbbfidjcgeiaaGreat
open Go.RowKit Go.Lib

/-- The parts of an affected version: outside of the period, and, where values are changed, inside. -/
def partL (plo phi : Int) (v : Ver) : List Tup := if v.lo < isLo v.lo v.hi plo phi then [⟨v.vals, v.lo, isLo v.lo v.hi plo phi, [v.id]⟩] else []
def partM (plo phi : Int) (chg : Option (List GVal → List GVal)) (v : Ver) : List Tup :=
  match chg with
  | none => []
  | some f => if isLo v.lo v.hi plo phi < isHi v.lo v.hi plo phi then [⟨f v.vals, isLo v.lo v.hi plo phi, isHi v.lo v.hi plo phi, [v.id]⟩] else []
def partR (plo phi : Int) (v : Ver) : List Tup := if isHi v.lo v.hi plo phi < v.hi then [⟨v.vals, isHi v.lo v.hi plo phi, v.hi, [v.id]⟩] else []
def partsV (plo phi : Int) (chg : Option (List GVal → List GVal)) (v : Ver) : List Tup := partL plo phi v ++ partM plo phi chg v ++ partR plo phi v
theorem partsV_length (plo phi : Int) (chg : Option (List GVal → List GVal)) (v : Ver) : (partsV plo phi chg v).length ≤ 3 := by
  unfold partsV partL partM partR
  simp only [List.length_append]
  split <;> split <;> (try split) <;> (try split) <;> simp
theorem mem_insRev (x y : Ver) (s : List Ver) : y ∈ insRev x s → y = x ∨ y ∈ s := by
  induction s with
  | nil => intro h; simp [insRev] at h; exact .inl h
  | cons z zs ih =>
    intro h
    unfold insRev at h
    split at h
    · rcases List.mem_cons.1 h with h | h
      · exact .inr (by simp [h])
      · exact (ih h).imp id (fun h => List.mem_cons_of_mem _ h)
    · rcases List.mem_cons.1 h with h | h
      · exact .inl h
      · exact .inr h
theorem mem_sortV (y : Ver) (l : List Ver) : y ∈ sortV l → y ∈ l := by
  suffices h : ∀ s, y ∈ l.foldl (fun s x => insV x s) s → y ∈ s ∨ y ∈ l from fun hy => (h [] hy).elim (fun h => by cases h) id
  induction l with
  | nil => intro s h; exact .inl h
  | cons x l ih =>
    intro s h
    rcases ih _ h with h | h
    · unfold insV at h
      rcases mem_insRev x y _ (List.mem_reverse.1 h) with h | h
      · exact .inr (by simp [h])
      · exact .inl (List.mem_reverse.1 h)
    · exact .inr (List.mem_cons_of_mem _ h)
theorem aff_ok (plo phi : Int) (e : List GExp) (pred : Int) (l : List Ver) (v : Ver) (h : v ∈ affV plo phi e pred l) : v ∈ l ∧ keepV plo phi e pred v = true := by
  have h1 := mem_sortV v _ h
  exact List.mem_filter.1 h1
theorem aff_mid (plo phi : Int) (e : List GExp) (pred : Int) (v : Ver) (h : keepV plo phi e pred v = true) : isLo v.lo v.hi plo phi < isHi v.lo v.hi plo phi := by
  unfold keepV at h
  simp only [Bool.and_eq_true] at h
  have h2 := h.1.2
  unfold isLo isHi
  rw [if_pos h2, if_pos h2]
  unfold isOk at h2
  simp only [Bool.and_eq_true, decide_eq_true_eq] at h2
  exact h2.2
end Go.Proofs.YtfmbbfidjcgeiaaGreat

namespace Go.Proofs.YtfmbbfidjcgeiaaGreat
open Go.RowKit Go.Lib Go.Shelf

theorem own_vals_from {w : World} {B : Nat} {v : Value} {l : List GVal} (h : Own valE w B v l) : Sl valE w (fun k => k < B) v l := by
  have hlt := h.lt
  obtain ⟨h1, a, c, rfl, h3, h4⟩ := h.sl
  refine ⟨h1, a, c, rfl, h3, fun hn => ?_⟩
  obtain ⟨b, o, rfl, _, h6⟩ := h4 hn
  exact ⟨b, o, rfl, fun hb => by have := (hlt b rfl).1; omega, h6⟩
theorem Sl.toAvoid {P : Program} {α : Type} {E : El P α} {D : Nat → Prop} {w : World} {v : Value} {l : List α} (h : Sl E w D v l) : Sl (E.avoid D) w Go.Proofs.YtfmbbfidjcgeiaaGreat.free v l := by
  obtain ⟨h1, a, c, h2, h3, h4⟩ := h
  refine ⟨h1, a, c, h2, h3, fun hn => ?_⟩
  obtain ⟨b, o, h5, hg, h6⟩ := h4 hn
  refine ⟨b, o, h5, id, fun i x hx => ?_⟩
  obtain ⟨cs, h7, h8⟩ := h6 i x hx
  exact ⟨cs, E.mono h7 (fun k _ h => h.elim (fun h => h.elim) id), h8⟩
theorem Own.slAvoid {P : Program} {α : Type} {E : El P α} {D D' : Nat → Prop} {w : World} {B : Nat} {v : Value} {l : List α} (h : Own (E.avoid D) w B v l) (hD : ∀ k, D' k → D k) (hB : ∀ k, D' k → k < B) : Sl E w D' v l := by
  have hlt := h.lt
  obtain ⟨h1, a, c, rfl, h3, h4⟩ := h.sl
  refine ⟨h1, a, c, rfl, h3, fun hn => ?_⟩
  obtain ⟨b, o, rfl, _, h6⟩ := h4 hn
  refine ⟨b, o, rfl, fun hb => by have := (hlt b rfl).1; have := hB b hb; omega, fun i x hx => ?_⟩
  obtain ⟨cs, h7, h8⟩ := h6 i x hx
  exact ⟨cs, E.mono h7 (fun k _ hk => .inr (hD k hk)), h8⟩
/-- The loop's state: what is affected, what is closed, what is added. -/
structure EdSt (B0 gd : Nat) (F : Nat → Prop) (affv : Value) (aff : List Ver) (vc va : Value) (cl : List Int) (ad : List Tup) (W : World) : Prop where
  base : B0 ≤ gd
  af : Own (verE.avoid fun k => B0 ≤ k) W (gd + 1) affv aff
  cl : Own intE W (gd + 1) vc cl
  ad : Own (tupE.avoid fun k => (B0 ≤ k ∧ k ≤ gd) ∨ some k = vc.ownBlock) W (gd + 1) va ad
  d : W.heap[gd]? = some (.cells #[vc, va] 42 (0, 0))
  n1 : ∀ k, vc.ownBlock = some k → va.ownBlock ≠ some k ∧ affv.ownBlock ≠ some k
  n2 : ∀ k, va.ownBlock = some k → affv.ownBlock ≠ some k
  bx : ∀ k, F k → k < W.heap.size ∧ k ≠ gd ∧ va.ownBlock ≠ some k ∧ vc.ownBlock ≠ some k
section
variable {B0 gd : Nat} {F : Nat → Prop} {affv : Value} {aff : List Ver} {vc va : Value} {cl : List Int} {ad : List Tup} {W : World}
theorem EdSt.gdlt (h : EdSt B0 gd F affv aff vc va cl ad W) : gd < W.heap.size := (Array.getElem?_eq_some_iff.1 h.d).1
theorem EdSt.below (h : EdSt B0 gd F affv aff vc va cl ad W) {W' : World} (hb : Below W.heap.size W W') : EdSt B0 gd F affv aff vc va cl ad W' :=
  ⟨h.base, h.af.below hb, h.cl.below hb, h.ad.below hb, (hb.block _ h.gdlt).trans h.d, h.n1, h.n2, fun k hk => ⟨Nat.lt_of_lt_of_le (h.bx k hk).1 hb.size, (h.bx k hk).2⟩⟩
theorem EdSt.box (h : EdSt B0 gd F affv aff vc va cl ad W) (o : Obj) : EdSt B0 gd (fun k => F k ∨ k = W.heap.size) affv aff vc va cl ad (W.alloc o) := by
  have h' := h.below (below_alloc W o)
  refine ⟨h'.base, h'.af, h'.cl, h'.ad, h'.d, h'.n1, h'.n2, fun k hk => ?_⟩
  rcases hk with hk | rfl
  · exact h'.bx k hk
  · refine ⟨by simp, ?_, fun e => ?_, fun e => ?_⟩
    · have := h.gdlt; omega
    · have := (h.ad.lt _ e).2; omega
    · have := (h.cl.lt _ e).2; omega
theorem EdSt.mono (h : EdSt B0 gd F affv aff vc va cl ad W) {F' : Nat → Prop} (hF : ∀ k, F' k → F k) : EdSt B0 gd F' affv aff vc va cl ad W :=
  ⟨h.base, h.af, h.cl, h.ad, h.d, h.n1, h.n2, fun k hk => h.bx k (hF k hk)⟩
/-- A version more is closed. -/
theorem EdSt.closed (h : EdSt B0 gd F affv aff vc va cl ad W) {W2 W3 : World} (hb : Below W.heap.size W W2) {cl' : List Int} {g cap n : Nat} (hP : Pushed intE (gd + 1) W2 W3 vc cl' g cap) (hn : cl'.length = n) :
    EdSt B0 gd F affv aff (.slice (some ⟨g, 0, none⟩) n cap) va cl' ad (W3.setCell ⟨gd, 0, none⟩ (.slice (some ⟨g, 0, none⟩) n cap)) ∧ (∀ k, F k → (W3.setCell ⟨gd, 0, none⟩ (.slice (some ⟨g, 0, none⟩) n cap)).heap[k]? = W2.heap[k]?) ∧ Below gd W2 (W3.setCell ⟨gd, 0, none⟩ (.slice (some ⟨g, 0, none⟩) n cap)) := by
  have h2 := h.below hb
  have hne : some gd ≠ vc.ownBlock := fun e => by have := (h2.cl.lt _ e.symm).1; omega
  have hgg : gd ≠ g := hP.ne hne h2.gdlt
  have hd3 : W3.heap[gd]? = some (.cells #[vc, va] 42 (0, 0)) := hP.block hne h2.d
  have hKd : Kept (fun k => k = gd) W3 (W3.setCell ⟨gd, 0, none⟩ (.slice (some ⟨g, 0, none⟩) n cap)) := ⟨by simp, fun k _ hn => heap_setCell_other _ _ _ _ hn⟩
  have hcl : Own (intE.avoid fun k => k = gd) W3 (gd + 1) (.slice (some ⟨g, 0, none⟩) n cap) cl' := hP.own' hn
  have hge : ∀ k, k < W2.heap.size → k = g → some k = vc.ownBlock := fun k hk e => by
    subst e
    rcases hP.place with h | h
    · exact h.symm
    · omega
  refine ⟨⟨h.base, ?_, ?_, ?_, ?_, ?_, h.n2, ?_⟩, ?_, ?_⟩
  · have a1 : Own (verE.avoid fun k => B0 ≤ k) W3 (gd + 1) affv aff := h2.af.shift hP.kept (fun k _ e => by have := (h2.cl.lt _ e.symm).1; have := h.base; omega) (fun k e e' => (h2.n1 k e'.symm).2 e) (fun k _ h => .inl h)
    exact a1.shift hKd (fun k _ e => by have := h.base; omega) (fun k e e' => by have := (a1.lt _ e).1; omega) (fun k _ h => .inl h)
  · exact hcl.shift (D' := fun k => k = gd) hKd (fun k _ e => e) (fun k e e' => by cases e; exact hgg e'.symm) (fun k _ h => .inl h)
  · have a1 : Own (tupE.avoid fun k => (B0 ≤ k ∧ k ≤ gd) ∨ some k = (Value.slice (some ⟨g, 0, none⟩) n cap).ownBlock) W3 (gd + 1) va ad := h2.ad.shift hP.kept (fun k _ e => .inr e) (fun k e e' => (h2.n1 k e'.symm).1 e) (fun k hk e => .inl (e.imp id (fun e => hge k hk (by injection e))))
    exact a1.shift hKd (fun k _ e => .inl ⟨by have := h.base; omega, by omega⟩) (fun k e e' => by have := (a1.lt _ e).1; omega) (fun k _ h => .inl h)
  · rw [heap_setCell_same _ _ _ _ _ _ hd3]
    rfl
  · intro k e
    cases e
    refine ⟨fun e => ?_, fun e => ?_⟩
    · have := (h2.ad.lt _ e).2
      exact (h2.n1 _ (hge _ this rfl).symm).1 e
    · have := (h2.af.lt _ e).2
      exact (h2.n1 _ (hge _ this rfl).symm).2 e
  · intro k hk
    obtain ⟨b1, b2, b3, b4⟩ := h2.bx k hk
    refine ⟨by have := hP.below.size; simp; omega, b2, b3, fun e => ?_⟩
    cases e
    exact b4 (hge _ b1 rfl).symm
  · intro k hk
    obtain ⟨b1, b2, b3, b4⟩ := h2.bx k hk
    exact (heap_setCell_other _ _ _ _ b2).trans (hP.kept.2 k b1 (fun e => b4 e.symm))
  · exact (hP.below.mono (Nat.le_succ _)).setCell (Nat.le_refl _) _
/-- Values of the call's own are added. -/
theorem EdSt.add (h : EdSt B0 gd F affv aff vc va cl ad W) {W1 : World} (hb : Below W.heap.size W W1) {v : Value} {vals : List GVal} (hv : Own valE W1 W.heap.size v vals) (lo hi id : Int) (gv : Nat) (hid : W1.cell? ⟨gv, 0, none⟩ = some (.int .i64 id)) (hll : ad.length ≤ 1000) :
    Calls Tryz.prog 37 #[v, .int .i64 lo, .int .i64 hi, .pointer (some ⟨gd, 0, none⟩), .pointer (some ⟨gv, 0, none⟩)] W1 fun e w' =>
      e = .returned (.tuple #[]) ∧ ∃ va', EdSt B0 gd F affv aff vc va' cl (ad ++ if lo < hi then [⟨vals, lo, hi, [id]⟩] else []) w' ∧ (∀ k, F k → w'.heap[k]? = W1.heap[k]?) ∧ Below gd W1 w' := by
  obtain ⟨a, c, rfl⟩ := hv.shape
  have h1 := h.below hb
  have hvv : Sl valE W1 (fun k => some k = va.ownBlock ∨ ((B0 ≤ k ∧ k ≤ gd) ∨ some k = vc.ownBlock)) (.slice a vals.length c) vals := (own_vals_from hv).mono (fun k _ hk => by
    rcases hk with e | e | e
    · exact (h.ad.lt _ e.symm).2
    · have := h.gdlt; omega
    · exact (h.cl.lt _ e.symm).2)
  have hne : some gd ≠ va.ownBlock := fun e => by have := (h.ad.lt _ e.symm).1; omega
  refine (add_any (D := fun k => (B0 ≤ k ∧ k ≤ gd) ∨ some k = vc.ownBlock) a vals.length c vc va vals lo hi id ad gd gv (gd + 1) W1 h1.d hid h1.ad hvv (.inl ⟨h.base, Nat.le_refl _⟩) ?_ hne h1.gdlt hll).mono ?_
  · rintro k (e | e)
    · exact Nat.lt_of_le_of_lt e.2 h1.gdlt
    · exact (h1.cl.lt _ e.symm).2
  rintro _ w' ⟨rfl, va', ho, hd, hpl, hk, hbb⟩
  have hne' : ∀ k, k < W1.heap.size → va'.ownBlock = some k → va.ownBlock = some k := fun k hk e => by
    rcases hpl with h | ⟨m, h, hm⟩
    · exact h ▸ e
    · rw [h] at e; cases e; omega
  refine ⟨rfl, va', ⟨h.base, ?_, ?_, ho, hd, ?_, ?_, ?_⟩, ?_, hbb gd (Nat.le_succ _) (Nat.le_refl _)⟩
  · exact h1.af.shift hk (fun k _ e => by
      have := h.base
      rcases e with e | e
      · omega
      · have := (h1.ad.lt _ e.symm).1; omega) (fun k e e' => by
      rcases e' with e' | e'
      · have := (h1.af.lt _ e).1; omega
      · exact h1.n2 k e'.symm e) (fun k _ h => .inl h)
  · have hcl : Own (intE.avoid fun k => k = gd ∨ some k = va.ownBlock) W1 (gd + 1) vc cl := h1.cl
    exact hcl.shift (D' := fun k => k = gd ∨ some k = va.ownBlock) hk (fun k _ e => e) (fun k e e' => by
      rcases e' with e' | e'
      · have := (h1.cl.lt _ e).1; omega
      · exact (h1.n1 k e).1 e'.symm) (fun k _ h => .inl h)
  · intro k e
    refine ⟨fun e' => ?_, (h1.n1 k e).2⟩
    exact (h1.n1 k e).1 (hne' k (h1.cl.lt _ e).2 e')
  · intro k e e'
    exact h1.n2 k (hne' k (h1.af.lt _ e').2 e) e'
  · intro k hk'
    obtain ⟨b1, b2, b3, b4⟩ := h1.bx k hk'
    exact ⟨Nat.lt_of_lt_of_le b1 hk.1, b2, fun e => b3 (hne' k b1 e), b4⟩
  · intro k hk'
    obtain ⟨b1, b2, b3, b4⟩ := h1.bx k hk'
    exact hk.2 k b1 (fun e => by
      rcases e with e | e
      · exact b2 e
      · exact b3 e.symm)
end
end Go.Proofs.YtfmbbfidjcgeiaaGreat

namespace Go.Proofs.YtfmbbfidjcgeiaaGreat
open Go.RowKit Go.Lib Go.Shelf

theorem Sl.avoid {P : Program} {α : Type} {E : El P α} {D G : Nat → Prop} {w : World} {v : Value} {l : List α} (h : Sl E w G v l) (hD : ∀ k, k < w.heap.size → ¬ D k) : Sl (E.avoid D) w G v l := by
  obtain ⟨h1, a, c, h2, h3, h4⟩ := h
  refine ⟨h1, a, c, h2, h3, fun hn => ?_⟩
  obtain ⟨b, o, h5, hg, h6⟩ := h4 hn
  refine ⟨b, o, h5, hg, fun i x hx => ?_⟩
  obtain ⟨cs, h7, h8⟩ := h6 i x hx
  exact ⟨cs, E.mono h7 (fun k hk h => h.elim id (fun h => absurd h (hD k hk))), h8⟩
theorem Sl.unavoid {P : Program} {α : Type} {E : El P α} {D G : Nat → Prop} {w : World} {v : Value} {l : List α} (h : Sl (E.avoid D) w G v l) : Sl E w G v l := by
  obtain ⟨h1, a, c, h2, h3, h4⟩ := h
  refine ⟨h1, a, c, h2, h3, fun hn => ?_⟩
  obtain ⟨b, o, h5, hg, h6⟩ := h4 hn
  refine ⟨b, o, h5, hg, fun i x hx => ?_⟩
  obtain ⟨cs, h7, h8⟩ := h6 i x hx
  exact ⟨cs, E.mono h7 (fun k _ h => .inl h), h8⟩
theorem ver_at {w : World} {G : Nat → Prop} {a : Option Addr} {n c k : Nat} {l : List Ver} {x : Ver} (h : Sl verE w G (.slice a n c) l) (hk : l[k]? = some x) :
    ∃ b o a1 n1, a = some ⟨b, o, none⟩ ∧ Sl valE w G (.slice a1 x.vals.length n1) x.vals ∧
      w.cell? ⟨b, o + k * 6, none⟩ = some (.int .i64 x.id) ∧ w.cell? ⟨b, o + k * 6 + 1, none⟩ = some (.slice a1 x.vals.length n1) ∧ w.cell? ⟨b, o + k * 6 + 2, none⟩ = some (.int .i64 x.lo) ∧ w.cell? ⟨b, o + k * 6 + 3, none⟩ = some (.int .i64 x.hi) ∧ w.cell? ⟨b, o + k * 6 + 4, none⟩ = some (.int .i64 x.rlo) ∧ w.cell? ⟨b, o + k * 6 + 5, none⟩ = some (.int .i64 x.rhi) := by
  obtain ⟨b, o, a1, n1, h1, h2, h3⟩ := vers_at (h.avoid (D := free) (fun _ _ h => h)) hk
  exact ⟨b, o, a1, n1, h1, h2.mono (fun _ _ h => .inl h), h3⟩
set_option maxHeartbeats 1000000 in
theorem chk1_any (x : Ver) (vx : Value) (first : Int) (g : Nat) (w : World) (hg : w.cell? ⟨g, 0, none⟩ = some (.int .i64 first)) :
    Calls Tryz.prog 53 #[.agg #[.int .i64 x.id, vx, .int .i64 x.lo, .int .i64 x.hi, .int .i64 x.rlo, .int .i64 x.rhi], .pointer (some ⟨g, 0, none⟩)] w fun e w' => e = .returned (.bool (decide (first ≤ x.id))) ∧ Below w.heap.size w w' := by
  have hg' := cell_alloc (o := .cells #[.int .i64 x.id, vx, .int .i64 x.lo, .int .i64 x.hi, .int .i64 x.rlo, .int .i64 x.rhi] 64) hg
  go_enter Tryz.func53, Tryz.ntmps53
  go_wp2_with fail
  go_ret
  exact ⟨rfl, below_alloc _ _⟩
set_option maxHeartbeats 1000000 in
theorem chk2_any (lo hi : Int) (v u : Value) (w : World) :
    Calls Tryz.prog 56 #[.agg #[v, .int .i64 lo, .int .i64 hi, u]] w fun e w' => e = .returned (.bool (!pdays lo hi)) ∧ Below w.heap.size w w' := by
  go_enter Tryz.func56, Tryz.ntmps56
  go_wp2_with fail
  refine (prd_days lo hi _).mono ?_
  rintro _ w2 ⟨rfl, hb2⟩
  have hB := below_alloc2' hb2
  clear hb2
  go_wp2_with fail
  go_ret
  exact ⟨rfl, hB⟩
set_option maxHeartbeats 2000000 in
theorem idxVer_any (v : Value) (l : List Ver) (first : Int) (g : Nat) (w : World) (hv : Sl verE w free v l) (hg : w.cell? ⟨g, 0, none⟩ = some (.int .i64 first)) :
    Calls Tryz.prog 74 #[v, .func (.func 53) #[] #[.pointer (some ⟨g, 0, none⟩)]] w fun e w' => ∃ r : Int, e = .returned (.int .i64 r) ∧ decide (0 ≤ r) = l.any (fun x => decide (first ≤ x.id)) ∧ Below w.heap.size w w' := by
  obtain ⟨a, c, rfl⟩ := hv.shape
  have h63 := hv.1
  have HV := Lib.hid hv
  have HG := Lib.hid hg
  obtain ⟨n, hn⟩ : ∃ n, n = l.length := ⟨_, rfl⟩
  have HN := Lib.hid hn
  rw [← hn] at h63 HV ⊢
  clear hv hn hg
  go_enter Tryz.func74, Tryz.ntmps74
  go_wp2_with fail
  go_loopw [8] (fun i wr => ∃ k : Nat, k ≤ n ∧ i = .int .i64 k ∧ Hid (l.any (fun x => decide (first ≤ x.id)) = (l.drop k).any (fun x => decide (first ≤ x.id))) ∧ Below w.heap.size w wr) (fun i _ => n - (intOf i).toNat)
  case atStart => exact ⟨0, Nat.zero_le _, rfl, Lib.hid rfl, Below.refl _ _⟩
  case round =>
    obtain ⟨k, hk, rfl, HA, hB⟩ := hrel
    obtain ⟨wo, rfl⟩ : ∃ wo : World, wo = wr := ⟨_, rfl⟩
    by_cases hlt : k < n
    · obtain ⟨x, hx⟩ := lget_some l k (by rw [← HN.out]; exact hlt)
      obtain ⟨b, o, a1, c1v, rfl, hvv, p0, p1, p2, p3, p4, p5⟩ := ver_at (HV.out.below hB) hx
      have HB := Lib.hid hB
      have HX := Lib.hid hx
      have HC : Hid (Calls Tryz.prog 53 #[.agg #[.int .i64 x.id, .slice a1 x.vals.length c1v, .int .i64 x.lo, .int .i64 x.hi, .int .i64 x.rlo, .int .i64 x.rhi], .pointer (some ⟨g, 0, none⟩)] wo fun e w' => e = .returned (.bool (decide (first ≤ x.id))) ∧ Below wo.heap.size wo w') := chk1_any x _ first g wo (cell_keep hB HG.out)
      have HD : Hid (l.any (fun x => decide (first ≤ x.id)) = (decide (first ≤ x.id) || (l.drop (k + 1)).any (fun x => decide (first ≤ x.id)))) := by show _ = _; rw [HA.out, drop_get hx]; rfl
      obtain ⟨xid, xvals, xlo, xhi, xrlo, xrhi⟩ := x
      dsimp only at p0 p1 p2 p3 p4 p5 HC HD
      obtain ⟨q, hq⟩ : ∃ q, q = decide (first ≤ xid) := ⟨_, rfl⟩
      rw [← hq] at HC HD
      clear hB hx hvv hq
      go_wp2_with fail
      refine HC.out.mono ?_
      rintro _ w2 ⟨rfl, hb2⟩
      have HB2 := Lib.hid (below_keep HB.out hb2)
      clear hb2
      cases q
      · go_wp2_with fail
        go_roundw
        case rel => exact ⟨k + 1, by omega, by go_num, by rw [HD.out, Bool.false_or]; exact Lib.hid rfl, HB2.out⟩
        case measure => simp [intOf]; omega
      · go_wp2_with fail
        go_ret
        refine ⟨_, rfl, ?_, HB2.out⟩
        rw [HD.out]
        simp
    · have HF : Hid (l.any (fun x => decide (first ≤ x.id)) = false) := by show _ = _; rw [HA.out, List.drop_of_length_le (by rw [← HN.out]; omega)]; rfl
      go_wp2_with fail
      go_ret
      refine ⟨_, rfl, ?_, hB⟩
      rw [HF.out]
      rfl
set_option maxHeartbeats 1000000 in
theorem containsVer_any (v : Value) (l : List Ver) (first : Int) (g : Nat) (w : World) (hv : Sl verE w free v l) (hg : w.cell? ⟨g, 0, none⟩ = some (.int .i64 first)) :
    Calls Tryz.prog 52 #[v, .func (.func 53) #[] #[.pointer (some ⟨g, 0, none⟩)]] w fun e w' => e = .returned (.bool (l.any fun x => decide (first ≤ x.id))) ∧ Below w.heap.size w w' := by
  have HI := Lib.hid (idxVer_any v l first g w hv hg)
  clear hv hg
  go_enter Tryz.func52, Tryz.ntmps52
  go_wp2_with fail
  refine HI.out.mono ?_
  rintro _ w2 ⟨r, rfl, hr, hb2⟩
  have HR := Lib.hid hr
  have HB := Lib.hid hb2
  clear hr hb2
  go_wp2_with fail
  go_ret
  exact ⟨ret_bool HR.out, HB.out⟩
set_option maxHeartbeats 2000000 in
theorem idxTup_any (v : Value) (l : List Tup) (w : World) (hv : Tups w v l) :
    Calls Tryz.prog 75 #[v, .func (.func 56) #[] #[]] w fun e w' => ∃ r : Int, e = .returned (.int .i64 r) ∧ decide (0 ≤ r) = l.any (fun x => !pdays x.lo x.hi) ∧ Below w.heap.size w w' := by
  obtain ⟨a, c, rfl⟩ := hv.shape
  have h63 := hv.1
  have HV := Lib.hid hv
  obtain ⟨n, hn⟩ : ∃ n, n = l.length := ⟨_, rfl⟩
  have HN := Lib.hid hn
  rw [← hn] at h63 HV ⊢
  clear hv hn
  go_enter Tryz.func75, Tryz.ntmps75
  go_wp2_with fail
  go_loopw [8] (fun i wr => ∃ k : Nat, k ≤ n ∧ i = .int .i64 k ∧ Hid (l.any (fun x => !pdays x.lo x.hi) = (l.drop k).any (fun x => !pdays x.lo x.hi)) ∧ Below w.heap.size w wr) (fun i _ => n - (intOf i).toNat)
  case atStart => exact ⟨0, Nat.zero_le _, rfl, Lib.hid rfl, Below.refl _ _⟩
  case round =>
    obtain ⟨k, hk, rfl, HA, hB⟩ := hrel
    obtain ⟨wo, rfl⟩ : ∃ wo : World, wo = wr := ⟨_, rfl⟩
    by_cases hlt : k < n
    · obtain ⟨x, hx⟩ := lget_some l k (by rw [← HN.out]; exact hlt)
      obtain ⟨b, o, a1, n1, e1, m1, rfl, _, _, p0, p1, p2, p3⟩ := tups_at (HV.out.below hB) hx
      have HB := Lib.hid hB
      have HC : Hid (Calls Tryz.prog 56 #[.agg #[.slice a1 x.vals.length n1, .int .i64 x.lo, .int .i64 x.hi, .slice e1 x.lin.length m1]] wo fun e w' => e = .returned (.bool (!pdays x.lo x.hi)) ∧ Below wo.heap.size wo w') := chk2_any x.lo x.hi _ _ wo
      have HD : Hid (l.any (fun x => !pdays x.lo x.hi) = ((!pdays x.lo x.hi) || (l.drop (k + 1)).any (fun x => !pdays x.lo x.hi))) := by show _ = _; rw [HA.out, drop_get hx]; rfl
      obtain ⟨xvals, xlo, xhi, xlin⟩ := x
      dsimp only at p0 p1 p2 p3 HC HD
      obtain ⟨q, hq⟩ : ∃ q, q = (!pdays xlo xhi) := ⟨_, rfl⟩
      rw [← hq] at HC HD
      clear hB hx hq
      go_wp2_with fail
      refine HC.out.mono ?_
      rintro _ w2 ⟨rfl, hb2⟩
      have HB2 := Lib.hid (below_keep HB.out hb2)
      clear hb2
      cases q
      · go_wp2_with fail
        go_roundw
        case rel => exact ⟨k + 1, by omega, by go_num, by rw [HD.out, Bool.false_or]; exact Lib.hid rfl, HB2.out⟩
        case measure => simp [intOf]; omega
      · go_wp2_with fail
        go_ret
        refine ⟨_, rfl, ?_, HB2.out⟩
        rw [HD.out]
        simp
    · have HF : Hid (l.any (fun x => !pdays x.lo x.hi) = false) := by show _ = _; rw [HA.out, List.drop_of_length_le (by rw [← HN.out]; omega)]; rfl
      go_wp2_with fail
      go_ret
      refine ⟨_, rfl, ?_, hB⟩
      rw [HF.out]
      rfl
set_option maxHeartbeats 1000000 in
theorem containsTup_any (v : Value) (l : List Tup) (w : World) (hv : Tups w v l) :
    Calls Tryz.prog 55 #[v, .func (.func 56) #[] #[]] w fun e w' => e = .returned (.bool (l.any fun x => !pdays x.lo x.hi)) ∧ Below w.heap.size w w' := by
  have HI := Lib.hid (idxTup_any v l w hv)
  clear hv
  go_enter Tryz.func55, Tryz.ntmps55
  go_wp2_with fail
  refine HI.out.mono ?_
  rintro _ w2 ⟨r, rfl, hr, hb2⟩
  have HR := Lib.hid hr
  have HB := Lib.hid hb2
  clear hr hb2
  go_wp2_with fail
  go_ret
  exact ⟨ret_bool HR.out, HB.out⟩
end Go.Proofs.YtfmbbfidjcgeiaaGreat

namespace Go.Proofs.YtfmbbfidjcgeiaaGreat
open Go.RowKit Go.Lib Go.Shelf

/-- What an edit returns. -/
def RetDelta (m : Nat) (w : World) (cl : List Int) (ad : List Tup) : Ending → World → Prop := fun e w' => ∃ vc va, e = .returned (.agg #[vc, va]) ∧ Sl intE w' (fun k => m ≤ k ∧ k < w.heap.size) vc cl ∧ Sl tupE w' (fun k => m ≤ k ∧ k < w.heap.size) va ad ∧ Below w.heap.size w w'
/-- What a change of values computes. -/
def ChgOf (w : World) (fv : Value) (chg : Option (List GVal → List GVal)) : Prop :=
  match chg with
  | none => fv = .nilFunc
  | some f => ∃ g1 g2, fv = .func (.func 22) #[] #[.pointer (some ⟨g1, 0, none⟩), .pointer (some ⟨g2, 0, none⟩)] ∧
      ∀ W vo old, Below w.heap.size w W → Sl valE W free vo old → old.length ≤ 1000 → (∀ g ∈ old, In64 g.n) → Calls Tryz.prog 22 #[vo, .pointer (some ⟨g1, 0, none⟩), .pointer (some ⟨g2, 0, none⟩)] W (RetOwn valE W (f old))
theorem sl_old {B0 : Nat} {W W' : World} {v : Value} {l : List GVal} (h : Sl valE W (fun k => free k ∨ B0 ≤ k) v l) (hb : Below B0 W W') : Sl valE W' (fun k => free k ∨ B0 ≤ k) v l := h.kept ⟨hb.size, fun k _ hn => hb.block k (Nat.lt_of_not_le (fun h => hn (.inr h)))⟩
theorem if_len {c : Prop} [Decidable c] (t : Tup) : (if c then [t] else []).length ≤ 1 := by split <;> simp
theorem nil_neq (W : World) : (binOp .neq 68 .nilFunc .nilFunc).run Tryz.prog W = .ok (.bool false) W := by kernel_rfl
theorem fun_neq (F : Fn) (a b : Array Value) (W : World) : (binOp .neq 68 (.func F a b) .nilFunc).run Tryz.prog W = .ok (.bool true) W := by kernel_rfl
theorem cell_same {w w' : World} {p : Addr} {u : Value} (h : w'.heap[p.block]? = w.heap[p.block]?) (hc : w.cell? p = some u) : w'.cell? p = some u := (World.cell?_of_block h).trans hc
set_option maxHeartbeats 4000000 in
set_option maxRecDepth 100000 in
theorem edit_any (v ve fv : Value) (l : List Ver) (plo phi : Int) (e : List GExp) (pred : Int) (chg : Option (List GVal → List GVal)) (m : Nat) (w : World) (hm : m ≤ w.heap.size) (hv : Sl verE w (fun k => m ≤ k) v l) (he : Sl expE w free ve e) (hl : l.length ≤ 1000) (ha : (l.filter (keepV plo phi e pred)).length ≤ 20) (hel : e.length ≤ 1000) (hc : ∀ x ∈ e, In64 x.c.n) (hvn : ∀ x ∈ l, ∀ g ∈ x.vals, In64 g.n) (hvl : ∀ x ∈ l, x.vals.length ≤ 1000) (hf : ChgOf w fv chg) :
    Calls Tryz.prog 21 #[v, .agg #[.int .i64 plo, .int .i64 phi], ve, .int .i64 pred, fv] w (RetDelta m w ((affV plo phi e pred l).map Ver.id) ((affV plo phi e pred l).flatMap (partsV plo phi chg))) := by
  have HA : ∀ W, Below w.heap.size w W → Hid (Calls Tryz.prog 36 #[v, .agg #[.int .i64 plo, .int .i64 phi], ve, .int .i64 pred] W (RetOwn (verE.avoid fun k => m ≤ k) W (affV plo phi e pred l))) := fun W hW => affected_any v ve l plo phi e pred W (hv.toAvoid.below hW) (he.below hW) hl ha hel hc hvn
  have HAI : Hid (∀ x ∈ affV plo phi e pred l, x ∈ l ∧ isLo x.lo x.hi plo phi < isHi x.lo x.hi plo phi) := fun x hx => ⟨(aff_ok _ _ _ _ _ _ hx).1, aff_mid _ _ _ _ _ (aff_ok _ _ _ _ _ _ hx).2⟩
  have HVN := Lib.hid hvn
  have HVL := Lib.hid hvl
  have HF := Lib.hid hf
  obtain ⟨aff, haff⟩ : ∃ aff, aff = affV plo phi e pred l := ⟨_, rfl⟩
  have hal : aff.length ≤ 20 := by rw [haff]; unfold affV; rw [sortV_length]; exact ha
  rw [← haff] at HA HAI ⊢
  have HPL : Hid (∀ k, ((aff.take k).flatMap (partsV plo phi chg)).length ≤ 60) := fun k => by
    have h1 : ∀ m : List Ver, (m.flatMap (partsV plo phi chg)).length ≤ 3 * m.length := fun m => by
      induction m with
      | nil => simp
      | cons x m ih => rw [List.flatMap_cons, List.length_append, List.length_cons]; have := partsV_length plo phi chg x; omega
    have h2 := h1 (aff.take k)
    rw [List.length_take] at h2
    omega
  obtain ⟨n, hn⟩ : ∃ n, n = aff.length := ⟨_, rfl⟩
  have HN := Lib.hid hn
  clear hv he hc hvn haff hf hvl
  go_enter Tryz.func21, Tryz.ntmps21
  go_wp2_with fail
  refine (HA _ (below_alloc_keep (below_alloc_two w _ _))).out.mono ?_
  rintro _ w1 ⟨v1, rfl, hO1, hB1⟩
  obtain ⟨a1, c1, rfl⟩ := hO1.shape
  rw [← hn] at hal ⊢
  have hS0 : EdSt m (w.heap.size + 1 + 1) (fun k => k = w.heap.size ∨ k = w.heap.size + 1) (.slice a1 n c1) aff (.slice none 0 0) (.slice none 0 0) [] [] w1 := by
    refine ⟨by omega, hn ▸ hO1.mono (by simp), Own.nil _ _ _, Own.nil _ _ _, ?_, fun k h => (by cases h), fun k h => (by cases h), fun k hk => ⟨?_, by omega, (fun h => by cases h), (fun h => by cases h)⟩⟩
    · exact (hB1.block _ (by simp)).trans (by simpa using World.alloc_heap_new ((w.alloc (.cells #[.int .i64 plo, .int .i64 phi] 28)).alloc (.cells #[.slice none 0 0, .slice none 0 0] 42)) (.cells #[.slice none 0 0, .slice none 0 0] 42))
    · have := hB1.size; simp at this; omega
  have hp0 : w1.heap[w.heap.size]? = some (.cells #[.int .i64 plo, .int .i64 phi] 28 (0, 0)) := (hB1.block _ (by simp; omega)).trans ((Below.heap_alloc _ _ _ (by simp; omega)).trans ((Below.heap_alloc _ _ _ (by simp)).trans (World.alloc_heap_new w _)))
  have hr0 : w1.heap[w.heap.size + 1]? = some (.cells #[.slice none 0 0, .slice none 0 0] 42 (0, 0)) := (hB1.block _ (by simp)).trans ((Below.heap_alloc _ _ _ (by simp)).trans (by simpa using World.alloc_heap_new (w.alloc (.cells #[.int .i64 plo, .int .i64 phi] 28)) (.cells #[.slice none 0 0, .slice none 0 0] 42)))
  have HR0 := Lib.hid hr0
  have HS0 := Lib.hid hS0
  have HP0 := Lib.hid hp0
  have HB1 : Hid (Below w.heap.size w w1) := ((below_alloc_keep (below_alloc_two w _ _))).trans (hB1.mono (by simp; omega))
  clear hS0 hp0 hr0 hB1 hO1 hn
  go_wp2_with fail
  go_loopw [23] (fun i wr => ∃ k vc va, k ≤ n ∧ i = .int .i64 (k : Nat) ∧ EdSt m (w.heap.size + 1 + 1) (fun k => k = w.heap.size ∨ k = w.heap.size + 1) (.slice a1 n c1) aff vc va ((aff.take k).map Ver.id) ((aff.take k).flatMap (partsV plo phi chg)) wr ∧ wr.heap[w.heap.size]? = some (.cells #[.int .i64 plo, .int .i64 phi] 28 (0, 0)) ∧ wr.heap[w.heap.size + 1]? = some (.cells #[.slice none 0 0, .slice none 0 0] 42 (0, 0)) ∧ Below w.heap.size w wr) (fun i _ => n - (intOf i).toNat)
  case atStart => exact ⟨0, _, _, Nat.zero_le _, rfl, HS0.out, HP0.out, HR0.out, HB1.out⟩
  case round =>
    obtain ⟨k, vc, va, hk, rfl, hS, hp, hr, hB⟩ := hrel
    obtain ⟨wo, rfl⟩ : ∃ wo : World, wo = wr := ⟨_, rfl⟩
    by_cases hlt : k < n
    · obtain ⟨x, hx⟩ := lget_some aff k (by rw [← HN.out]; exact hlt)
      obtain ⟨b, o, a2, c2v, rfl, hvv, p0, p1, p2, p3, p4, p5⟩ := vers_at hS.af.sl hx
      have HX := Lib.hid hx
      have HVV := Lib.hid hvv
      have HXI := Lib.hid (HAI.out x (List.mem_of_getElem? hx))
      obtain ⟨xid, xvals, xlo, xhi, xrlo, xrhi⟩ := x
      dsimp only at p0 p1 p2 p3 p4 p5 HVV HXI
      obtain ⟨nv, hnv⟩ : ∃ nv, nv = xvals.length := ⟨_, rfl⟩
      rw [← hnv] at p1 HVV
      have HNV := Lib.hid hnv
      obtain ⟨clk, hclk⟩ : ∃ clk, clk = (aff.take k).map Ver.id := ⟨_, rfl⟩
      obtain ⟨adk, hadk⟩ : ∃ adk, adk = (aff.take k).flatMap (partsV plo phi chg) := ⟨_, rfl⟩
      rw [← hclk, ← hadk] at hS
      have hcll : clk.length ≤ 20 := by rw [hclk, List.length_map, List.length_take]; omega
      have hadl : adk.length ≤ 60 := by rw [hadk]; exact HPL.out k
      have HCLK := Lib.hid hclk
      have HADK := Lib.hid hadk
      have HS1 := Lib.hid (hS.box (.cells #[.int .i64 xid, .slice a2 nv c2v, .int .i64 xlo, .int .i64 xhi, .int .i64 xrlo, .int .i64 xrhi] 64))
      have HP := Lib.hid hp
      have HR := Lib.hid hr
      have HB := Lib.hid hB
      obtain ⟨ac, cc, rfl⟩ := hS.cl.shape
      obtain ⟨aa, ca, rfl⟩ := hS.ad.shape
      have hgd := hS.gdlt
      have hzo := hB.size
      have hd2 : (wo.alloc (.cells #[.int .i64 xid, .slice a2 nv c2v, .int .i64 xlo, .int .i64 xhi, .int .i64 xrlo, .int .i64 xrhi] 64)).heap[w.heap.size + 1 + 1]? = some (.cells #[.slice ac clk.length cc, .slice aa adk.length ca] 42 (0, 0)) := (Below.heap_alloc _ _ _ hgd).trans hS.d
      have HD2 := Lib.hid hd2
      have e0 : (wo.alloc (.cells #[.int .i64 xid, .slice a2 nv c2v, .int .i64 xlo, .int .i64 xhi, .int .i64 xrlo, .int .i64 xrhi] 64)).cell? ⟨w.heap.size + 1 + 1, 0, none⟩ = some (.slice ac clk.length cc) := cell_of ((Below.heap_alloc _ _ _ hgd).trans hS.d) rfl
      have hne : some (w.heap.size + 1 + 1) ≠ (Value.slice ac clk.length cc).ownBlock := fun h => by have := (hS.cl.lt _ h.symm).1; omega
      have HC2 := Lib.hid (hS.cl.below (below_alloc wo (.cells #[.int .i64 xid, .slice a2 nv c2v, .int .i64 xlo, .int .i64 xhi, .int .i64 xrlo, .int .i64 xrhi] 64)))
      have HVB := Lib.hid (World.alloc_heap_new wo (.cells #[.int .i64 xid, .slice a2 nv c2v, .int .i64 xlo, .int .i64 xhi, .int .i64 xrlo, .int .i64 xrhi] 64))
      have HPB := Lib.hid ((Below.heap_alloc wo (.cells #[.int .i64 xid, .slice a2 nv c2v, .int .i64 xlo, .int .i64 xhi, .int .i64 xrlo, .int .i64 xrhi] 64) _ (by omega)).trans HP.out)
      have HRB := Lib.hid ((Below.heap_alloc wo (.cells #[.int .i64 xid, .slice a2 nv c2v, .int .i64 xlo, .int .i64 xhi, .int .i64 xrlo, .int .i64 xrhi] 64) _ (by omega)).trans HR.out)
      clear hx hvv hnv hclk hadk hS hp hr hB hd2
      go_wp2_with (at_builtin; refine wpList_push rfl (.tmp 28) (.tmp 31) 33 rfl intE Tryz.underlying33 (w.heap.size + 1 + 1 + 1) (.slice ac clk.length cc) clk rfl HC2.out [xid] #[.int .i64 xid] (Els.one rfl) 1 1 rfl (show Value.slice (some ⟨wo.heap.size + 1, 0, none⟩) 1 1 = .slice (some ⟨(wo.alloc (.cells #[.int .i64 xid, .slice a2 nv c2v, .int .i64 xlo, .int .i64 xhi, .int .i64 xrlo, .int .i64 xrhi] 64)).heap.size, 0, none⟩) 1 1 by simp) (by decide) (by unfold maxLen; omega) (by show _ * 8 ≤ _; omega) (by simp; omega) ?_; intro g cap w5 hP hPa; have hd5 := hP.block hne HD2.out; obtain ⟨k0, k1, k2, k3⟩ := box_two hd5; obtain ⟨hS6, hF6, hB6⟩ := HS1.out.closed (Below.refl _ _) hP (show (clk ++ [xid]).length = clk.length + 1 by simp); have hv6 := (hF6 _ (.inr rfl)).trans HVB.out; have hp6 := (hF6 _ (.inl (.inl rfl))).trans HPB.out; have hr6 := (hF6 _ (.inl (.inr rfl))).trans HRB.out; have x1 := cell_of (k := 1) hv6 rfl; have x2 := cell_of (k := 2) hv6 rfl; have x3 := cell_of (k := 3) hv6 rfl; have y0 := cell_of (k := 0) hp6 rfl; have y1 := cell_of (k := 1) hp6 rfl)
      refine (isect_any xlo xhi plo phi _).mono ?_
      rintro _ w7 ⟨rfl, hb7⟩
      have HMID := HXI.out.2
      obtain ⟨mlo, hmlo⟩ : ∃ q, q = isLo xlo xhi plo phi := ⟨_, rfl⟩
      obtain ⟨mhi, hmhi⟩ : ∃ q, q = isHi xlo xhi plo phi := ⟨_, rfl⟩
      rw [← hmlo, ← hmhi] at HMID ⊢
      have hS7 := (hS6.below hb7).box (.cells #[.int .i64 mlo, .int .i64 mhi] 28)
      have hv7 := (Below.heap_alloc w7 (.cells #[.int .i64 mlo, .int .i64 mhi] 28) _ (Nat.lt_of_lt_of_le (hS6.bx _ (.inr rfl)).1 hb7.size)).trans ((hb7.block _ (hS6.bx _ (.inr rfl)).1).trans hv6)
      have hp7 := (Below.heap_alloc w7 (.cells #[.int .i64 mlo, .int .i64 mhi] 28) _ (Nat.lt_of_lt_of_le (hS6.bx _ (.inl (.inl rfl))).1 hb7.size)).trans ((hb7.block _ (hS6.bx _ (.inl (.inl rfl))).1).trans hp6)
      have hr7 := (Below.heap_alloc w7 (.cells #[.int .i64 mlo, .int .i64 mhi] 28) _ (Nat.lt_of_lt_of_le (hS6.bx _ (.inl (.inr rfl))).1 hb7.size)).trans ((hb7.block _ (hS6.bx _ (.inl (.inr rfl))).1).trans hr6)
      have hc7 := World.alloc_heap_new w7 (.cells #[.int .i64 mlo, .int .i64 mhi] 28)
      have hB7 : Below w.heap.size wo (w7.alloc (.cells #[.int .i64 mlo, .int .i64 mhi] 28)) := Below.alloc (((below_alloc_from wo _ hzo)).trans ((hB6.mono (by omega)).trans (hb7.mono (Nat.le_trans (by simp; omega) hB6.size)))) (Nat.le_trans hzo (Nat.le_trans (by simp) (Nat.le_trans hB6.size hb7.size))) _
      have HMLO := Lib.hid hmlo
      have HMHI := Lib.hid hmhi
      have HS7 := Lib.hid hS7
      have HV7 := Lib.hid hv7
      have HP7 := Lib.hid hp7
      have HR7 := Lib.hid hr7
      have HC7 := Lib.hid hc7
      have HB7 := Lib.hid hB7
      clear hP hPa hd5 k0 k1 k2 k3 hS6 hF6 hB6 hv6 hp6 x1 x2 x3 y0 y1 hS7 hv7 hp7 hr7 hr6 hc7 hB7 hb7 hmlo hmhi
      have HCLN : ∀ W, Below w.heap.size wo W → Hid (Calls Tryz.prog 23 #[.slice a2 nv c2v] W (RetOwn valE W xvals)) := fun W hW => cloneVals_own _ xvals W (sl_old HVV.out (hW.mono hm)).free (HVL.out _ HXI.out.1)
      have HS7d := Lib.hid (HS7.out.below (Below.refl _ _).drew)
      have x0 : (w7.alloc (.cells #[.int .i64 mlo, .int .i64 mhi] 28)).cell? ⟨wo.heap.size, 0, none⟩ = some (.int .i64 xid) := cell_of HV7.out rfl
      have x1 : (w7.alloc (.cells #[.int .i64 mlo, .int .i64 mhi] 28)).cell? ⟨wo.heap.size, 1, none⟩ = some (.slice a2 nv c2v) := cell_of HV7.out rfl
      have x2 : (w7.alloc (.cells #[.int .i64 mlo, .int .i64 mhi] 28)).cell? ⟨wo.heap.size, 2, none⟩ = some (.int .i64 xlo) := cell_of HV7.out rfl
      have x3 : (w7.alloc (.cells #[.int .i64 mlo, .int .i64 mhi] 28)).cell? ⟨wo.heap.size, 3, none⟩ = some (.int .i64 xhi) := cell_of HV7.out rfl
      have y0 : (w7.alloc (.cells #[.int .i64 mlo, .int .i64 mhi] 28)).cell? ⟨w7.heap.size, 0, none⟩ = some (.int .i64 mlo) := cell_of HC7.out rfl
      have y1 : (w7.alloc (.cells #[.int .i64 mlo, .int .i64 mhi] 28)).cell? ⟨w7.heap.size, 1, none⟩ = some (.int .i64 mhi) := cell_of HC7.out rfl
      have hB7 := HB7.out
      have hp7 := HP7.out
      have hr7 := HR7.out
      go_wp2_with fail
      go_region_held3 (fun W => Below w.heap.size wo W ∧ W.cell? ⟨wo.heap.size, 0, none⟩ = some (.int .i64 xid) ∧ W.cell? ⟨wo.heap.size, 1, none⟩ = some (.slice a2 nv c2v) ∧ W.cell? ⟨wo.heap.size, 2, none⟩ = some (.int .i64 xlo) ∧ W.cell? ⟨wo.heap.size, 3, none⟩ = some (.int .i64 xhi) ∧ W.cell? ⟨w7.heap.size, 0, none⟩ = some (.int .i64 mlo) ∧ W.cell? ⟨w7.heap.size, 1, none⟩ = some (.int .i64 mhi) ∧ W.heap[w.heap.size]? = some (.cells #[.int .i64 plo, .int .i64 phi] 28 (0, 0)) ∧ W.heap[w.heap.size + 1]? = some (.cells #[.slice none 0 0, .slice none 0 0] 42 (0, 0)))
        ((go_split_ands; refine ⟨?_, ?_, ?_, ?_, ?_, ?_, ?_, ?_, ?_⟩ <;> first | (with_reducible assumption) | with_reducible exact Below.drew (by assumption) | with_reducible exact cell_drew (by assumption) | with_reducible exact heap_drew (by assumption) | with_reducible exact below_tr3 (by assumption) (by assumption) (by assumption) | with_reducible exact cell_keep (by assumption) (by assumption) | with_reducible exact box_kept (by assumption) (by assumption)))
        (first
          | (go_at_call 23; go_split_ands; refine (HCLN _ (by first | assumption | exact Below.drew (by assumption))).out.mono ?_; rintro e' wCa ⟨vCa, rfl, hOCa, hbCa⟩)
          | (go_at_call 37; go_split_ands; refine (HS7d.out.add hbCa hOCa _ _ xid wo.heap.size (by assumption) (by first | omega | exact hlla.out)).mono ?_; rintro e' w8a ⟨rfl, vaa, hS8a, hF8a, hB8a⟩; have qba := Below.trans (show Below w.heap.size wo _ by assumption) (hB8a.mono (show w.heap.size ≤ w.heap.size + 1 + 1 by omega)); have r0a := cell_same (hF8a _ (.inl (.inr rfl))) (show World.cell? _ ⟨wo.heap.size, 0, none⟩ = _ by assumption); have r1a := cell_same (hF8a _ (.inl (.inr rfl))) (show World.cell? _ ⟨wo.heap.size, 1, none⟩ = _ by assumption); have r2a := cell_same (hF8a _ (.inl (.inr rfl))) (show World.cell? _ ⟨wo.heap.size, 2, none⟩ = _ by assumption); have r3a := cell_same (hF8a _ (.inl (.inr rfl))) (show World.cell? _ ⟨wo.heap.size, 3, none⟩ = _ by assumption); have r4a := cell_same (hF8a _ (.inr rfl)) (show World.cell? _ ⟨w7.heap.size, 0, none⟩ = _ by assumption); have r5a := cell_same (hF8a _ (.inr rfl)) (show World.cell? _ ⟨w7.heap.size, 1, none⟩ = _ by assumption); have r6a := (hF8a _ (.inl (.inl (.inl rfl)))).trans (show _[w.heap.size]? = some (.cells #[.int .i64 plo, .int .i64 phi] 28 (0, 0)) by assumption); have r7a := (hF8a _ (.inl (.inl (.inr rfl)))).trans (show _[w.heap.size + 1]? = some (.cells #[.slice none 0 0, .slice none 0 0] 42 (0, 0)) by assumption)))
      have HS8a := Lib.hid (hS8a.below (Below.refl _ _).drew)
      clear hS8a hF8a hB8a hOCa hbCa
      have hlla : Hid ((adk ++ (if xlo < mlo then [(⟨xvals, xlo, mlo, [xid]⟩ : Tup)] else [])).length ≤ 1000) := by show _ ≤ _; rw [List.length_append]; have l1 := if_len (c := xlo < mlo) ⟨xvals, xlo, mlo, [xid]⟩; omega
      cases chg with
      | none =>
        have hfn : fv = .nilFunc := HF.out
        subst hfn
        have hq := nil_neq
        go_wp2_with fail
        go_region_held3 (fun W => Below w.heap.size wo W ∧ W.cell? ⟨wo.heap.size, 0, none⟩ = some (.int .i64 xid) ∧ W.cell? ⟨wo.heap.size, 1, none⟩ = some (.slice a2 nv c2v) ∧ W.cell? ⟨wo.heap.size, 2, none⟩ = some (.int .i64 xlo) ∧ W.cell? ⟨wo.heap.size, 3, none⟩ = some (.int .i64 xhi) ∧ W.cell? ⟨w7.heap.size, 0, none⟩ = some (.int .i64 mlo) ∧ W.cell? ⟨w7.heap.size, 1, none⟩ = some (.int .i64 mhi) ∧ W.heap[w.heap.size]? = some (.cells #[.int .i64 plo, .int .i64 phi] 28 (0, 0)) ∧ W.heap[w.heap.size + 1]? = some (.cells #[.slice none 0 0, .slice none 0 0] 42 (0, 0)))
          ((go_split_ands; refine ⟨?_, ?_, ?_, ?_, ?_, ?_, ?_, ?_, ?_⟩ <;> first | (with_reducible assumption) | with_reducible exact Below.drew (by assumption) | with_reducible exact cell_drew (by assumption) | with_reducible exact heap_drew (by assumption) | with_reducible exact below_tr3 (by assumption) (by assumption) (by assumption) | with_reducible exact cell_keep (by assumption) (by assumption) | with_reducible exact box_kept (by assumption) (by assumption)))
          (first
            | (go_at_call 23; go_split_ands; refine (HCLN _ (by first | assumption | exact Below.drew (by assumption))).out.mono ?_; rintro e' wCb ⟨vCb, rfl, hOCb, hbCb⟩)
            | (go_at_call 37; go_split_ands; refine (HS8a.out.add hbCb hOCb _ _ xid wo.heap.size (by assumption) (by first | omega | exact hlla.out)).mono ?_; rintro e' w8b ⟨rfl, vab, hS8b, hF8b, hB8b⟩; have qbb := Below.trans (show Below w.heap.size wo _ by assumption) (hB8b.mono (show w.heap.size ≤ w.heap.size + 1 + 1 by omega)); have r0b := cell_same (hF8b _ (.inl (.inr rfl))) (show World.cell? _ ⟨wo.heap.size, 0, none⟩ = _ by assumption); have r1b := cell_same (hF8b _ (.inl (.inr rfl))) (show World.cell? _ ⟨wo.heap.size, 1, none⟩ = _ by assumption); have r2b := cell_same (hF8b _ (.inl (.inr rfl))) (show World.cell? _ ⟨wo.heap.size, 2, none⟩ = _ by assumption); have r3b := cell_same (hF8b _ (.inl (.inr rfl))) (show World.cell? _ ⟨wo.heap.size, 3, none⟩ = _ by assumption); have r4b := cell_same (hF8b _ (.inr rfl)) (show World.cell? _ ⟨w7.heap.size, 0, none⟩ = _ by assumption); have r5b := cell_same (hF8b _ (.inr rfl)) (show World.cell? _ ⟨w7.heap.size, 1, none⟩ = _ by assumption); have r6b := (hF8b _ (.inl (.inl (.inl rfl)))).trans (show _[w.heap.size]? = some (.cells #[.int .i64 plo, .int .i64 phi] 28 (0, 0)) by assumption); have r7b := (hF8b _ (.inl (.inl (.inr rfl)))).trans (show _[w.heap.size + 1]? = some (.cells #[.slice none 0 0, .slice none 0 0] 42 (0, 0)) by assumption)))
        clear hF8b hB8b hOCb hbCb
        go_wp2_with fail
        go_roundw
        case rel =>
          refine ⟨k + 1, .slice (some ⟨g, 0, none⟩) (clk.length + 1) cap, vab, by omega, by go_num, ?_, r6b, r7b, HB.out.trans (qbb.mono (Nat.le_refl _))⟩
          have h := (hS8b).mono (F' := fun k => k = w.heap.size ∨ k = w.heap.size + 1) (fun k hk => .inl (.inl hk))
          rw [show (aff.take (k + 1)).map Ver.id = clk ++ [xid] by rw [take_get HX.out, List.map_append, HCLK.out]; rfl, show (aff.take (k + 1)).flatMap (partsV plo phi none) = adk ++ (if xlo < mlo then [(⟨xvals, xlo, mlo, [xid]⟩ : Tup)] else []) ++ (if mhi < xhi then [(⟨xvals, mhi, xhi, [xid]⟩ : Tup)] else []) by rw [take_get HX.out, List.flatMap_append, List.flatMap_cons, List.flatMap_nil, List.append_nil, ← HADK.out, partsV, partL, partM, partR]; dsimp only; rw [← HMLO.out, ← HMHI.out]; simp only [List.append_assoc, List.append_nil]]
          exact h
        case measure => simp [intOf]; omega
      | some f =>
        obtain ⟨g1, g2, hfn, hupd⟩ := HF.out
        subst hfn
        have HUPD : ∀ W, Below w.heap.size wo W → Hid (Calls Tryz.prog 22 #[.slice a2 nv c2v, .pointer (some ⟨g1, 0, none⟩), .pointer (some ⟨g2, 0, none⟩)] W (RetOwn valE W (f xvals))) := fun W hW => hupd W _ xvals (HB.out.trans hW) (sl_old HVV.out (hW.mono hm)).free (HVL.out _ HXI.out.1) (HVN.out _ HXI.out.1)
        clear hupd
        have hq := fun_neq (.func 22) #[] #[.pointer (some ⟨g1, 0, none⟩), .pointer (some ⟨g2, 0, none⟩)]
        go_wp2_with fail
        go_region_held3 (fun W => Below w.heap.size wo W ∧ W.cell? ⟨wo.heap.size, 0, none⟩ = some (.int .i64 xid) ∧ W.cell? ⟨wo.heap.size, 1, none⟩ = some (.slice a2 nv c2v) ∧ W.cell? ⟨wo.heap.size, 2, none⟩ = some (.int .i64 xlo) ∧ W.cell? ⟨wo.heap.size, 3, none⟩ = some (.int .i64 xhi) ∧ W.cell? ⟨w7.heap.size, 0, none⟩ = some (.int .i64 mlo) ∧ W.cell? ⟨w7.heap.size, 1, none⟩ = some (.int .i64 mhi) ∧ W.heap[w.heap.size]? = some (.cells #[.int .i64 plo, .int .i64 phi] 28 (0, 0)) ∧ W.heap[w.heap.size + 1]? = some (.cells #[.slice none 0 0, .slice none 0 0] 42 (0, 0)))
          ((go_split_ands; refine ⟨?_, ?_, ?_, ?_, ?_, ?_, ?_, ?_, ?_⟩ <;> first | (with_reducible assumption) | with_reducible exact Below.drew (by assumption) | with_reducible exact cell_drew (by assumption) | with_reducible exact heap_drew (by assumption) | with_reducible exact below_tr3 (by assumption) (by assumption) (by assumption) | with_reducible exact cell_keep (by assumption) (by assumption) | with_reducible exact box_kept (by assumption) (by assumption)))
          (first
            | (go_at_call 22; go_split_ands; refine (HUPD _ (by first | assumption | exact Below.drew (by assumption))).out.mono ?_; rintro e' wCb ⟨vCb, rfl, hOCb, hbCb⟩)
            | (go_at_call 37; go_split_ands; refine (HS8a.out.add hbCb hOCb _ _ xid wo.heap.size (by assumption) (by first | omega | exact hlla.out)).mono ?_; rintro e' w8b ⟨rfl, vab, hS8b, hF8b, hB8b⟩; have qbb := Below.trans (show Below w.heap.size wo _ by assumption) (hB8b.mono (show w.heap.size ≤ w.heap.size + 1 + 1 by omega)); have r0b := cell_same (hF8b _ (.inl (.inr rfl))) (show World.cell? _ ⟨wo.heap.size, 0, none⟩ = _ by assumption); have r1b := cell_same (hF8b _ (.inl (.inr rfl))) (show World.cell? _ ⟨wo.heap.size, 1, none⟩ = _ by assumption); have r2b := cell_same (hF8b _ (.inl (.inr rfl))) (show World.cell? _ ⟨wo.heap.size, 2, none⟩ = _ by assumption); have r3b := cell_same (hF8b _ (.inl (.inr rfl))) (show World.cell? _ ⟨wo.heap.size, 3, none⟩ = _ by assumption); have r4b := cell_same (hF8b _ (.inr rfl)) (show World.cell? _ ⟨w7.heap.size, 0, none⟩ = _ by assumption); have r5b := cell_same (hF8b _ (.inr rfl)) (show World.cell? _ ⟨w7.heap.size, 1, none⟩ = _ by assumption); have r6b := (hF8b _ (.inl (.inl (.inl rfl)))).trans (show _[w.heap.size]? = some (.cells #[.int .i64 plo, .int .i64 phi] 28 (0, 0)) by assumption); have r7b := (hF8b _ (.inl (.inl (.inr rfl)))).trans (show _[w.heap.size + 1]? = some (.cells #[.slice none 0 0, .slice none 0 0] 42 (0, 0)) by assumption)))
        have HS8b := Lib.hid (hS8b.below (Below.refl _ _).drew)
        clear hS8b hF8b hB8b hOCb hbCb
        have hllb : Hid ((adk ++ (if xlo < mlo then [(⟨xvals, xlo, mlo, [xid]⟩ : Tup)] else []) ++ (if mlo < mhi then [(⟨f xvals, mlo, mhi, [xid]⟩ : Tup)] else [])).length ≤ 1000) := by show _ ≤ _; rw [List.length_append, List.length_append]; have l1 := if_len (c := xlo < mlo) ⟨xvals, xlo, mlo, [xid]⟩; have l2 := if_len (c := mlo < mhi) ⟨f xvals, mlo, mhi, [xid]⟩; omega
        go_wp2_with fail
        go_region_held3 (fun W => Below w.heap.size wo W ∧ W.cell? ⟨wo.heap.size, 0, none⟩ = some (.int .i64 xid) ∧ W.cell? ⟨wo.heap.size, 1, none⟩ = some (.slice a2 nv c2v) ∧ W.cell? ⟨wo.heap.size, 2, none⟩ = some (.int .i64 xlo) ∧ W.cell? ⟨wo.heap.size, 3, none⟩ = some (.int .i64 xhi) ∧ W.cell? ⟨w7.heap.size, 0, none⟩ = some (.int .i64 mlo) ∧ W.cell? ⟨w7.heap.size, 1, none⟩ = some (.int .i64 mhi) ∧ W.heap[w.heap.size]? = some (.cells #[.int .i64 plo, .int .i64 phi] 28 (0, 0)) ∧ W.heap[w.heap.size + 1]? = some (.cells #[.slice none 0 0, .slice none 0 0] 42 (0, 0)))
          ((go_split_ands; refine ⟨?_, ?_, ?_, ?_, ?_, ?_, ?_, ?_, ?_⟩ <;> first | (with_reducible assumption) | with_reducible exact Below.drew (by assumption) | with_reducible exact cell_drew (by assumption) | with_reducible exact heap_drew (by assumption) | with_reducible exact below_tr3 (by assumption) (by assumption) (by assumption) | with_reducible exact cell_keep (by assumption) (by assumption) | with_reducible exact box_kept (by assumption) (by assumption)))
          (first
            | (go_at_call 23; go_split_ands; refine (HCLN _ (by first | assumption | exact Below.drew (by assumption))).out.mono ?_; rintro e' wCc ⟨vCc, rfl, hOCc, hbCc⟩)
            | (go_at_call 37; go_split_ands; refine (HS8b.out.add hbCc hOCc _ _ xid wo.heap.size (by assumption) (by first | omega | exact hllb.out)).mono ?_; rintro e' w8c ⟨rfl, vac, hS8c, hF8c, hB8c⟩; have qbc := Below.trans (show Below w.heap.size wo _ by assumption) (hB8c.mono (show w.heap.size ≤ w.heap.size + 1 + 1 by omega)); have r0c := cell_same (hF8c _ (.inl (.inr rfl))) (show World.cell? _ ⟨wo.heap.size, 0, none⟩ = _ by assumption); have r1c := cell_same (hF8c _ (.inl (.inr rfl))) (show World.cell? _ ⟨wo.heap.size, 1, none⟩ = _ by assumption); have r2c := cell_same (hF8c _ (.inl (.inr rfl))) (show World.cell? _ ⟨wo.heap.size, 2, none⟩ = _ by assumption); have r3c := cell_same (hF8c _ (.inl (.inr rfl))) (show World.cell? _ ⟨wo.heap.size, 3, none⟩ = _ by assumption); have r4c := cell_same (hF8c _ (.inr rfl)) (show World.cell? _ ⟨w7.heap.size, 0, none⟩ = _ by assumption); have r5c := cell_same (hF8c _ (.inr rfl)) (show World.cell? _ ⟨w7.heap.size, 1, none⟩ = _ by assumption); have r6c := (hF8c _ (.inl (.inl (.inl rfl)))).trans (show _[w.heap.size]? = some (.cells #[.int .i64 plo, .int .i64 phi] 28 (0, 0)) by assumption); have r7c := (hF8c _ (.inl (.inl (.inr rfl)))).trans (show _[w.heap.size + 1]? = some (.cells #[.slice none 0 0, .slice none 0 0] 42 (0, 0)) by assumption)))
        clear hF8c hB8c hOCc hbCc
        go_wp2_with fail
        go_roundw
        case rel =>
          refine ⟨k + 1, .slice (some ⟨g, 0, none⟩) (clk.length + 1) cap, vac, by omega, by go_num, ?_, r6c, r7c, HB.out.trans (qbc.mono (Nat.le_refl _))⟩
          have h := (hS8c).mono (F' := fun k => k = w.heap.size ∨ k = w.heap.size + 1) (fun k hk => .inl (.inl hk))
          rw [show (aff.take (k + 1)).map Ver.id = clk ++ [xid] by rw [take_get HX.out, List.map_append, HCLK.out]; rfl, show (aff.take (k + 1)).flatMap (partsV plo phi (some f)) = adk ++ (if xlo < mlo then [(⟨xvals, xlo, mlo, [xid]⟩ : Tup)] else []) ++ (if mlo < mhi then [(⟨f xvals, mlo, mhi, [xid]⟩ : Tup)] else []) ++ (if mhi < xhi then [(⟨xvals, mhi, xhi, [xid]⟩ : Tup)] else []) by rw [take_get HX.out, List.flatMap_append, List.flatMap_cons, List.flatMap_nil, List.append_nil, ← HADK.out, partsV, partL, partM, partR]; dsimp only; rw [← HMLO.out, ← HMHI.out]; simp only [List.append_assoc]]
          exact h
        case measure => simp [intOf]; omega
    · have hF : aff.take k = aff := by rw [List.take_of_length_le (by rw [← HN.out]; omega)]
      rw [hF] at hS
      obtain ⟨clk, hclk⟩ : ∃ clk, clk = aff.map Ver.id := ⟨_, rfl⟩
      obtain ⟨adk, hadk⟩ : ∃ adk, adk = aff.flatMap (partsV plo phi chg) := ⟨_, rfl⟩
      rw [← hclk, ← hadk] at hS ⊢
      obtain ⟨ac, cc, rfl⟩ := hS.cl.shape
      obtain ⟨aa, ca, rfl⟩ := hS.ad.shape
      have HS := Lib.hid hS
      have HB := Lib.hid hB
      have d0 := cell_of (k := 0) hS.d rfl
      have d1 := cell_of (k := 1) hS.d rfl
      obtain ⟨r0, r1, f0, f1⟩ := box_two hr
      have hgd := hS.gdlt
      have HCF := Lib.hid hclk
      have HAF := Lib.hid hadk
      clear hS hB hp hclk hadk
      go_wp2_with fail
      refine bodyPost_ret (v := .agg #[.slice ac clk.length cc, .slice aa adk.length ca]) (by simp [results, Tryz.results21, go_sem, r0, r1]) rfl ⟨_, _, rfl, ?_, ?_, (HB.out.setCell (by simp) _).setCell (by simp) _⟩
      · rw [← HCF.out]
        have a1 : Own (intE.avoid fun k => k = w.heap.size + 1) ((wo.setCell ⟨w.heap.size + 1, 0, none⟩ (.slice ac clk.length cc)).setCell ⟨w.heap.size + 1, 1, none⟩ (.slice aa adk.length ca)) (w.heap.size + 1 + 1 + 1) (.slice ac clk.length cc) clk := (show Own (intE.avoid fun k => k = w.heap.size + 1) wo (w.heap.size + 1 + 1 + 1) (.slice ac clk.length cc) clk from HS.out.cl).shift (D' := fun k => k = w.heap.size + 1) (K := fun k => k = w.heap.size + 1) ((kept_set (G := fun k => k = w.heap.size + 1) (q := ⟨w.heap.size + 1, 0, none⟩) rfl).trans (kept_set (G := fun k => k = w.heap.size + 1) (q := ⟨w.heap.size + 1, 1, none⟩) rfl)) (fun k _ e => e) (fun k e e' => by have := (HS.out.cl.lt _ e).1; omega) (fun k _ e => .inl e)
        exact (show Own (intE.avoid fun k => m ≤ k ∧ k < w.heap.size) _ _ _ _ from a1.forget).slAvoid (fun k h => h) (fun k h => by omega)
      · rw [← HAF.out]
        exact (HS.out.ad.shift (D' := fun k => m ≤ k ∧ k < w.heap.size) (K := fun k => k = w.heap.size + 1) ((kept_set (G := fun k => k = w.heap.size + 1) (q := ⟨w.heap.size + 1, 0, none⟩) rfl).trans (kept_set (G := fun k => k = w.heap.size + 1) (q := ⟨w.heap.size + 1, 1, none⟩) rfl)) (fun k _ e => .inl ⟨by omega, by omega⟩) (fun k e e' => by have := (HS.out.ad.lt _ e).1; omega) (fun k _ e => .inl (.inl ⟨e.1, by omega⟩))).slAvoid (fun k h => h) (fun k h => by omega)
end Go.Proofs.YtfmbbfidjcgeiaaGreat

namespace Go.Proofs.YtfmbbfidjcgeiaaGreat
open Go.RowKit Go.Lib Go.Shelf

/-- What an edit returns. -/
def RetD (w : World) (cl : List Int) (ad : List Tup) : Ending → World → Prop := fun e w' => ∃ vc va, e = .returned (.agg #[vc, va]) ∧ Sl intE w' free vc cl ∧ Tups w' va ad ∧ Below w.heap.size w w'
theorem heap_three (w : World) (a b c : Obj) : (((w.alloc a).alloc b).alloc c).heap[w.heap.size]? = some a ∧ (((w.alloc a).alloc b).alloc c).heap[w.heap.size + 1]? = some b ∧ (((w.alloc a).alloc b).alloc c).heap[w.heap.size + 1 + 1]? = some c := by
  refine ⟨?_, ?_, ?_⟩
  · exact (Below.heap_alloc _ _ _ (by simp; omega)).trans ((Below.heap_alloc _ _ _ (by simp)).trans (World.alloc_heap_new w a))
  · exact (Below.heap_alloc _ _ _ (by simp)).trans (by simpa using World.alloc_heap_new (w.alloc a) b)
  · simpa using World.alloc_heap_new ((w.alloc a).alloc b) c
theorem heap_four (w : World) (a b c d : Obj) : ((((w.alloc a).alloc b).alloc c).alloc d).heap[w.heap.size]? = some a ∧ ((((w.alloc a).alloc b).alloc c).alloc d).heap[w.heap.size + 1]? = some b ∧ ((((w.alloc a).alloc b).alloc c).alloc d).heap[w.heap.size + 1 + 1]? = some c ∧ ((((w.alloc a).alloc b).alloc c).alloc d).heap[w.heap.size + 1 + 1 + 1]? = some d := by
  obtain ⟨h1, h2, h3⟩ := heap_three w a b c
  refine ⟨(Below.heap_alloc _ _ _ (by simp; omega)).trans h1, (Below.heap_alloc _ _ _ (by (simp; try omega))).trans h2, (Below.heap_alloc _ _ _ (by simp)).trans h3, by simpa using World.alloc_heap_new (((w.alloc a).alloc b).alloc c) d⟩
theorem heap_two (w : World) (a b : Obj) : ((w.alloc a).alloc b).heap[w.heap.size]? = some a ∧ ((w.alloc a).alloc b).heap[w.heap.size + 1]? = some b :=
  ⟨(Below.heap_alloc _ _ _ (by simp)).trans (World.alloc_heap_new w a), by simpa using World.alloc_heap_new (w.alloc a) b⟩
set_option maxHeartbeats 2000000 in
set_option maxRecDepth 100000 in
theorem del_g (v ve : Value) (l : List Ver) (plo phi : Int) (e : List GExp) (pred : Int) (m : Nat) (w : World) (hm : m ≤ w.heap.size) (hv : Sl verE w (fun k => m ≤ k) v l) (he : Sl expE w free ve e) (hl : l.length ≤ 1000) (ha : (l.filter (keepV plo phi e pred)).length ≤ 20) (hel : e.length ≤ 1000) (hc : ∀ x ∈ e, In64 x.c.n) (hvn : ∀ x ∈ l, ∀ g ∈ x.vals, In64 g.n) (hvl : ∀ x ∈ l, x.vals.length ≤ 1000) :
    Calls Tryz.prog 10 #[v, .agg #[.int .i64 plo, .int .i64 phi], ve, .int .i64 pred] w (RetDelta m w ((affV plo phi e pred l).map Ver.id) ((affV plo phi e pred l).flatMap (partsV plo phi none))) := by
  have hW : Below w.heap.size w ((w.alloc (.cells #[.int .i64 plo, .int .i64 phi] 28)).alloc (.cells #[.slice none 0 0, .slice none 0 0] 42)) := below_alloc_two w _ _
  have HE : Hid (Calls Tryz.prog 21 #[v, .agg #[.int .i64 plo, .int .i64 phi], ve, .int .i64 pred, .nilFunc] ((w.alloc (.cells #[.int .i64 plo, .int .i64 phi] 28)).alloc (.cells #[.slice none 0 0, .slice none 0 0] 42)) (RetDelta m ((w.alloc (.cells #[.int .i64 plo, .int .i64 phi] 28)).alloc (.cells #[.slice none 0 0, .slice none 0 0] 42)) ((affV plo phi e pred l).map Ver.id) ((affV plo phi e pred l).flatMap (partsV plo phi none)))) := edit_any v _ _ l plo phi e pred _ m ((w.alloc (.cells #[.int .i64 plo, .int .i64 phi] 28)).alloc (.cells #[.slice none 0 0, .slice none 0 0] 42)) (Nat.le_trans hm hW.size) (hv.below hW) (he.below hW) hl ha hel hc hvn hvl rfl

  have HR : ((w.alloc (.cells #[.int .i64 plo, .int .i64 phi] 28)).alloc (.cells #[.slice none 0 0, .slice none 0 0] 42)).heap[w.heap.size + 1]? = some (.cells #[.slice none 0 0, .slice none 0 0] 42) ∧ w.heap.size + 1 < ((w.alloc (.cells #[.int .i64 plo, .int .i64 phi] 28)).alloc (.cells #[.slice none 0 0, .slice none 0 0] 42)).heap.size := ⟨(heap_two w _ _).2, by simp⟩
  generalize (affV plo phi e pred l).map Ver.id = cl at HE ⊢
  generalize (affV plo phi e pred l).flatMap (partsV plo phi none) = ad at HE ⊢
  have HW := hW
  clear hv he hc hvn hvl hW
  go_enter Tryz.func10, Tryz.ntmps10
  go_wp2_with fail
  refine HE.out.mono ?_
  rintro _ w2 ⟨vc, va, rfl, h1, h2, hb⟩
  obtain ⟨a1, c1, rfl⟩ := h1.shape
  obtain ⟨a2, c2, rfl⟩ := h2.shape
  have hr := (hb.block (w.heap.size + 1) HR.2).trans HR.1
  obtain ⟨r0, r1, f0, f1⟩ := box_two hr
  have H1 := Lib.hid h1
  have H2 := Lib.hid h2
  have HB : Hid (Below w.heap.size w w2) := HW.trans (hb.mono HW.size)
  have hK : Kept (fun k => m ≤ k ∧ k < ((w.alloc (.cells #[.int .i64 plo, .int .i64 phi] 28)).alloc (.cells #[.slice none 0 0, .slice none 0 0] 42)).heap.size) w2 ((w2.setCell ⟨w.heap.size + 1, 0, none⟩ (.slice a1 cl.length c1)).setCell ⟨w.heap.size + 1, 1, none⟩ (.slice a2 ad.length c2)) :=
    (kept_set (G := fun k => m ≤ k ∧ k < ((w.alloc (.cells #[.int .i64 plo, .int .i64 phi] 28)).alloc (.cells #[.slice none 0 0, .slice none 0 0] 42)).heap.size) (q := ⟨w.heap.size + 1, 0, none⟩) ⟨by show m ≤ w.heap.size + 1; omega, HR.2⟩).trans (kept_set (G := fun k => m ≤ k ∧ k < ((w.alloc (.cells #[.int .i64 plo, .int .i64 phi] 28)).alloc (.cells #[.slice none 0 0, .slice none 0 0] 42)).heap.size) (q := ⟨w.heap.size + 1, 1, none⟩) ⟨by show m ≤ w.heap.size + 1; omega, HR.2⟩)
  have HK := Lib.hid hK
  clear h1 h2 hb hr hK
  go_wp2_with fail
  refine bodyPost_ret (v := .agg #[.slice a1 cl.length c1, .slice a2 ad.length c2]) (by simp [results, Tryz.results10, go_sem, r0, r1]) rfl ⟨_, _, rfl, (H1.out.kept HK.out).mono (fun k _ h => ⟨h.1, Nat.lt_of_lt_of_le h.2 HW.size⟩), (H2.out.kept HK.out).mono (fun k _ h => ⟨h.1, Nat.lt_of_lt_of_le h.2 HW.size⟩), (HB.out.setCell (p := ⟨w.heap.size + 1, 0, none⟩) (by show w.heap.size ≤ w.heap.size + 1; omega) _).setCell (p := ⟨w.heap.size + 1, 1, none⟩) (by show w.heap.size ≤ w.heap.size + 1; omega) _⟩
set_option maxHeartbeats 2000000 in
set_option maxRecDepth 100000 in
theorem upd_g (v ve vs : Value) (l : List Ver) (plo phi : Int) (e : List GExp) (pred : Int) (set : List Asg) (m : Nat) (w : World) (hm : m ≤ w.heap.size) (hv : Sl verE w (fun k => m ≤ k) v l) (he : Sl expE w free ve e) (hl : l.length ≤ 1000) (ha : (l.filter (keepV plo phi e pred)).length ≤ 20) (hel : e.length ≤ 1000) (hc : ∀ x ∈ e, In64 x.c.n) (hvn : ∀ x ∈ l, ∀ g ∈ x.vals, In64 g.n) (hvl : ∀ x ∈ l, x.vals.length ≤ 1000) (hs : Sl asgE w free vs set) :
    Calls Tryz.prog 9 #[v, .agg #[.int .i64 plo, .int .i64 phi], ve, .int .i64 pred, vs] w (RetDelta m w ((affV plo phi e pred l).map Ver.id) ((affV plo phi e pred l).flatMap (partsV plo phi (some (asgV e set))))) := by
  obtain ⟨ae, ce, rfl⟩ := he.shape
  obtain ⟨as1, cs, rfl⟩ := hs.shape
  have hW : Below w.heap.size w ((((w.alloc (.cells #[.int .i64 plo, .int .i64 phi] 28)).alloc (.cells #[.slice ae e.length ce] 30)).alloc (.cells #[.slice as1 set.length cs] 46)).alloc (.cells #[.slice none 0 0, .slice none 0 0] 42)) := below_alloc_keep (below_alloc_keep (below_alloc_two w _ _))
  obtain ⟨h1, h2, h3, h4⟩ := heap_four w (.cells #[.int .i64 plo, .int .i64 phi] 28) (.cells #[.slice ae e.length ce] 30) (.cells #[.slice as1 set.length cs] 46) (.cells #[.slice none 0 0, .slice none 0 0] 42)
  have HCH : ChgOf ((((w.alloc (.cells #[.int .i64 plo, .int .i64 phi] 28)).alloc (.cells #[.slice ae e.length ce] 30)).alloc (.cells #[.slice as1 set.length cs] 46)).alloc (.cells #[.slice none 0 0, .slice none 0 0] 42)) (.func (.func 22) #[] #[.pointer (some ⟨w.heap.size + 1 + 1, 0, none⟩), .pointer (some ⟨w.heap.size + 1, 0, none⟩)]) (some (asgV e set)) := ⟨_, _, rfl, fun W vo old hWW ho hol hvo => upd1_any vo _ _ old set e _ _ W ho ((hs.below hW).below hWW) ((he.below hW).below hWW) (cell_keep hWW (cell_of h3 rfl)) (cell_keep hWW (cell_of h2 rfl)) hel hol hc hvo⟩
  have HE : Hid (Calls Tryz.prog 21 #[v, .agg #[.int .i64 plo, .int .i64 phi], .slice ae e.length ce, .int .i64 pred, .func (.func 22) #[] #[.pointer (some ⟨w.heap.size + 1 + 1, 0, none⟩), .pointer (some ⟨w.heap.size + 1, 0, none⟩)]] ((((w.alloc (.cells #[.int .i64 plo, .int .i64 phi] 28)).alloc (.cells #[.slice ae e.length ce] 30)).alloc (.cells #[.slice as1 set.length cs] 46)).alloc (.cells #[.slice none 0 0, .slice none 0 0] 42)) (RetDelta m ((((w.alloc (.cells #[.int .i64 plo, .int .i64 phi] 28)).alloc (.cells #[.slice ae e.length ce] 30)).alloc (.cells #[.slice as1 set.length cs] 46)).alloc (.cells #[.slice none 0 0, .slice none 0 0] 42)) ((affV plo phi e pred l).map Ver.id) ((affV plo phi e pred l).flatMap (partsV plo phi (some (asgV e set)))))) := edit_any v _ _ l plo phi e pred _ m ((((w.alloc (.cells #[.int .i64 plo, .int .i64 phi] 28)).alloc (.cells #[.slice ae e.length ce] 30)).alloc (.cells #[.slice as1 set.length cs] 46)).alloc (.cells #[.slice none 0 0, .slice none 0 0] 42)) (Nat.le_trans hm hW.size) (hv.below hW) (he.below hW) hl ha hel hc hvn hvl HCH

  have HR : ((((w.alloc (.cells #[.int .i64 plo, .int .i64 phi] 28)).alloc (.cells #[.slice ae e.length ce] 30)).alloc (.cells #[.slice as1 set.length cs] 46)).alloc (.cells #[.slice none 0 0, .slice none 0 0] 42)).heap[w.heap.size + 1 + 1 + 1]? = some (.cells #[.slice none 0 0, .slice none 0 0] 42) ∧ w.heap.size + 1 + 1 + 1 < ((((w.alloc (.cells #[.int .i64 plo, .int .i64 phi] 28)).alloc (.cells #[.slice ae e.length ce] 30)).alloc (.cells #[.slice as1 set.length cs] 46)).alloc (.cells #[.slice none 0 0, .slice none 0 0] 42)).heap.size := ⟨(heap_four w _ _ _ _).2.2.2, by simp⟩
  generalize (affV plo phi e pred l).map Ver.id = cl at HE ⊢
  generalize (affV plo phi e pred l).flatMap (partsV plo phi (some (asgV e set))) = ad at HE ⊢
  have HW := hW
  clear hv he hc hvn hvl hW hs
  go_enter Tryz.func9, Tryz.ntmps9
  go_wp2_with fail
  refine HE.out.mono ?_
  rintro _ w2 ⟨vc, va, rfl, h1, h2, hb⟩
  obtain ⟨a1, c1, rfl⟩ := h1.shape
  obtain ⟨a2, c2, rfl⟩ := h2.shape
  have hr := (hb.block (w.heap.size + 1 + 1 + 1) HR.2).trans HR.1
  obtain ⟨r0, r1, f0, f1⟩ := box_two hr
  have H1 := Lib.hid h1
  have H2 := Lib.hid h2
  have HB : Hid (Below w.heap.size w w2) := HW.trans (hb.mono HW.size)
  have hK : Kept (fun k => m ≤ k ∧ k < ((((w.alloc (.cells #[.int .i64 plo, .int .i64 phi] 28)).alloc (.cells #[.slice ae e.length ce] 30)).alloc (.cells #[.slice as1 set.length cs] 46)).alloc (.cells #[.slice none 0 0, .slice none 0 0] 42)).heap.size) w2 ((w2.setCell ⟨w.heap.size + 1 + 1 + 1, 0, none⟩ (.slice a1 cl.length c1)).setCell ⟨w.heap.size + 1 + 1 + 1, 1, none⟩ (.slice a2 ad.length c2)) :=
    (kept_set (G := fun k => m ≤ k ∧ k < ((((w.alloc (.cells #[.int .i64 plo, .int .i64 phi] 28)).alloc (.cells #[.slice ae e.length ce] 30)).alloc (.cells #[.slice as1 set.length cs] 46)).alloc (.cells #[.slice none 0 0, .slice none 0 0] 42)).heap.size) (q := ⟨w.heap.size + 1 + 1 + 1, 0, none⟩) ⟨by show m ≤ w.heap.size + 1 + 1 + 1; omega, HR.2⟩).trans (kept_set (G := fun k => m ≤ k ∧ k < ((((w.alloc (.cells #[.int .i64 plo, .int .i64 phi] 28)).alloc (.cells #[.slice ae e.length ce] 30)).alloc (.cells #[.slice as1 set.length cs] 46)).alloc (.cells #[.slice none 0 0, .slice none 0 0] 42)).heap.size) (q := ⟨w.heap.size + 1 + 1 + 1, 1, none⟩) ⟨by show m ≤ w.heap.size + 1 + 1 + 1; omega, HR.2⟩)
  have HK := Lib.hid hK
  clear h1 h2 hb hr hK
  go_wp2_with fail
  refine bodyPost_ret (v := .agg #[.slice a1 cl.length c1, .slice a2 ad.length c2]) (by simp [results, Tryz.results9, go_sem, r0, r1]) rfl ⟨_, _, rfl, (H1.out.kept HK.out).mono (fun k _ h => ⟨h.1, Nat.lt_of_lt_of_le h.2 HW.size⟩), (H2.out.kept HK.out).mono (fun k _ h => ⟨h.1, Nat.lt_of_lt_of_le h.2 HW.size⟩), (HB.out.setCell (p := ⟨w.heap.size + 1 + 1 + 1, 0, none⟩) (by show w.heap.size ≤ w.heap.size + 1 + 1 + 1; omega) _).setCell (p := ⟨w.heap.size + 1 + 1 + 1, 1, none⟩) (by show w.heap.size ≤ w.heap.size + 1 + 1 + 1; omega) _⟩
theorem del_m (v ve : Value) (l : List Ver) (plo phi : Int) (e : List GExp) (pred : Int) (m : Nat) (w : World) (hm : m ≤ w.heap.size) (hv : Sl verE w (fun k => m ≤ k) v l) (he : Sl expE w free ve e) (hl : l.length ≤ 20) (hel : e.length ≤ 1000) (hc : ∀ x ∈ e, In64 x.c.n) (hvn : ∀ x ∈ l, ∀ g ∈ x.vals, In64 g.n) (hvl : ∀ x ∈ l, x.vals.length ≤ 1000) :
    Calls Tryz.prog 10 #[v, .agg #[.int .i64 plo, .int .i64 phi], ve, .int .i64 pred] w (RetDelta m w ((affV plo phi e pred l).map Ver.id) ((affV plo phi e pred l).flatMap (partsV plo phi none))) :=
  del_g v ve l plo phi e pred m w hm hv he (Nat.le_trans hl (by decide)) (Nat.le_trans (List.length_filter_le _ _) hl) hel hc hvn hvl
theorem upd_m (v ve vs : Value) (l : List Ver) (plo phi : Int) (e : List GExp) (pred : Int) (set : List Asg) (m : Nat) (w : World) (hm : m ≤ w.heap.size) (hv : Sl verE w (fun k => m ≤ k) v l) (he : Sl expE w free ve e) (hl : l.length ≤ 20) (hel : e.length ≤ 1000) (hc : ∀ x ∈ e, In64 x.c.n) (hvn : ∀ x ∈ l, ∀ g ∈ x.vals, In64 g.n) (hvl : ∀ x ∈ l, x.vals.length ≤ 1000) (hs : Sl asgE w free vs set) :
    Calls Tryz.prog 9 #[v, .agg #[.int .i64 plo, .int .i64 phi], ve, .int .i64 pred, vs] w (RetDelta m w ((affV plo phi e pred l).map Ver.id) ((affV plo phi e pred l).flatMap (partsV plo phi (some (asgV e set))))) :=
  upd_g v ve vs l plo phi e pred set m w hm hv he (Nat.le_trans hl (by decide)) (Nat.le_trans (List.length_filter_le _ _) hl) hel hc hvn hvl hs
theorem del_any (v ve : Value) (l : List Ver) (plo phi : Int) (e : List GExp) (pred : Int) (w : World) (hv : Sl verE w free v l) (he : Sl expE w free ve e) (hl : l.length ≤ 20) (hel : e.length ≤ 1000) (hc : ∀ x ∈ e, In64 x.c.n) (hvn : ∀ x ∈ l, ∀ g ∈ x.vals, In64 g.n) (hvl : ∀ x ∈ l, x.vals.length ≤ 1000) :
    Calls Tryz.prog 10 #[v, .agg #[.int .i64 plo, .int .i64 phi], ve, .int .i64 pred] w (RetD w ((affV plo phi e pred l).map Ver.id) ((affV plo phi e pred l).flatMap (partsV plo phi none))) := by
  refine (del_m v ve l plo phi e pred w.heap.size w (Nat.le_refl _) (hv.old (Nat.le_refl _)) he hl hel hc hvn hvl).mono ?_
  rintro _ w2 ⟨vc, va, rfl, h1, h2, hb⟩
  exact ⟨vc, va, rfl, h1.free, h2.free, hb⟩
theorem upd_any (v ve vs : Value) (l : List Ver) (plo phi : Int) (e : List GExp) (pred : Int) (set : List Asg) (w : World) (hv : Sl verE w free v l) (he : Sl expE w free ve e) (hl : l.length ≤ 20) (hel : e.length ≤ 1000) (hc : ∀ x ∈ e, In64 x.c.n) (hvn : ∀ x ∈ l, ∀ g ∈ x.vals, In64 g.n) (hvl : ∀ x ∈ l, x.vals.length ≤ 1000) (hs : Sl asgE w free vs set) :
    Calls Tryz.prog 9 #[v, .agg #[.int .i64 plo, .int .i64 phi], ve, .int .i64 pred, vs] w (RetD w ((affV plo phi e pred l).map Ver.id) ((affV plo phi e pred l).flatMap (partsV plo phi (some (asgV e set))))) := by
  refine (upd_m v ve vs l plo phi e pred set w.heap.size w (Nat.le_refl _) (hv.old (Nat.le_refl _)) he hl hel hc hvn hvl hs).mono ?_
  rintro _ w2 ⟨vc, va, rfl, h1, h2, hb⟩
  exact ⟨vc, va, rfl, h1.free, h2.free, hb⟩
end Go.Proofs.YtfmbbfidjcgeiaaGreat

namespace Go.Proofs.YtfmbbfidjcgeiaaGreat
open Go.RowKit Go.Lib Go.Shelf

/-- What an insertion adds. -/
def insL (vals : List GVal) (lo hi : Int) : List Tup := if pdays lo hi then [⟨vals, lo, hi, []⟩] else []
theorem size_allocI {n : Nat} {W : World} {o : Obj} (h : n ≤ W.heap.size) : n ≤ (W.alloc o).heap.size := by simp; omega
theorem below_setI {w W : World} {u1 u2 : Value} (h : Below w.heap.size w W) : Below w.heap.size w ((W.setCell ⟨w.heap.size + 1, 0, none⟩ u1).setCell ⟨w.heap.size + 1, 1, none⟩ u2) := (h.setCell (p := ⟨w.heap.size + 1, 0, none⟩) (by simp) _).setCell (p := ⟨w.heap.size + 1, 1, none⟩) (by simp) _
theorem size_setI {n : Nat} {W : World} {q1 q2 : Addr} {u1 u2 : Value} (h : n ≤ W.heap.size) : n ≤ ((W.setCell q1 u1).setCell q2 u2).heap.size := by simpa [World.setCell] using h
theorem cell_setI {W : World} {g j : Nat} {u1 u2 v : Value} (h : W.cell? ⟨g, j, none⟩ = some v) : ((W.setCell ⟨g + 1, 0, none⟩ u1).setCell ⟨g + 1, 1, none⟩ u2).cell? ⟨g, j, none⟩ = some v := by
  rw [World.cell?_setCell_far _ _ _ _ (by simp), World.cell?_setCell_far _ _ _ _ (by simp)]; exact h
theorem vAt_setI {W : World} {p q1 q2 : Addr} {u1 u2 v : Value} (h : W.cell? p = some v) : ((W.setCell q1 u1).setCell q2 u2).cell? p = some (vAt ((W.setCell q1 u1).setCell q2 u2) p) := vAt_set (vAt_set h)
theorem frozen_setI {W : World} {p q1 q2 : Addr} {u1 u2 : Value} (h : W.frozen? p = false) : ((W.setCell q1 u1).setCell q2 u2).frozen? p = false := by simp [h]
set_option maxHeartbeats 4000000 in
set_option maxRecDepth 100000 in
theorem ins_any (v : Value) (vals : List GVal) (lo hi : Int) (w : World) (hv : Sl valE w free v vals) (hl : vals.length ≤ 1000) :
    Calls Tryz.prog 31 #[v, .agg #[.int .i64 lo, .int .i64 hi]] w (RetD w [] (insL vals lo hi)) := by
  obtain ⟨a, c, rfl⟩ := hv.shape
  have HV := Lib.hid hv
  have HPD : ∀ W, Hid (Calls Tryz.prog 57 #[.agg #[.int .i64 lo, .int .i64 hi]] W fun e w' => e = .returned (.bool (pdays lo hi)) ∧ Below W.heap.size W w') := fun W => prd_days lo hi W
  obtain ⟨ins, hins⟩ : ∃ ins, ins = insL vals lo hi := ⟨_, rfl⟩
  rw [← hins]
  have HIN : Hid (ins = if pdays lo hi then [⟨vals, lo, hi, []⟩] else []) := hins
  generalize pdays lo hi = pd at HPD HIN
  clear hv hins
  go_enter Tryz.func31, Tryz.ntmps31
  go_wp2_with fail
  refine (HPD _).out.mono ?_
  rintro _ w2 ⟨rfl, hb⟩
  obtain ⟨g1, g2⟩ := heap_two w (.cells #[.int .i64 lo, .int .i64 hi] 28) (.cells #[.slice none 0 0, .slice none 0 0] 42)
  have hp := (hb.block w.heap.size (by simp; omega)).trans g1
  have hr := (hb.block (w.heap.size + 1) (by simp)).trans g2
  obtain ⟨p0, p1, _, _⟩ := box_two hp
  obtain ⟨r0, r1, f0, f1⟩ := box_two hr
  have HB := Lib.hid (below_two' hb)
  have hz : w.heap.size + 1 + 1 ≤ w2.heap.size := by simpa using hb.size
  clear hb hp hr HPD g1 g2
  cases pd
  · have HI : Hid (ins = []) := HIN.out
    clear HIN
    go_wp2_with fail
    refine bodyPost_ret (v := .agg #[.slice none 0 0, .slice none 0 0]) (by simp [results, Tryz.results31, go_sem, r0, r1]) rfl ⟨_, _, rfl, Sl.nil _ _ _ _ _, by rw [HI.out]; exact Sl.nil _ _ _ _ _, (HB.out.setCell (p := ⟨w.heap.size + 1, 0, none⟩) (by simp) _).setCell (p := ⟨w.heap.size + 1, 1, none⟩) (by simp) _⟩
  · have HI : Hid (ins = [⟨vals, lo, hi, []⟩]) := HIN.out
    clear HIN
    have hBB := HB.out
    have hrr0 := vAt_of r0
    have hrr1 := vAt_of r1
    have HCL : Hid (Calls Tryz.prog 23 #[.slice a vals.length c] w2.drew (RetOwn valE w2.drew vals)) := cloneVals_own _ vals _ ((HV.out.below HB.out).below (Below.refl _ _).drew) hl
    have hzz : w.heap.size ≤ w2.heap.size := by omega
    go_wp2_with fail
    go_region_held3 (fun W => Below w.heap.size w W ∧ w.heap.size + 1 + 1 ≤ W.heap.size ∧ W.cell? ⟨w.heap.size, 0, none⟩ = some (.int .i64 lo) ∧ W.cell? ⟨w.heap.size, 1, none⟩ = some (.int .i64 hi) ∧ W.cell? ⟨w.heap.size + 1, 0, none⟩ = some (vAt W ⟨w.heap.size + 1, 0, none⟩) ∧ W.cell? ⟨w.heap.size + 1, 1, none⟩ = some (vAt W ⟨w.heap.size + 1, 1, none⟩) ∧ W.frozen? ⟨w.heap.size + 1, 0, none⟩ = false ∧ W.frozen? ⟨w.heap.size + 1, 1, none⟩ = false)
      ((go_split_ands; refine ⟨?_, ?_, ?_, ?_, ?_, ?_, ?_, ?_⟩ <;> first | (with_reducible assumption) | with_reducible exact Below.drew (by assumption) | with_reducible exact size_drewA (by assumption) | with_reducible exact cell_drew (by assumption) | with_reducible exact vAt_drew (by assumption) | with_reducible exact frozen_drew (by assumption) | with_reducible exact below_keep (by assumption) (by assumption) | with_reducible exact Nat.le_trans (by assumption) (Below.size (by assumption)) | with_reducible exact cell_keep (by assumption) (by assumption) | with_reducible exact vAt_keep (by assumption) (by assumption) | with_reducible exact frozen_keep (by assumption) (by assumption) (by assumption) | with_reducible exact below_alloc_keep (by assumption) | with_reducible exact size_allocI (by assumption) | with_reducible exact cell_alloc (by assumption) | with_reducible exact vAt_alloc (by assumption) | with_reducible exact frozen_alloc (by assumption) (by assumption) | with_reducible exact below_setI (by assumption) | with_reducible exact size_setI (by assumption) | with_reducible exact cell_setI (by assumption) | with_reducible exact vAt_setI (by assumption) | with_reducible exact frozen_setI (by assumption)))
      (first
        | (go_at_call 23; go_split_ands; refine HCL.out.mono ?_; rintro e' wC ⟨vC, rfl, hOC, hbC⟩; obtain ⟨aC, cC, rfl⟩ := hOC.shape))
    have hzC : w.heap.size + 1 + 1 ≤ wC.heap.size := Nat.le_trans hz hbC.size
    have hS : Sl tupE (wC.alloc (.cells #[.slice aC vals.length cC, .int .i64 lo, .int .i64 hi, .slice none 0 0] 70)) (fun k => k = w.heap.size + 1) (.slice (some ⟨wC.heap.size, 0, none⟩) 1 1) [⟨vals, lo, hi, []⟩] :=
      Sl.of_block (World.alloc_heap_new wC _) (Els.one ⟨_, _, rfl, ((own_vals_from hOC).below (below_alloc _ _)).mono (fun k _ hk => by subst hk; show _ < w2.heap.size; omega), Sl.nil _ _ _ _ _⟩) (by omega) rfl (by simp) (by simp)
    have hBf : Below w.heap.size w (wC.alloc (.cells #[.slice aC vals.length cC, .int .i64 lo, .int .i64 hi, .slice none 0 0] 70)) := below_alloc_keep (below_keep HB.out (below_keep ((Below.refl _ _).drew) hbC))
    have HS := Lib.hid hS
    have HBf := Lib.hid hBf
    clear hS hBf
    go_wp2_with fail
    have rC0 : (wC.alloc (.cells #[.slice aC vals.length cC, .int .i64 lo, .int .i64 hi, .slice none 0 0] 70)).cell? ⟨w.heap.size + 1, 0, none⟩ = some (.slice none 0 0) := cell_alloc (cell_keep hbC (cell_drew r0))
    have rC1 : (wC.alloc (.cells #[.slice aC vals.length cC, .int .i64 lo, .int .i64 hi, .slice none 0 0] 70)).cell? ⟨w.heap.size + 1, 1, none⟩ = some (.slice none 0 0) := cell_alloc (cell_keep hbC (cell_drew r1))
    refine bodyPost_ret (v := .agg #[.slice none 0 0, .slice (some ⟨wC.heap.size, 0, none⟩) 1 1]) (by simp [results, Tryz.results31, go_sem, rC0, rC1]) rfl ⟨_, _, rfl, Sl.nil _ _ _ _ _, ?_, (HBf.out.setCell (p := ⟨w.heap.size + 1, 0, none⟩) (by simp) _).setCell (p := ⟨w.heap.size + 1, 1, none⟩) (by simp) _⟩
    rw [HI.out]
    exact (HS.out.kept ((kept_set (G := fun k => k = w.heap.size + 1) (q := ⟨w.heap.size + 1, 0, none⟩) rfl).trans (kept_set (G := fun k => k = w.heap.size + 1) (q := ⟨w.heap.size + 1, 1, none⟩) rfl))).free
end Go.Proofs.YtfmbbfidjcgeiaaGreat

namespace Go.Proofs.YtfmbbfidjcgeiaaGreat
open Go.RowKit Go.Lib Go.Maps

theorem int_law : Keyed Tryz.prog 3 := int_keyed Tryz.underlying3
theorem int_zero (w : World) : (zeroValue 3).run Tryz.prog w = .ok (.int .i64 0) w := by kernel_rfl
theorem bool_zero (w : World) : (zeroValue 4).run Tryz.prog w = .ok (.bool false) w := by kernel_rfl
theorem atKey_not_has {D : DataW Unit} {k : Lit} (h : has D k = false) (hm : IsMap D) (z : DataW Unit) : D.atKey k z = z := by
  obtain ⟨es, rfl⟩ := hm
  simp only [DataW.atKey]
  cases hf : es.find? (fun p => p.1.sameKey k) with
  | none => rfl
  | some p =>
    have h1 := List.find?_some hf
    have h2 := List.mem_of_find?_eq_some hf
    rw [has_eq] at h
    have := List.any_eq_false.1 h p h2
    exact absurd h1 (by simpa using this)
/-- A map of the call's own from numbers to numbers: what it holds. -/
def OwnII (w : World) (b n : Nat) (f : Int → Option Int) : Prop :=
  ∃ D : DataW Unit, w.ownsMap Tryz.prog 3 (plainElem Tryz.prog 3) b n D ∧ (∀ x, (Lit.int .i64 x).wf = true → has D (.int .i64 x) = (f x).isSome) ∧ ∀ x c, (Lit.int .i64 x).wf = true → f x = some c → ∀ zd, D.atKey (.int .i64 x) zd = .lit (.int .i64 c)
/-- A map of the call's own from numbers to bools, all of them true: its keys. -/
def OwnIB (w : World) (b n : Nat) (s : Int → Bool) : Prop :=
  ∃ D : DataW Unit, w.ownsMap Tryz.prog 3 (plainElem Tryz.prog 4) b n D ∧ (∀ x, (Lit.int .i64 x).wf = true → has D (.int .i64 x) = s x) ∧ ∀ x, (Lit.int .i64 x).wf = true → s x = true → ∀ zd, D.atKey (.int .i64 x) zd = .lit (.bool true)
theorem ownsMap_kept {w w' : World} {P : Program} {k : TypeId} {R : Value → Option (DataW Unit × List MemPlace)} {b n : Nat} {D : DataW Unit} {G : Nat → Prop} (h : w.ownsMap P k R b n D) (hk : Kept G w w') (hb : ¬ G b) : w'.ownsMap P k R b n D := by
  have hlt := h.lt
  obtain ⟨es, clock, h1, h2⟩ := h
  exact ⟨es, clock, (hk.2 b hlt hb).trans h1, h2⟩
theorem OwnII.kept {w w' : World} {b n : Nat} {f : Int → Option Int} {G : Nat → Prop} (h : OwnII w b n f) (hk : Kept G w w') (hb : ¬ G b) : OwnII w' b n f := by
  obtain ⟨D, h1, h2⟩ := h; exact ⟨D, ownsMap_kept h1 hk hb, h2⟩
theorem OwnIB.kept {w w' : World} {b n : Nat} {s : Int → Bool} {G : Nat → Prop} (h : OwnIB w b n s) (hk : Kept G w w') (hb : ¬ G b) : OwnIB w' b n s := by
  obtain ⟨D, h1, h2⟩ := h; exact ⟨D, ownsMap_kept h1 hk hb, h2⟩
theorem OwnII.below {w w' : World} {b n : Nat} {f : Int → Option Int} (h : OwnII w b n f) (hb : Below w.heap.size w w') : OwnII w' b n f := h.kept (G := fun _ => False) (.of_below hb) (fun h => h)
theorem OwnIB.below {w w' : World} {b n : Nat} {s : Int → Bool} (h : OwnIB w b n s) (hb : Below w.heap.size w w') : OwnIB w' b n s := h.kept (G := fun _ => False) (.of_below hb) (fun h => h)
theorem OwnII.lt {w : World} {b n : Nat} {f : Int → Option Int} (h : OwnII w b n f) : b < w.heap.size := by obtain ⟨D, h1, _⟩ := h; exact h1.lt
theorem OwnIB.lt {w : World} {b n : Nat} {s : Int → Bool} (h : OwnIB w b n s) : b < w.heap.size := by obtain ⟨D, h1, _⟩ := h; exact h1.lt
theorem OwnII.made (w : World) : OwnII (w.alloc (.map #[] 0)) w.heap.size 0 (fun _ => none) := ⟨.map [], World.ownsMap_made w _ _ _, fun _ _ => rfl, fun _ _ _ h => by cases h⟩
theorem OwnIB.made (w : World) : OwnIB (w.alloc (.map #[] 0)) w.heap.size 0 (fun _ => false) := ⟨.map [], World.ownsMap_made w _ _ _, fun _ _ => rfl, fun _ _ h => by cases h⟩
theorem key_wf {x : Int} (hw : (Lit.int .i64 x).wf = true) : keyOf Tryz.prog 3 (.int .i64 x) = some (.int .i64 x) := keyOf_int_mk Tryz.underlying3 hw
/-- 'c, ok := m[x]'. -/
theorem OwnII.look {w : World} {b n : Nat} {f : Int → Option Int} (h : OwnII w b n f) {x : Int} (hw : (Lit.int .i64 x).wf = true) :
    (Instr.lookup 97 (.map (some b)) (.int .i64 x) true).run Tryz.prog w = .ok (.tuple #[.int .i64 ((f x).getD 0), .bool (f x).isSome]) w := by
  obtain ⟨D, h1, h2, h3⟩ := h
  obtain ⟨v, ps, hrun, hv⟩ := h1.look_ok int_law Tryz.underlying97 (int_zero w) (plainElem_int Tryz.underlying3 (by decide)) (key_wf hw)
  obtain ⟨c, rfl, hc, _⟩ := plainElem_int_inv Tryz.underlying3 hv
  rw [hrun, h2 x hw]
  have hc' := congrArg Prod.fst hc
  dsimp only at hc'
  cases hf : f x with
  | none =>
    rw [atKey_not_has (by rw [h2 x hw, hf]; rfl) h1.isMap] at hc'
    cases hc'
    rfl
  | some d =>
    rw [h3 x d hw hf] at hc'
    cases hc'
    rfl
/-- 'm[x]', of a set. -/
theorem OwnIB.look {w : World} {b n : Nat} {s : Int → Bool} (h : OwnIB w b n s) {x : Int} (hw : (Lit.int .i64 x).wf = true) :
    (Instr.lookup 75 (.map (some b)) (.int .i64 x) false).run Tryz.prog w = .ok (.bool (s x)) w := by
  obtain ⟨D, h1, h2, h3⟩ := h
  obtain ⟨v, ps, hrun, hv⟩ := h1.lookup int_law Tryz.underlying75 (bool_zero w) (plainElem_bool Tryz.underlying4 false) (key_wf hw)
  rw [hrun]
  cases hs : s x
  · rw [atKey_not_has (by rw [h2 x hw, hs]) h1.isMap] at hv
    cases v <;> simp [plainElem, Tryz.underlying4] at hv
    rw [hv.1]
  · rw [h3 x hw hs] at hv
    cases v <;> simp [plainElem, Tryz.underlying4] at hv
    rw [hv.1]
theorem lit_ne {x y : Int} (h : x ≠ y) : (Lit.int .i64 x) ≠ .int .i64 y := fun e => h (by cases e; rfl)
section
variable {ops : Array Oper} {rest : List Oper} {o : Oper} {a : Act} {Q : Exit → Act → World → Prop}
/-- 'm[x] = c'. -/
theorem wpList_putII (w : World) (hg : o.guard = none) (m x v : Operand) (hop : o.op = Op.mapUpdate 97 m x v) (b n : Nat) (f : Int → Option Int) (hm : a.eval m = .map (some b)) (hown : OwnII w b n f) (hn : n < maxLen) (key c : Int)
    (hx : a.eval x = .int .i64 key) (hv : a.eval v = .int .i64 c) (hw : (Lit.int .i64 key).wf = true) (hc : (Lit.int .i64 c).wf = true)
    (hK : ∀ w', OwnII w' b (n + 1) (fun y => if y = key then some c else f y) → w.grownBy w' (some b) → wpList Tryz.prog ops Q rest (a.put o.dst undef) w') : wpList Tryz.prog ops Q (o :: rest) a w := by
  refine wpList_plain hg fun K' hK' => ?_
  obtain ⟨D, h1, h2, h3⟩ := hown
  obtain ⟨w', hrun, r1, r2⟩ := h1.update int_law Tryz.underlying97 hn (key_wf hw) (plainElem_int Tryz.underlying3 hc)
  unfold Oper.wp
  simp [execOp, hop, hm, hx, hv, hrun, Result.andThen]
  refine hK' _ _ (hK w' ?_ r2)
  have hm' := h1.isMap
  have hk : WideAt.IsKeyLit (.int .i64 key) := int_law.key (key_wf hw)
  refine ⟨_, r1, fun y hy => ?_, fun y d hy hd zd => ?_⟩
  · by_cases e : y = key
    · subst e; rw [has_put_same hm' hk]; dsimp only; rw [if_pos rfl]; rfl
    · rw [has_put_other (lit_ne e)]; dsimp only; rw [if_neg e, h2 y hy]
  · by_cases e : y = key
    · subst e; dsimp only at hd; rw [if_pos rfl] at hd; cases hd; exact atKey_put_same hm' hk _ _
    · dsimp only at hd; rw [if_neg e] at hd; rw [atKey_put_other (lit_ne e)]; exact h3 y d hy hd zd
/-- 'm[x] = true'. -/
theorem wpList_putIB (w : World) (hg : o.guard = none) (m x v : Operand) (hop : o.op = Op.mapUpdate 75 m x v) (b n : Nat) (s : Int → Bool) (hm : a.eval m = .map (some b)) (hown : OwnIB w b n s) (hn : n < maxLen) (key : Int)
    (hx : a.eval x = .int .i64 key) (hv : a.eval v = .bool true) (hw : (Lit.int .i64 key).wf = true)
    (hK : ∀ w', OwnIB w' b (n + 1) (fun y => y == key || s y) → w.grownBy w' (some b) → wpList Tryz.prog ops Q rest (a.put o.dst undef) w') : wpList Tryz.prog ops Q (o :: rest) a w := by
  refine wpList_plain hg fun K' hK' => ?_
  obtain ⟨D, h1, h2, h3⟩ := hown
  obtain ⟨w', hrun, r1, r2⟩ := h1.update int_law Tryz.underlying75 hn (key_wf hw) (plainElem_bool Tryz.underlying4 true)
  unfold Oper.wp
  simp [execOp, hop, hm, hx, hv, hrun, Result.andThen]
  refine hK' _ _ (hK w' ?_ r2)
  have hm' := h1.isMap
  have hk : WideAt.IsKeyLit (.int .i64 key) := int_law.key (key_wf hw)
  refine ⟨_, r1, fun y hy => ?_, fun y hy hd zd => ?_⟩
  · by_cases e : y = key
    · subst e; rw [has_put_same hm' hk]; simp
    · rw [has_put_other (lit_ne e), h2 y hy]; simp [e]
  · by_cases e : y = key
    · subst e; exact atKey_put_same hm' hk _ _
    · rw [atKey_put_other (lit_ne e)]
      exact h3 y hy (by simpa [e] using hd) zd
end
end Go.Proofs.YtfmbbfidjcgeiaaGreat

namespace Go.Proofs.YtfmbbfidjcgeiaaGreat
open Go.RowKit Go.Lib

/-- Is there a current version of that number? -/
def curId (l : List Ver) (id : Int) : Bool := l.any fun v => v.id == id && v.rhi == 1099511627776
def argBad (l : List Ver) (at' first : Int) : Bool := decide (at' < 0) || decide (1099511627776 ≤ at') || decide (first < 1) || decide (1099511627776 < first) || (l.any fun v => decide (first ≤ v.id)) || !decide (l.map Ver.id).Nodup
/-- The numbers to be closed: each a current version's, none twice. -/
def okC (l : List Ver) (cl : List Int) : Bool := cl.all (curId l) && decide cl.Nodup
def lateC (l : List Ver) (cl : List Int) (at' : Int) : Bool := cl.any fun id => l.any fun v => v.id == id && decide (at' < v.rlo)
def applyE (l : List Ver) (cl : List Int) (ad : List Tup) (at' first : Int) : Int :=
  if argBad l at' first then 1 else if !okC l cl then 11 else if lateC l cl at' then 10 else if ad.any (fun t => !pdays t.lo t.hi) then 10 else 0
def keepOne (cl : List Int) (at' : Int) (v : Ver) : List Ver := if cl.contains v.id then (if v.rlo == at' then [] else [{ v with rhi := at' }]) else [v]
def newV (at' first : Int) (ad : List Tup) : List Ver := ad.mapIdx fun i t => ⟨first + i, t.vals, t.lo, t.hi, at', 1099511627776⟩
def applyL (l : List Ver) (cl : List Int) (ad : List Tup) (at' first : Int) : List Ver := l.flatMap (keepOne cl at') ++ newV at' first ad
theorem okC_nil (l : List Ver) : okC l [] = true := by simp [okC]
theorem okC_snoc (l : List Ver) (cl : List Int) (x : Int) : okC l (cl ++ [x]) = (okC l cl && (curId l x && !cl.contains x)) := by
  unfold okC
  rw [Bool.eq_iff_iff]
  simp only [Bool.and_eq_true, List.all_append, List.all_cons, List.all_nil, Bool.and_true, decide_eq_true_eq, Bool.not_eq_true', List.contains_eq_mem, decide_eq_false_iff_not, List.nodup_append, List.mem_singleton, List.nodup_cons, List.not_mem_nil, not_false_eq_true, List.nodup_nil, and_true, true_and]
  constructor
  · rintro ⟨⟨h1, h2⟩, h3, h4⟩
    exact ⟨⟨h1, h3⟩, h2, fun hm => h4 x hm x rfl rfl⟩
  · rintro ⟨⟨h1, h3⟩, h2, h4⟩
    exact ⟨⟨h1, h2⟩, h3, fun a ha b hb e => h4 (hb ▸ e ▸ ha)⟩
theorem okC_take (l : List Ver) (cl : List Int) (k : Nat) (h : okC l (cl.take k) = false) : okC l cl = false := by
  cases hc : okC l cl
  · rfl
  · unfold okC at h hc
    rw [Bool.and_eq_true, List.all_eq_true, decide_eq_true_eq] at hc
    have h1 : (cl.take k).all (curId l) = true := List.all_eq_true.2 (fun x hx => hc.1 x (List.mem_of_mem_take hx))
    have h2 : (cl.take k).Nodup := hc.2.sublist (List.take_sublist _ _)
    rw [h1, decide_eq_true h2] at h
    exact absurd h (by simp)
theorem newV_snoc (at' first : Int) (ad : List Tup) (t : Tup) : newV at' first (ad ++ [t]) = newV at' first ad ++ [⟨first + ad.length, t.vals, t.lo, t.hi, at', 1099511627776⟩] := by
  unfold newV
  rw [List.mapIdx_append]
  simp
theorem newV_length (at' first : Int) (ad : List Tup) : (newV at' first ad).length = ad.length := by unfold newV; simp
theorem keepOne_length (cl : List Int) (at' : Int) (l : List Ver) : (l.flatMap (keepOne cl at')).length ≤ l.length := by
  induction l with
  | nil => simp
  | cons v l ih =>
    rw [List.flatMap_cons, List.length_append, List.length_cons]
    have : (keepOne cl at' v).length ≤ 1 := by unfold keepOne; split <;> (try split) <;> simp
    omega
/-- No two versions of one number. -/
theorem id_inj {l : List Ver} (h : (l.map Ver.id).Nodup) {i j : Nat} {x y : Ver} (hx : l[i]? = some x) (hy : l[j]? = some y) (e : x.id = y.id) : i = j := by
  have h1 : (l.map Ver.id)[i]? = some x.id := by simp [hx]
  have h2 : (l.map Ver.id)[j]? = some x.id := by simp [hy, e]
  obtain ⟨hi, e1⟩ := List.getElem?_eq_some_iff.1 h1
  obtain ⟨hj, e2⟩ := List.getElem?_eq_some_iff.1 h2
  have hp := List.pairwise_iff_getElem.1 h
  rcases Nat.lt_trichotomy i j with hlt | heq | hlt
  · exact absurd (e1.trans e2.symm) (hp i j hi hj hlt)
  · exact heq
  · exact absurd (e2.trans e1.symm) (hp j i hj hi hlt)
theorem nodup_take {l : List Ver} {k : Nat} (h : ¬ ((l.take k).map Ver.id).Nodup) : ¬ (l.map Ver.id).Nodup := fun hn => h (hn.sublist ((List.take_sublist k l).map _))
end Go.Proofs.YtfmbbfidjcgeiaaGreat

namespace Go.Proofs.YtfmbbfidjcgeiaaGreat
open Go.RowKit Go.Lib Go.Maps

theorem wf64 {x : Int} (h : In64 x) : (Lit.int .i64 x).wf = true := by
  obtain ⟨h1, h2⟩ := h
  simp only [Lit.wf]
  rw [Bool.and_eq_true, decide_eq_true_eq, decide_eq_true_eq]
  exact ⟨h1, h2⟩
/-- The place of the version of that number. -/
def posOf (l : List Ver) (x : Int) : Option Int := (l.findIdx? (fun v => v.id == x)).map Int.ofNat
theorem posOf_snoc {l : List Ver} {v : Ver} (h : posOf l v.id = none) : posOf (l ++ [v]) = fun y => if y = v.id then some (l.length : Int) else posOf l y := by
  funext y
  unfold posOf at h ⊢
  rw [List.findIdx?_append]
  by_cases e : y = v.id
  · subst e
    rw [if_pos rfl]
    have h' : l.findIdx? (fun x => x.id == v.id) = none := by simpa using h
    rw [h']
    simp [List.findIdx?_cons]
  · rw [if_neg e]
    have : ¬ v.id = y := fun h => e h.symm
    cases l.findIdx? (fun x => x.id == y) <;> simp [List.findIdx?_cons, this]
theorem posOf_none {l : List Ver} {x : Int} : posOf l x = none ↔ x ∉ l.map Ver.id := by
  unfold posOf
  simp only [Option.map_eq_none_iff, List.findIdx?_eq_none_iff, List.mem_map, not_exists, not_and, beq_eq_false_iff_ne, ne_eq]
theorem posOf_some {l : List Ver} {x : Int} {k : Int} (h : posOf l x = some k) : ∃ (i : Nat) (v : Ver), k = i ∧ l[i]? = some v ∧ v.id = x := by
  unfold posOf at h
  obtain ⟨i, hi, rfl⟩ := Option.map_eq_some_iff.1 h
  obtain ⟨hl, h1, _⟩ := List.findIdx?_eq_some_iff_getElem.1 hi
  exact ⟨i, l[i], rfl, List.getElem?_eq_getElem hl, by simpa using h1⟩
theorem nodup_snoc {l : List Ver} {v : Ver} (h : (l.map Ver.id).Nodup) (hv : posOf l v.id = none) : ((l ++ [v]).map Ver.id).Nodup := by
  rw [List.map_append, List.nodup_append]
  refine ⟨h, by simp, fun a ha b hb e => ?_⟩
  simp at hb
  subst hb
  subst e
  exact posOf_none.1 hv ha
theorem dup_snoc {l : List Ver} {v : Ver} {c : Int} (hv : posOf l v.id = some c) : ¬ ((l ++ [v]).map Ver.id).Nodup := by
  rw [List.map_append, List.nodup_append]
  rintro ⟨_, _, h⟩
  have : v.id ∈ l.map Ver.id := Classical.byContradiction fun h' => by rw [posOf_none.2 h'] at hv; cases hv
  exact h _ this v.id (by simp) rfl
set_option maxHeartbeats 4000000 in
set_option maxRecDepth 100000 in
theorem index_any (v : Value) (l : List Ver) (w : World) (hv : Sl verE w free v l) (hl : l.length ≤ 1000) (hid : ∀ x ∈ l, In64 x.id) :
    Calls Tryz.prog 51 #[v] w fun e w' => ((l.map Ver.id).Nodup → ∃ b, e = .returned (.tuple #[.map (some b), .bool true]) ∧ OwnII w' b l.length (posOf l) ∧ w.heap.size ≤ b) ∧ (¬ (l.map Ver.id).Nodup → e = .returned (.tuple #[.map none, .bool false])) ∧ Below w.heap.size w w' := by
  obtain ⟨a, c, rfl⟩ := hv.shape
  have HV := Lib.hid hv
  have HI := Lib.hid hid
  obtain ⟨n, hn⟩ : ∃ n, n = l.length := ⟨_, rfl⟩
  have HN := Lib.hid hn
  rw [← hn] at hl HV ⊢
  have hmm := @run_makeMap Tryz.prog
  have HM := Lib.hid (OwnII.made w)
  clear hv hid hn
  go_enter Tryz.func51, Tryz.ntmps51
  go_wp2_with fail
  go_loopw [12] (fun i wr => ∃ k : Nat, k ≤ n ∧ i = .int .i64 k ∧ OwnII wr w.heap.size k (posOf (l.take k)) ∧ Hid (((l.take k).map Ver.id).Nodup) ∧ Below w.heap.size w wr) (fun i _ => n - (intOf i).toNat)
  case atStart => exact ⟨0, Nat.zero_le _, rfl, HM.out, Lib.hid List.nodup_nil, below_alloc _ _⟩
  case round =>
    obtain ⟨k, hk, rfl, hO, HD, hB⟩ := hrel
    obtain ⟨wo, rfl⟩ : ∃ wo : World, wo = wr := ⟨_, rfl⟩
    by_cases hlt : k < n
    · obtain ⟨x, hx⟩ := lget_some l k (by rw [← HN.out]; exact hlt)
      obtain ⟨b, o, a1, c1v, rfl, hvv, p0, p1, p2, p3, p4, p5⟩ := ver_at (HV.out.below hB) hx
      have hxw := wf64 (HI.out x (List.mem_of_getElem? hx))
      have HX := Lib.hid hx
      have HB := Lib.hid hB
      obtain ⟨xid, xvals, xlo, xhi, xrlo, xrhi⟩ := x
      dsimp only at p0 p1 p2 p3 p4 p5 hxw
      have HXW := Lib.hid hxw
      have HO := Lib.hid (hO.below (below_alloc wo (.cells #[.int .i64 xid, .slice a1 xvals.length c1v, .int .i64 xlo, .int .i64 xhi, .int .i64 xrlo, .int .i64 xrhi] 64)))
      have hlook := HO.out.look hxw
      have hkw : (Lit.int .i64 (k : Int)).wf = true := wf64 (by constructor <;> omega)
      have HKW := Lib.hid hkw
      have hkm : k < maxLen := by have : maxLen = 9223372036854775807 := rfl; omega
      have HKM := Lib.hid hkm
      have HLT : Hid ((l.take k).length = k) := by show _ = _; rw [List.length_take, ← HN.out]; omega
      clear hx hvv hB hO hxw hkw hkm
      cases hp : posOf (l.take k) xid with
      | none =>
        have HP : Hid (posOf (l.take k) xid = none) := hp
        rw [hp] at hlook
        simp only [Option.getD_none, Option.isSome_none] at hlook
        clear hp
        go_wp2_with (at_mapUpdate; refine wpList_putII _ rfl _ _ _ rfl w.heap.size k (posOf (l.take k)) rfl HO.out HKM.out xid k rfl rfl HXW.out HKW.out ?_; intro w3 hO3 hg3)
        go_roundw
        case rel =>
          refine ⟨k + 1, by omega, by go_num, ?_, ?_, ?_⟩
          · rw [take_get HX.out, posOf_snoc HP.out, HLT.out]
            exact hO3
          · rw [take_get HX.out]
            exact nodup_snoc HD.out HP.out
          · exact (below_alloc_keep HB.out).grown hg3 (by have := HB.out.size; simp; omega) (fun j hj => by cases hj; exact Nat.le_refl _)
        case measure => simp [intOf]; omega
      | some q =>
        have HP : Hid (posOf (l.take k) xid = some q) := hp
        rw [hp] at hlook
        simp only [Option.getD_some, Option.isSome_some] at hlook
        clear hp
        go_wp2_with fail
        refine bodyPost_ret (v := .tuple #[.map none, .bool false]) (by simp [results, Tryz.results51, go_sem]) rfl ⟨fun hd => absurd hd ?_, fun _ => rfl, below_alloc_keep HB.out⟩
        refine nodup_take (k := k + 1) ?_
        rw [take_get HX.out]
        exact dup_snoc (v := ⟨xid, xvals, xlo, xhi, xrlo, xrhi⟩) HP.out
    · have HF : Hid (l.take k = l) := by show _ = _; rw [List.take_of_length_le (by rw [← HN.out]; omega)]
      have hkn : k = n := by omega
      subst hkn
      have HO := Lib.hid hO
      have HB := Lib.hid hB
      clear hO hB
      go_wp2_with fail
      have hd := HD.out
      have ho := HO.out
      rw [HF.out] at hd ho
      refine bodyPost_ret (v := .tuple #[.map (some w.heap.size), .bool true]) (by simp [results, Tryz.results51, go_sem]) rfl ⟨fun _ => ⟨_, rfl, HN.out ▸ ho, Nat.le_refl _⟩, fun h => absurd hd h, HB.out⟩
end Go.Proofs.YtfmbbfidjcgeiaaGreat

namespace Go.Proofs.YtfmbbfidjcgeiaaGreat
open Go.RowKit Go.Lib Go.Maps

theorem int_at {w : World} {G : Nat → Prop} {a : Option Addr} {n c k : Nat} {l : List Int} {x : Int} (h : Sl intE w G (.slice a n c) l) (hk : l[k]? = some x) : ∃ b o, a = some ⟨b, o, none⟩ ∧ w.cell? ⟨b, o + k, none⟩ = some (.int .i64 x) := by
  obtain ⟨b, o, cs, ha, rfl, hc⟩ := Sl.at h hk
  exact ⟨b, o, ha, by have h := hc 0 _ rfl; rwa [show intE.size = 1 from rfl, Nat.mul_one, Nat.add_zero] at h⟩
/-- The places of the versions closed so far. -/
def clS (l : List Ver) (cl : List Int) : Int → Bool := fun i => cl.any fun id => posOf l id == some i
theorem clS_snoc {l : List Ver} {cl : List Int} {x c : Int} (h : posOf l x = some c) : clS l (cl ++ [x]) = fun y => y == c || clS l cl y := by
  funext y
  unfold clS
  rw [List.any_append, List.any_cons, List.any_nil, h, Bool.or_false, Bool.or_comm]
  congr 1
  rw [Bool.eq_iff_iff]
  simp only [beq_iff_eq, Option.some.injEq]
  exact eq_comm
theorem posOf_at {l : List Ver} (h : (l.map Ver.id).Nodup) {i : Nat} {x : Ver} (hx : l[i]? = some x) : posOf l x.id = some (i : Int) := by
  cases hp : posOf l x.id with
  | none => exact absurd (List.mem_map_of_mem (List.mem_of_getElem? hx)) (posOf_none.1 hp)
  | some k =>
    obtain ⟨j, y, rfl, hy, e⟩ := posOf_some hp
    rw [id_inj h hy hx e]
theorem clS_at {l : List Ver} (h : (l.map Ver.id).Nodup) (cl : List Int) {i : Nat} {x : Ver} (hx : l[i]? = some x) : clS l cl i = cl.contains x.id := by
  unfold clS
  rw [Bool.eq_iff_iff, List.any_eq_true, List.contains_iff_mem]
  constructor
  · rintro ⟨id, hm, he⟩
    simp only [beq_iff_eq] at he
    obtain ⟨j, y, e, hy, e2⟩ := posOf_some he
    have : i = j := by omega
    subst this
    rw [hx] at hy
    cases hy
    exact e2 ▸ hm
  · intro hm
    exact ⟨x.id, hm, by rw [posOf_at h hx]; simp⟩
theorem curId_none {l : List Ver} {x : Int} (h : posOf l x = none) : curId l x = false := by
  unfold curId
  rw [List.any_eq_false]
  intro v hv hb
  simp only [Bool.and_eq_true, beq_iff_eq] at hb
  exact posOf_none.1 h (hb.1 ▸ List.mem_map_of_mem hv)
theorem curId_at {l : List Ver} (h : (l.map Ver.id).Nodup) {i : Nat} {x : Ver} (hx : l[i]? = some x) : curId l x.id = (x.rhi == 1099511627776) := by
  unfold curId
  rw [Bool.eq_iff_iff, List.any_eq_true]
  constructor
  · rintro ⟨y, hy, hb⟩
    simp only [Bool.and_eq_true, beq_iff_eq] at hb
    obtain ⟨j, hj⟩ := List.getElem?_of_mem hy
    have := id_inj h hx hj hb.1.symm
    subst this
    rw [hx] at hj
    cases hj
    simpa using hb.2
  · intro hb
    exact ⟨x, List.mem_of_getElem? hx, by simp; simpa using hb⟩
theorem lateC_none {l : List Ver} (h : (l.map Ver.id).Nodup) {cl : List Int} {at' : Int} (hl : ∀ (i : Nat) (x : Ver), l[i]? = some x → clS l cl i = true → ¬ at' < x.rlo) : lateC l cl at' = false := by
  unfold lateC
  rw [List.any_eq_false]
  intro id hm hb
  obtain ⟨v, hv, hb⟩ := List.any_eq_true.1 hb
  simp only [Bool.and_eq_true, beq_iff_eq, decide_eq_true_eq] at hb
  obtain ⟨i, hi⟩ := List.getElem?_of_mem hv
  exact hl i v hi (by rw [clS_at h cl hi, List.contains_iff_mem, hb.1]; exact hm) hb.2
theorem lateC_some {l : List Ver} (h : (l.map Ver.id).Nodup) {cl : List Int} {at' : Int} {i : Nat} {x : Ver} (hx : l[i]? = some x) (hs : clS l cl i = true) (hlt : at' < x.rlo) : lateC l cl at' = true := by
  unfold lateC
  rw [clS_at h cl hx, List.contains_iff_mem] at hs
  exact List.any_eq_true.2 ⟨x.id, hs, List.any_eq_true.2 ⟨x, List.mem_of_getElem? hx, by simpa using hlt⟩⟩
theorem clS_lt {l : List Ver} {cl : List Int} {c : Int} (h : clS l cl c = true) : ∃ (i : Nat) (x : Ver), c = i ∧ l[i]? = some x := by
  unfold clS at h
  obtain ⟨id, _, he⟩ := List.any_eq_true.1 h
  simp only [beq_iff_eq] at he
  obtain ⟨j, y, e, hy, _⟩ := posOf_some he
  exact ⟨j, y, e, hy⟩
end Go.Proofs.YtfmbbfidjcgeiaaGreat

namespace Go.Proofs.YtfmbbfidjcgeiaaGreat
open Go.RowKit Go.Lib Go.Maps

theorem argBad_dup {l : List Ver} (h : ¬ (l.map Ver.id).Nodup) (at' first : Int) : argBad l at' first = true := by unfold argBad; simp [h]
theorem argBad_of {l : List Ver} (h : (l.map Ver.id).Nodup) (at' first : Int) : argBad l at' first = (decide (at' < 0) || decide (1099511627776 ≤ at') || decide (first < 1) || decide (1099511627776 < first) || (l.any fun v => decide (first ≤ v.id))) := by unfold argBad; simp [h]
theorem kept_from {B : Nat} {w w' : World} (h : Below B w w') : Kept (fun k => B ≤ k) w w' := ⟨h.size, fun k _ hn => h.block k (by omega)⟩
theorem plainBool_inv {v : Value} {y : DataW Unit × List MemPlace} (h : plainElem Tryz.prog 4 v = some y) : ∃ c, v = .bool c := by
  cases v <;> simp [plainElem, Tryz.underlying4] at h
  exact ⟨_, rfl⟩
section
variable {ops : Array Oper} {rest : List Oper} {o : Oper} {a : Act} {Q : Exit → Act → World → Prop}
/-- The step of a range over such a set. -/
theorem wpList_nextIB (w : World) (hg : o.guard = none) (it : Operand) (hop : o.op = Op.next it false) (b r n : Nat) (D : DataW Unit) (left : Lit → Bool) (cnt : Nat) (hit : a.eval it = .pointer (some ⟨r, 0, none⟩)) (h : w.ranges Tryz.prog 3 (plainElem Tryz.prog 4) b r n D left cnt)
    (hT : ∀ x, (Lit.int .i64 x).wf = true → has D (.int .i64 x) = true → ∀ zd, D.atKey (.int .i64 x) zd = .lit (.bool true))
    (hDone : (∀ kl, left kl = false) → wpList Tryz.prog ops Q rest (a.put o.dst (.tuple #[.bool false])) w)
    (hMore : ∀ (x : Int) (w' : World) (cnt' : Nat), (Lit.int .i64 x).wf = true → has D (.int .i64 x) = true → w'.ranges Tryz.prog 3 (plainElem Tryz.prog 4) b r n D (fun z => left z && !z.sameKey (.int .i64 x)) cnt' → cnt' < cnt →
      w.grownBy w' (some r) → w'.heap.size = w.heap.size → (Instr.entry (.pointer (some ⟨r, 0, none⟩))).run Tryz.prog w' = .ok (.tuple #[.int .i64 x, .bool true]) w' → wpList Tryz.prog ops Q rest (a.put o.dst (.tuple #[.bool true, .int .i64 x, .bool true])) w') :
    wpList Tryz.prog ops Q (o :: rest) a w :=
  wpList_next_ranges w hg it hop 3 int_law (plainElem Tryz.prog 4) (Value.int .i64) Value.bool (fun key kl hkey => by obtain ⟨x, rfl, _⟩ := keyOf_int_inv Tryz.underlying3 hkey; exact ⟨x, rfl⟩) (fun v y hv => plainBool_inv hv)
    b r n D left cnt hit h (fun _ hl => hDone hl) (fun x c kl y w' cnt' hkey hlk hv hat hrg hlt hgr hsz hen => by
      obtain ⟨x', ex, rfl, hwx⟩ := keyOf_int_inv Tryz.underlying3 hkey
      cases ex
      have hc : c = true := by
        have h1 := hT x hwx (has_true_of_atKey hat) .nil
        rw [hat .nil] at h1
        simp [plainElem, Tryz.underlying4] at hv
        rw [← hv] at h1
        simpa using h1
      subst hc
      exact hMore x w' cnt' hwx (has_true_of_atKey hat) hrg hlt hgr hsz hen)
end
set_option maxHeartbeats 4000000 in
set_option maxRecDepth 100000 in
theorem check_any (v vc va : Value) (l : List Ver) (cl : List Int) (ad : List Tup) (at' first : Int) (w : World) (hv : Sl verE w free v l) (hcl : Sl intE w free vc cl) (had : Tups w va ad) (hl : l.length ≤ 1000) (hcn : cl.length ≤ 1000) (hid : ∀ x ∈ l, In64 x.id) (hci : ∀ x ∈ cl, In64 x) :
    Calls Tryz.prog 29 #[v, .agg #[vc, va], .int .i64 at', .int .i64 first] w fun e w' => ∃ r : Int, Hid (r = applyE l cl ad at' first) ∧ (r = 0 → ∃ b n, e = .returned (.tuple #[.map (some b), .int .i64 0]) ∧ OwnIB w' b n (clS l cl) ∧ w.heap.size ≤ b) ∧ (r ≠ 0 → e = .returned (.tuple #[.map none, .int .i64 r])) ∧ Below w.heap.size w w' := by
  obtain ⟨a, c, rfl⟩ := hv.shape
  obtain ⟨a2, c2, rfl⟩ := hcl.shape
  obtain ⟨a3, c3, rfl⟩ := had.shape
  have HV := Lib.hid hv
  have HCL := Lib.hid hcl
  have HAD := Lib.hid had
  have HI := Lib.hid hid
  have HCI := Lib.hid hci
  obtain ⟨n, hn⟩ : ∃ n, n = l.length := ⟨_, rfl⟩
  obtain ⟨m, hm⟩ : ∃ m, m = cl.length := ⟨_, rfl⟩
  obtain ⟨q, hq⟩ : ∃ q, q = ad.length := ⟨_, rfl⟩
  have HN := Lib.hid hn
  have HM := Lib.hid hm
  rw [← hn] at hl HV ⊢
  rw [← hm] at hcn HCL ⊢
  rw [← hq] at HAD ⊢
  have hmm := @run_makeMap Tryz.prog
  have HIX : ∀ W, Below w.heap.size w W → Hid (Calls Tryz.prog 51 #[.slice a n c] W fun e w' => ((l.map Ver.id).Nodup → ∃ b, e = .returned (.tuple #[.map (some b), .bool true]) ∧ OwnII w' b l.length (posOf l) ∧ W.heap.size ≤ b) ∧ (¬ (l.map Ver.id).Nodup → e = .returned (.tuple #[.map none, .bool false])) ∧ Below W.heap.size W w') := fun W hW => index_any _ l W (HV.out.below hW) (by rw [← HN.out]; exact hl) HI.out
  have HCT : ∀ W, Below w.heap.size w W → ∀ g, W.cell? ⟨g, 0, none⟩ = some (.int .i64 first) → Hid (Calls Tryz.prog 52 #[.slice a n c, .func (.func 53) #[] #[.pointer (some ⟨g, 0, none⟩)]] W fun e w' => e = .returned (.bool (l.any fun x => decide (first ≤ x.id))) ∧ Below W.heap.size W w') := fun W hW g hg => containsVer_any _ l first g W (HV.out.below hW) hg
  have HCU : ∀ W, Below w.heap.size w W → Hid (Calls Tryz.prog 55 #[.slice a3 q c3, .func (.func 56) #[] #[]] W fun e w' => e = .returned (.bool (ad.any fun x => !pdays x.lo x.hi)) ∧ Below W.heap.size W w') := fun W hW => containsTup_any _ ad W (HAD.out.below hW)
  have HARG : Hid (argBad l at' first = true → applyE l cl ad at' first = 1) := fun h => by unfold applyE; rw [if_pos h]
  clear hv hcl had hid hci hn hm hq
  go_enter Tryz.func29, Tryz.ntmps29
  go_wp2_with fail
  refine (HIX _ (below_alloc_two w _ _)).out.mono ?_
  rintro e1 w1 ⟨h1, h2, hb1⟩
  have hB1 : Below w.heap.size w w1 := below_two' hb1
  have hdb : w1.heap[w.heap.size]? = some (.cells #[.slice a2 m c2, .slice a3 q c3] 42 (0, 0)) := (hb1.block w.heap.size (by simp; omega)).trans ((Below.heap_alloc _ _ _ (by simp)).trans (World.alloc_heap_new w _))
  have hfb : w1.heap[w.heap.size + 1]? = some (.cells #[.int .i64 first] 3 (0, 0)) := (hb1.block (w.heap.size + 1) (by simp)).trans (by simpa using World.alloc_heap_new (w.alloc (.cells #[.slice a2 m c2, .slice a3 q c3] 42)) (.cells #[.int .i64 first] 3))
  have hf0 : w1.cell? ⟨w.heap.size + 1, 0, none⟩ = some (.int .i64 first) := cell_of hfb rfl
  by_cases hnd : (l.map Ver.id).Nodup
  · obtain ⟨b, rfl, hO1, hbb⟩ := h1 hnd
    have HND := Lib.hid hnd
    have HO1 := Lib.hid hO1
    have HB1 := Lib.hid hB1
    have HD1 := Lib.hid hdb
    have hbl := hO1.lt
    clear h1 h2 hb1 hO1 hB1 hdb hfb hnd
    by_cases c1 : at' < 0
    · go_wp2_with fail
      refine bodyPost_ret (v := .tuple #[.map none, .int .i64 1]) (by simp [results, Tryz.results29, go_sem]) rfl ⟨1, (HARG.out (by rw [argBad_of HND.out]; simp [c1])).symm, fun h => absurd h (by decide), fun _ => rfl, HB1.out⟩
    by_cases c2 : 1099511627776 ≤ at'
    · go_wp2_with fail
      refine bodyPost_ret (v := .tuple #[.map none, .int .i64 1]) (by simp [results, Tryz.results29, go_sem]) rfl ⟨1, (HARG.out (by rw [argBad_of HND.out]; simp [c2])).symm, fun h => absurd h (by decide), fun _ => rfl, HB1.out⟩
    by_cases c3 : first < 1
    · go_wp2_with fail
      refine bodyPost_ret (v := .tuple #[.map none, .int .i64 1]) (by simp [results, Tryz.results29, go_sem]) rfl ⟨1, (HARG.out (by rw [argBad_of HND.out]; simp [c3])).symm, fun h => absurd h (by decide), fun _ => rfl, HB1.out⟩
    by_cases c4 : 1099511627776 < first
    · go_wp2_with fail
      refine bodyPost_ret (v := .tuple #[.map none, .int .i64 1]) (by simp [results, Tryz.results29, go_sem]) rfl ⟨1, (HARG.out (by rw [argBad_of HND.out]; simp [c4])).symm, fun h => absurd h (by decide), fun _ => rfl, HB1.out⟩
    obtain ⟨big, hbig⟩ : ∃ big, big = (l.any fun x => decide (first ≤ x.id)) := ⟨_, rfl⟩
    have HBIG := Lib.hid hbig
    have HCT1 := HCT w1 HB1.out _ hf0
    rw [← hbig] at HCT1
    have HBAD : Hid (argBad l at' first = big) := by show _ = _; rw [argBad_of HND.out, ← hbig]; simp [c1, c2, c3, c4]
    clear hbig HCT
    go_wp2_with fail
    refine HCT1.out.mono ?_
    rintro _ w2 ⟨rfl, hb2⟩
    have HB2 := Lib.hid (below_keep HB1.out hb2)
    have HO2 := Lib.hid (HO1.out.below hb2)
    have HD2 := Lib.hid (box_kept HD1.out hb2)
    have hbl2 : b < w2.heap.size := Nat.lt_of_lt_of_le hbl hb2.size
    clear hb2 HCT1 HO1 HD1
    cases big
    · have HAP : Hid (okC l cl = false → applyE l cl ad at' first = 11) := fun h => by unfold applyE; rw [HBAD.out, h]; rfl
      have HAQ : Hid (okC l cl = true → applyE l cl ad at' first = if lateC l cl at' then 10 else if ad.any (fun t => !pdays t.lo t.hi) then 10 else 0) := fun h => by unfold applyE; rw [HBAD.out, h]; rfl
      have hdb := ((below_alloc w2 (.map #[] 0)).block w.heap.size (Array.getElem?_eq_some_iff.1 HD2.out).1).trans HD2.out
      have d0 := cell_of (k := 0) hdb rfl
      have HM0 := Lib.hid (OwnIB.made w2)
      have hz2 := HB2.out.size
      clear hdb
      go_wp2_with fail
      go_loopw [50] (fun i wr => ∃ k : Nat, k ≤ m ∧ i = .int .i64 k ∧ OwnIB wr w2.heap.size k (clS l (cl.take k)) ∧ Hid (okC l (cl.take k) = true) ∧ Below w2.heap.size w2 wr) (fun i _ => m - (intOf i).toNat)
      case atStart => exact ⟨0, Nat.zero_le _, rfl, HM0.out, Lib.hid (okC_nil l), below_alloc _ _⟩
      case round =>
        obtain ⟨k, hk, rfl, hO, HK, hB⟩ := hrel
        obtain ⟨wo, rfl⟩ : ∃ wo : World, wo = wr := ⟨_, rfl⟩
        have hBw := HB2.out.trans (hB.mono hz2)
        by_cases hlt : k < m
        · obtain ⟨x, hx⟩ := lget_some cl k (by rw [← HM.out]; exact hlt)
          obtain ⟨bx, ox, rfl, p0⟩ := int_at (HCL.out.below hBw) hx
          have hxw := wf64 (HCI.out x (List.mem_of_getElem? hx))
          have hlook := (HO2.out.kept (kept_from hB) (by omega)).look hxw
          have HX := Lib.hid hx
          have HOo := Lib.hid hO
          have HBo := Lib.hid hB
          have HBw := Lib.hid hBw
          have HT : Hid (okC l (cl.take (k + 1)) = (curId l x && !(cl.take k).contains x)) := by show _ = _; rw [take_get HX.out, okC_snoc, HK.out, Bool.true_and]
          clear hx hO hB hBw hxw
          cases hp : posOf l x with
          | none =>
            have HF : Hid (okC l cl = false) := okC_take l cl (k + 1) (by rw [HT.out, curId_none hp]; rfl)
            rw [hp] at hlook
            simp only [Option.getD_none, Option.isSome_none] at hlook
            clear hp
            go_wp2_with fail
            refine bodyPost_ret (v := .tuple #[.map none, .int .i64 11]) (by simp [results, Tryz.results29, go_sem]) rfl ⟨11, (HAP.out (HF.out)).symm, fun h => absurd h (by decide), fun _ => rfl, HBw.out⟩
          | some c =>
            obtain ⟨i, y, rfl, hy, hyid⟩ := posOf_some hp
            have HP : Hid (posOf l x = some (i : Int)) := hp
            rw [hp] at hlook
            simp only [Option.getD_some, Option.isSome_some] at hlook
            have hil : i < n := by rw [HN.out]; exact (List.getElem?_eq_some_iff.1 hy).1
            have hiw : (Lit.int .i64 (i : Int)).wf = true := wf64 (by constructor <;> omega)
            have hlook2 := HOo.out.look hiw
            obtain ⟨bv, ov, av, cv, rfl, hvv, y0, y1, y2, y3, y4, y5⟩ := ver_at (HV.out.below HBw.out) hy
            have HCON : Hid (clS l (cl.take k) i = (cl.take k).contains x) := by show _ = _; rw [clS_at HND.out _ hy, hyid]
            have HCU2 : Hid (curId l x = (y.rhi == 1099511627776)) := by show _ = _; rw [← hyid, curId_at HND.out hy]
            have HIW := Lib.hid hiw
            have HKN : Hid (k < maxLen) := by show _ < _; have : maxLen = 9223372036854775807 := rfl; omega
            clear hp hy hvv hiw hyid
            obtain ⟨yid, yvals, ylo, yhi, yrlo, yrhi⟩ := y
            dsimp only at y0 y1 y2 y3 y4 y5 HCU2
            cases hs : clS l (cl.take k) i
            · rw [hs] at hlook2 HCON
              clear hs
              go_wp2_with fail
              refine (current_any ⟨yid, yvals, ylo, yhi, yrlo, yrhi⟩ _ _).mono ?_
              rintro _ w3 ⟨rfl, hb3⟩
              have HO3 := Lib.hid (HOo.out.below hb3)
              have HB3 := Lib.hid (HBo.out.trans (hb3.mono HBo.out.size))
              have HBw3 := Lib.hid (below_keep HBw.out hb3)
              clear hb3
              dsimp only
              obtain ⟨cur, hcur⟩ : ∃ cur, cur = (yrhi == 1099511627776) := ⟨_, rfl⟩
              rw [← hcur] at HCU2 ⊢
              clear hcur
              cases cur
              · have HF : Hid (okC l cl = false) := okC_take l cl (k + 1) (by rw [HT.out, HCU2.out]; rfl)
                go_wp2_with fail
                refine bodyPost_ret (v := .tuple #[.map none, .int .i64 11]) (by simp [results, Tryz.results29, go_sem]) rfl ⟨11, (HAP.out (HF.out)).symm, fun h => absurd h (by decide), fun _ => rfl, HBw3.out⟩
              · have HT2 : Hid (okC l (cl.take (k + 1)) = true) := by show _ = _; rw [HT.out, HCU2.out, ← HCON.out]; rfl
                go_wp2_with (at_mapUpdate; refine wpList_putIB _ rfl _ _ _ rfl w2.heap.size k (clS l (cl.take k)) rfl HO3.out HKN.out i rfl rfl HIW.out ?_; intro w4 hO4 hg4)
                go_roundw
                case rel =>
                  refine ⟨k + 1, by omega, by go_num, ?_, HT2, ?_⟩
                  · rw [take_get HX.out, clS_snoc HP.out]
                    exact hO4
                  · exact HB3.out.grown hg4 HB3.out.size (fun j hj => by cases hj; exact Nat.le_refl _)
                case measure => simp [intOf]; omega
            · have HF : Hid (okC l cl = false) := okC_take l cl (k + 1) (by rw [HT.out, ← HCON.out, hs]; simp)
              rw [hs] at hlook2
              clear hs
              go_wp2_with fail
              refine bodyPost_ret (v := .tuple #[.map none, .int .i64 11]) (by simp [results, Tryz.results29, go_sem]) rfl ⟨11, (HAP.out (HF.out)).symm, fun h => absurd h (by decide), fun _ => rfl, HBw.out⟩
        · have hF : cl.take k = cl := by rw [List.take_of_length_le (by rw [← HM.out]; omega)]
          rw [hF] at hO HK
          have HAQ1 := Lib.hid (HAQ.out HK.out)
          obtain ⟨D, hD1, hD2, hD3⟩ := hO
          have HD3 := Lib.hid hD3
          have HDH := Lib.hid hD2
          have HOD := Lib.hid hD1
          have HBw := Lib.hid hBw
          have hdo := (hB.block w.heap.size (Nat.lt_of_lt_of_le (Array.getElem?_eq_some_iff.1 HD2.out).1 (Nat.le_refl _))).trans HD2.out
          have HDO := Lib.hid hdo
          have hbC : w2.heap.size < wo.heap.size := hD1.lt
          clear hD1 hD2 hD3 hB hBw hdo HAQ HAP
          go_wp2_with (at_range; refine wpList_range_own _ rfl _ 75 rfl 3 4 int_law Tryz.underlying75 (plainElem Tryz.prog 4) w2.heap.size k D rfl HOD.out ?_; intro w5 hrg5 hg5 hs5)
          go_frame
          have HB5 : Hid (Below wo.heap.size wo w5) := (Below.refl _ _).grown hg5 (Nat.le_refl _) (fun j hj => by cases hj)
          have HRG := Lib.hid hrg5
          clear hrg5 hg5
          go_loopw [17] (fun _ wr => ∃ left cnt, wr.ranges Tryz.prog 3 (plainElem Tryz.prog 4) w2.heap.size wo.heap.size k D left cnt ∧ Hid (∀ (i : Nat) (x : Ver), l[i]? = some x → clS l cl i = true → left (.int .i64 i) = false → x.rlo ≤ at') ∧ Below wo.heap.size wo wr) (fun _ wr => wr.rangeLeft w2.heap.size wo.heap.size)
          case atStart =>
            refine ⟨_, _, HRG.out, Lib.hid (fun i x hx hc hf => ?_), HB5.out⟩
            have hil : i < n := by rw [HN.out]; exact (List.getElem?_eq_some_iff.1 hx).1
            rw [HDH.out _ (wf64 (by constructor <;> omega)), hc] at hf
            cases hf
          case round =>
            obtain ⟨left, cnt, hrg, HL, hB6⟩ := hrel
            obtain ⟨w6, rfl⟩ : ∃ w6 : World, w6 = wr := ⟨_, rfl⟩
            have HRG6 := Lib.hid hrg
            have HB6 := Lib.hid hB6
            clear hrg hB6
            go_wp2_with (at_next; refine wpList_nextIB _ rfl _ rfl w2.heap.size wo.heap.size k D left cnt rfl HRG6.out (fun x hx hh => HD3.out x hx (by rw [← HDH.out x hx]; exact hh)) ?_ ?_)
            · intro hl0
              have HLC : Hid (lateC l cl at' = false) := lateC_none HND.out (fun i x hx hc => Int.not_lt.2 (HL.out i x hx hc (hl0 _)))
              have hdb6 := (HB6.out.block w.heap.size (Nat.lt_of_lt_of_le (Array.getElem?_eq_some_iff.1 HDO.out).1 (Nat.le_refl _))).trans HDO.out
              have d1 := cell_of (k := 1) hdb6 rfl
              have HBw6 := Lib.hid (below_keep HBw.out HB6.out)
              have HCU6 := HCU w6 HBw6.out
              obtain ⟨bad, hbad⟩ : ∃ bad, bad = (ad.any fun x => !pdays x.lo x.hi) := ⟨_, rfl⟩
              rw [← hbad] at HCU6
              have HRES : Hid (applyE l cl ad at' first = if bad then 10 else 0) := by show _ = _; rw [HAQ1.out, HLC.out, hbad]; rfl
              have hown6 : OwnIB w6 w2.heap.size k (clS l cl) := ⟨D, HRG6.out.owns, HDH.out, HD3.out⟩
              have HOW := Lib.hid hown6
              clear hl0 hdb6 hbad hown6 HCU
              go_wp2_with fail
              refine HCU6.out.mono ?_
              rintro _ w8 ⟨rfl, hb8⟩
              have HB8 := Lib.hid (below_keep HBw6.out hb8)
              have HOW8 := Lib.hid (HOW.out.below hb8)
              clear hb8
              cases bad
              · go_wp2_with fail
                refine bodyPost_ret (v := .tuple #[.map (some w2.heap.size), .int .i64 0]) (by simp [results, Tryz.results29, go_sem]) rfl ⟨0, HRES.out.symm, fun _ => ⟨_, _, rfl, HOW8.out, hz2⟩, fun h => absurd rfl h, HB8.out⟩
              · go_wp2_with fail
                refine bodyPost_ret (v := .tuple #[.map none, .int .i64 10]) (by simp [results, Tryz.results29, go_sem]) rfl ⟨10, HRES.out.symm, fun h => absurd h (by decide), fun _ => rfl, HB8.out⟩
            · intro x w7 cnt7 hxw hhas hrg7 hlt7 hg7 hsz7 hen7
              have hsx : clS l cl x = true := by rw [← HDH.out x hxw]; exact hhas
              obtain ⟨i, y, rfl, hy⟩ := clS_lt hsx
              have hil : i < n := by rw [HN.out]; exact (List.getElem?_eq_some_iff.1 hy).1
              have HB7 : Hid (Below wo.heap.size wo w7) := HB6.out.grown hg7 HB6.out.size (fun j hj => by cases hj; exact Nat.le_refl _)
              have HBw7 := Lib.hid (below_keep HBw.out HB7.out)
              obtain ⟨bv, ov, av, cv, rfl, hvv, y0, y1, y2, y3, y4, y5⟩ := ver_at (HV.out.below HBw7.out) hy
              have HY := Lib.hid hy
              have HSX := Lib.hid hsx
              have HRG7 := Lib.hid hrg7
              have HLT7 := Lib.hid hlt7
              clear hhas hrg7 hg7 hsz7 hxw hy hvv hsx hlt7
              obtain ⟨yid, yvals, ylo, yhi, yrlo, yrhi⟩ := y
              dsimp only at y0 y1 y2 y3 y4 y5
              by_cases hlate : at' < yrlo
              · have HRES : Hid (applyE l cl ad at' first = 10) := by show _ = _; rw [HAQ1.out, lateC_some HND.out HY.out HSX.out hlate]; rfl
                go_wp2_with fail
                refine bodyPost_ret (v := .tuple #[.map none, .int .i64 10]) (by simp [results, Tryz.results29, go_sem]) rfl ⟨10, HRES.out.symm, fun h => absurd h (by decide), fun _ => rfl, HBw7.out⟩
              · go_wp2_with fail
                go_roundw
                case rel =>
                  refine ⟨_, _, HRG7.out, Lib.hid (fun j z hz hc hf => ?_), HB7.out⟩
                  by_cases hj : j = i
                  · subst hj
                    have := HY.out
                    rw [hz] at this
                    cases this
                    exact Int.not_lt.1 hlate
                  · refine HL.out j z hz hc ?_
                    cases hl1 : left (.int .i64 (j : Int))
                    · rfl
                    · rw [hl1, sameKey_ne (lit_ne (by omega))] at hf
                      cases hf
                case measure =>
                  rw [HRG7.out.left_eq, HRG6.out.left_eq]
                  exact HLT7.out
    · have HX : Hid (applyE l cl ad at' first = 1) := HARG.out HBAD.out
      go_wp2_with fail
      refine bodyPost_ret (v := .tuple #[.map none, .int .i64 1]) (by simp [results, Tryz.results29, go_sem]) rfl ⟨1, HX.out.symm, fun h => absurd h (by decide), fun _ => rfl, HB2.out⟩
  · have := h2 hnd
    subst this
    have HB1 := Lib.hid hB1
    have HX := Lib.hid (HARG.out (argBad_dup hnd at' first))
    clear h1 h2 hb1 hB1 hdb hfb hnd
    go_wp2_with fail
    refine bodyPost_ret (v := .tuple #[.map none, .int .i64 1]) (by simp [results, Tryz.results29, go_sem]) rfl ⟨1, HX.out.symm, fun h => absurd h (by decide), fun _ => rfl, HB1.out⟩
end Go.Proofs.YtfmbbfidjcgeiaaGreat

namespace Go.Proofs.YtfmbbfidjcgeiaaGreat
open Go.RowKit Go.Lib Go.Maps

theorem applyE_zero {l : List Ver} {cl : List Int} {ad : List Tup} {at' first : Int} (h : applyE l cl ad at' first = 0) : (l.map Ver.id).Nodup ∧ 1 ≤ first ∧ first ≤ 1099511627776 := by
  unfold applyE at h
  cases hb : argBad l at' first
  · unfold argBad at hb
    simp at hb
    exact ⟨by simpa using hb.2, by omega, by omega⟩
  · rw [hb] at h
    simp at h
theorem below_allocA {B n : Nat} {a w : World} {o : Obj} (h : Below B a w) (h1 : n + 1 ≤ w.heap.size) (h2 : B ≤ n) : Below B a (w.alloc o) := h.alloc (by omega) o
theorem size_keepA {n : Nat} {W W' : World} (h : n ≤ W.heap.size) (hb : Below W.heap.size W W') : n ≤ W'.heap.size := Nat.le_trans h hb.size
theorem size_allocA {n : Nat} {W : World} {o : Obj} (h : n ≤ W.heap.size) : n ≤ (W.alloc o).heap.size := by simp; omega
theorem box_six {w : World} {g : Nat} {a b c d e f : Value} {t : TypeId} (h : w.heap[g]? = some (.cells #[a, b, c, d, e, f] t (0, 0))) :
    w.cell? ⟨g, 0, none⟩ = some a ∧ w.cell? ⟨g, 1, none⟩ = some b ∧ w.cell? ⟨g, 2, none⟩ = some c ∧ w.cell? ⟨g, 3, none⟩ = some d ∧ w.cell? ⟨g, 4, none⟩ = some e ∧ w.cell? ⟨g, 5, none⟩ = some f ∧ ∀ j, w.frozen? ⟨g, j, none⟩ = false := by
  refine ⟨cell_of h rfl, cell_of h rfl, cell_of h rfl, cell_of h rfl, cell_of h rfl, cell_of h rfl, fun j => ?_⟩
  simp [World.frozen?, h]
set_option maxHeartbeats 4000000 in
set_option maxRecDepth 100000 in
theorem apply_ver (v vc va : Value) (l : List Ver) (cl : List Int) (ad : List Tup) (at' first : Int) (w : World) (hv : Sl verE w free v l) (hcl : Sl intE w free vc cl) (had : Tups w va ad) (hl : l.length ≤ 1000) (hcn : cl.length ≤ 1000) (han : ad.length ≤ 1000) (hid : ∀ x ∈ l, In64 x.id) (hci : ∀ x ∈ cl, In64 x) (hvl : ∀ x ∈ l, x.vals.length ≤ 1000) (hal : ∀ x ∈ ad, x.vals.length ≤ 1000) :
    Calls Tryz.prog 15 #[v, .agg #[vc, va], .int .i64 at', .int .i64 first] w fun e w' => ∃ r : Int, Hid (r = applyE l cl ad at' first) ∧ (r = 0 → ∃ vo, e = .returned (.tuple #[vo, .int .i64 0]) ∧ Sl verE w' free vo (applyL l cl ad at' first)) ∧ (r ≠ 0 → e = .returned (.tuple #[.slice none 0 0, .int .i64 r])) ∧ Below w.heap.size w w' := by
  have HCH : ∀ W, Below w.heap.size w W → Hid (Calls Tryz.prog 29 #[v, .agg #[vc, va], .int .i64 at', .int .i64 first] W fun e w' => ∃ r : Int, Hid (r = applyE l cl ad at' first) ∧ (r = 0 → ∃ b n, e = .returned (.tuple #[.map (some b), .int .i64 0]) ∧ OwnIB w' b n (clS l cl) ∧ W.heap.size ≤ b) ∧ (r ≠ 0 → e = .returned (.tuple #[.map none, .int .i64 r])) ∧ Below W.heap.size W w') := fun W hW => check_any v vc va l cl ad at' first W (hv.below hW) (hcl.below hW) (had.below hW) hl hcn hid hci
  obtain ⟨a, c, rfl⟩ := hv.shape
  obtain ⟨a2, c2, rfl⟩ := hcl.shape
  obtain ⟨a3, c3, rfl⟩ := had.shape
  have HV := Lib.hid hv
  have HAD := Lib.hid had
  have HVL := Lib.hid hvl
  have HAL := Lib.hid hal
  obtain ⟨n, hn⟩ : ∃ n, n = l.length := ⟨_, rfl⟩
  obtain ⟨q, hq⟩ : ∃ q, q = ad.length := ⟨_, rfl⟩
  obtain ⟨mc, hmc⟩ : ∃ mc, mc = cl.length := ⟨_, rfl⟩
  have HN := Lib.hid hn
  have HQ := Lib.hid hq
  rw [← hn] at hl HV HCH ⊢
  rw [← hq] at han HAD HCH ⊢
  rw [← hmc] at HCH ⊢
  clear hv hcl had hid hci hvl hal hn hq hmc hcn
  go_enter Tryz.func15, Tryz.ntmps15
  go_wp2_with fail
  refine (HCH _ (below_alloc w _)).out.mono ?_
  rintro e1 w1 ⟨r, HR, h1, h2, hb1⟩
  have hdb := block_new w _ _ hb1
  have hB1 := below_alloc2' hb1
  have HB1 := Lib.hid hB1
  have HD1 := Lib.hid hdb
  by_cases hr : r = 0
  · subst hr
    obtain ⟨b, nb, rfl, hO1, hbb⟩ := h1 rfl
    obtain ⟨hnd, hf1, hf2⟩ := applyE_zero HR.out.symm
    have HND := Lib.hid hnd
    have HO1 := Lib.hid hO1
    have hbl := hO1.lt
    have hz1 := hB1.size
    clear h1 h2 hb1 hB1 hdb hO1 hnd
    go_wp2_with fail
    go_loopw [30, 12] (fun i o wr => ∃ k : Nat, k ≤ n ∧ i = .int .i64 k ∧ Own verE wr w1.heap.size o ((l.take k).flatMap (keepOne cl at')) ∧ Below w1.heap.size w1 wr) (fun i _ _ => n - (intOf i).toNat)
    case atStart => exact ⟨0, Nat.zero_le _, rfl, Own.nil _ _ _, Below.refl _ _⟩
    case round =>
      obtain ⟨k, hk, rfl, hO, hB⟩ := hrel
      obtain ⟨wo, rfl⟩ : ∃ wo : World, wo = wr := ⟨_, rfl⟩
      obtain ⟨lk, hlke⟩ : ∃ lk, lk = (l.take k).flatMap (keepOne cl at') := ⟨_, rfl⟩
      rw [← hlke] at hO
      obtain ⟨ao, co, rfl⟩ := hO.shape
      have hBw := HB1.out.trans (hB.mono hz1)
      have hzo := hB.size
      by_cases hlt : k < n
      · obtain ⟨x, hx⟩ := lget_some l k (by rw [← HN.out]; exact hlt)
        obtain ⟨bv, ov, av, cv, rfl, hvv, p0, p1, p2, p3, p4, p5⟩ := ver_at (HV.out.below hBw) hx
        have HCON : clS l cl k = cl.contains x.id := clS_at HND.out cl hx
        have hkw : (Lit.int .i64 (k : Int)).wf = true := wf64 (by constructor <;> omega)
        have HXL := Lib.hid (HVL.out x (List.mem_of_getElem? hx))
        have hlk : ((l.take k).flatMap (keepOne cl at')).length ≤ 1000 := Nat.le_trans (keepOne_length _ _ _) (by rw [List.length_take]; omega)
        have HT : Hid ((l.take (k + 1)).flatMap (keepOne cl at') = (l.take k).flatMap (keepOne cl at') ++ keepOne cl at' x) := by show _ = _; rw [take_get hx, List.flatMap_append, List.flatMap_cons, List.flatMap_nil, List.append_nil]
        rw [← hlke] at HT hlk
        obtain ⟨xid, xvals, xlo, xhi, xrlo, xrhi⟩ := x
        dsimp only at p0 p1 p2 p3 p4 p5 HCON HXL
        obtain ⟨nv, hnv⟩ : ∃ nv, nv = xvals.length := ⟨_, rfl⟩
        dsimp only at hvv
        rw [← hnv] at p1 hvv
        have HNV := Lib.hid hnv
        have HVV := Lib.hid hvv
        have HO := Lib.hid hO
        have HB := Lib.hid hB
        have hOM := (HO1.out.below (hB.mono (Nat.le_refl _))).below (below_alloc wo (.cells #[.int .i64 xid, .slice av nv cv, .int .i64 xlo, .int .i64 xhi, .int .i64 xrlo, .int .i64 xrhi] 64))
        have hlook := hOM.look hkw
        rw [HCON] at hlook
        clear hx hvv hO hB hBw hkw hOM HCON hlke hnv
        cases hc : cl.contains xid
        · have HK : Hid (keepOne cl at' ⟨xid, xvals, xlo, xhi, xrlo, xrhi⟩ = [⟨xid, xvals, xlo, xhi, xrlo, xrhi⟩]) := by show _ = _; unfold keepOne; dsimp only; rw [hc]; rfl
          rw [hc] at hlook
          clear hc
          have HVB := Lib.hid (World.alloc_heap_new wo (.cells #[.int .i64 xid, .slice av nv cv, .int .i64 xlo, .int .i64 xhi, .int .i64 xrlo, .int .i64 xrhi] 64))
          have HBB := Lib.hid (below_alloc wo (.cells #[.int .i64 xid, .slice av nv cv, .int .i64 xlo, .int .i64 xhi, .int .i64 xrlo, .int .i64 xrhi] 64))
          have HZB : Hid (wo.heap.size < (wo.alloc (.cells #[.int .i64 xid, .slice av nv cv, .int .i64 xlo, .int .i64 xhi, .int .i64 xrlo, .int .i64 xrhi] 64)).heap.size) := by show _ < _; simp
          have HSL : Hid (Sl valE (wo.alloc (.cells #[.int .i64 xid, .slice av nv cv, .int .i64 xlo, .int .i64 xhi, .int .i64 xrlo, .int .i64 xrhi] 64)) free (.slice av nv cv) xvals) := HVV.out.below HBB.out
          go_wp2_with fail
          refine (cloneVals_own _ xvals _ HSL.out HXL.out).mono ?_
          rintro _ w3 ⟨vC, rfl, hOC, hbC⟩
          obtain ⟨aC, cC, rfl⟩ := hOC.shape
          have hv3 := box_kept HVB.out hbC
          obtain ⟨z0, z1, z2, z3, z4, z5, zf⟩ := box_six hv3
          have hv4 : (w3.setCell ⟨wo.heap.size, 1, none⟩ (.slice aC xvals.length cC)).heap[wo.heap.size]? = some (.cells #[.int .i64 xid, .slice aC xvals.length cC, .int .i64 xlo, .int .i64 xhi, .int .i64 xrlo, .int .i64 xrhi] 64 (0, 0)) := by rw [heap_setCell_same _ _ _ _ _ _ hv3]; rfl
          obtain ⟨y0, y1, y2, y3, y4, y5, yf⟩ := box_six hv4
          have hb3 : Below wo.heap.size wo (w3.setCell ⟨wo.heap.size, 1, none⟩ (.slice aC xvals.length cC)) := (HBB.out.trans (hbC.mono (Nat.le_of_lt HZB.out))).setCell (Nat.le_refl _) _
          have HO3 := Lib.hid (HO.out.below hb3)
          have HB3 := Lib.hid (HB.out.trans (hb3.mono hzo))
          have hsl3 : Sl valE (w3.setCell ⟨wo.heap.size, 1, none⟩ (.slice aC xvals.length cC)) (fun k => some k = (Value.slice ao lk.length co).ownBlock) (.slice aC xvals.length cC) xvals := ((own_vals_from hOC).kept (kept_set (G := fun k => k < (wo.alloc (.cells #[.int .i64 xid, .slice av nv cv, .int .i64 xlo, .int .i64 xhi, .int .i64 xrlo, .int .i64 xrhi] 64)).heap.size) (q := ⟨wo.heap.size, 1, none⟩) HZB.out)).mono (fun j _ hj => Nat.lt_trans (HO.out.lt j hj.symm).2 HZB.out)
          have HIS : Hid (Els verE (w3.setCell ⟨wo.heap.size, 1, none⟩ (.slice aC xvals.length cC)) (fun k => some k = (Value.slice ao lk.length co).ownBlock) [⟨xid, xvals, xlo, xhi, xrlo, xrhi⟩] [.int .i64 xid, .slice aC xvals.length cC, .int .i64 xlo, .int .i64 xhi, .int .i64 xrlo, .int .i64 xrhi]) := Els.one ⟨_, rfl, hsl3⟩
          have hz3 : w1.heap.size ≤ (w3.setCell ⟨wo.heap.size, 1, none⟩ (.slice aC xvals.length cC)).heap.size := HB3.out.size
          obtain ⟨nc, hnc⟩ : ∃ nc, nc = xvals.length := ⟨_, rfl⟩
          clear hOC hbC hv3 hv4 hb3 hsl3
          go_wp2_with (at_builtin; refine wpList_push rfl (.tmp 50) (.tmp 52) 25 rfl verE Tryz.underlying25 w1.heap.size (.slice ao lk.length co) lk rfl HO3.out [⟨xid, xvals, xlo, xhi, xrlo, xrhi⟩] #[.int .i64 xid, .slice aC xvals.length cC, .int .i64 xlo, .int .i64 xhi, .int .i64 xrlo, .int .i64 xrhi] HIS.out 1 1 rfl (show Value.slice (some ⟨w3.heap.size, 0, none⟩) 1 1 = .slice (some ⟨(w3.setCell ⟨wo.heap.size, 1, none⟩ (.slice aC xvals.length cC)).heap.size, 0, none⟩) 1 1 by simp [World.setCell]) (by decide) (by unfold maxLen; omega) (by show _ * 64 ≤ _; omega) hz3 ?_; intro g cap w5 hP hPa)
          go_roundw
          case rel => exact ⟨k + 1, by omega, by go_num, by rw [HT.out, HK.out]; exact hP.own' (by simp), HB3.out.trans (hP.below)⟩
          case measure => simp [intOf]; omega
        · rw [hc] at hlook
          by_cases hat : (xrlo == at') = true
          · have HK : Hid (keepOne cl at' ⟨xid, xvals, xlo, xhi, xrlo, xrhi⟩ = []) := by show _ = _; unfold keepOne; dsimp only; rw [hc, hat]; rfl
            clear hc
            go_wp2_with fail
            go_roundw
            case rel => exact ⟨k + 1, by omega, by go_num, by rw [HT.out, HK.out, List.append_nil]; exact HO.out.below (below_alloc _ _), HB.out.trans ((below_alloc_from _ _ hzo))⟩
            case measure => simp [intOf]; omega
          · replace hat : (xrlo == at') = false := by simpa using hat
            have HK : Hid (keepOne cl at' ⟨xid, xvals, xlo, xhi, xrlo, xrhi⟩ = [⟨xid, xvals, xlo, xhi, xrlo, at'⟩]) := by show _ = _; unfold keepOne; dsimp only; rw [hc, hat]; rfl
            clear hc
            obtain ⟨s0, s1, s2, s3, s4, s5, sf⟩ := box_six (World.alloc_heap_new wo (.cells #[.int .i64 xid, .slice av nv cv, .int .i64 xlo, .int .i64 xhi, .int .i64 xrlo, .int .i64 xrhi] 64))
            have HVB := Lib.hid (World.alloc_heap_new wo (.cells #[.int .i64 xid, .slice av nv cv, .int .i64 xlo, .int .i64 xhi, .int .i64 xrlo, .int .i64 at'] 64))
            have HBB := Lib.hid (below_alloc wo (.cells #[.int .i64 xid, .slice av nv cv, .int .i64 xlo, .int .i64 xhi, .int .i64 xrlo, .int .i64 at'] 64))
            have HZB : Hid (wo.heap.size < (wo.alloc (.cells #[.int .i64 xid, .slice av nv cv, .int .i64 xlo, .int .i64 xhi, .int .i64 xrlo, .int .i64 at'] 64)).heap.size) := by show _ < _; simp
            have HSL : Hid (Sl valE (wo.alloc (.cells #[.int .i64 xid, .slice av nv cv, .int .i64 xlo, .int .i64 xhi, .int .i64 xrlo, .int .i64 at'] 64)) free (.slice av nv cv) xvals) := HVV.out.below HBB.out
            go_wp2_with fail
            refine (cloneVals_own _ xvals _ HSL.out HXL.out).mono ?_
            rintro _ w3 ⟨vC, rfl, hOC, hbC⟩
            obtain ⟨aC, cC, rfl⟩ := hOC.shape
            have hv3 := box_kept HVB.out hbC
            obtain ⟨z0, z1, z2, z3, z4, z5, zf⟩ := box_six hv3
            have hv4 : (w3.setCell ⟨wo.heap.size, 1, none⟩ (.slice aC xvals.length cC)).heap[wo.heap.size]? = some (.cells #[.int .i64 xid, .slice aC xvals.length cC, .int .i64 xlo, .int .i64 xhi, .int .i64 xrlo, .int .i64 at'] 64 (0, 0)) := by rw [heap_setCell_same _ _ _ _ _ _ hv3]; rfl
            obtain ⟨y0, y1, y2, y3, y4, y5, yf⟩ := box_six hv4
            have hb3 : Below wo.heap.size wo (w3.setCell ⟨wo.heap.size, 1, none⟩ (.slice aC xvals.length cC)) := (HBB.out.trans (hbC.mono (Nat.le_of_lt HZB.out))).setCell (Nat.le_refl _) _
            have HO3 := Lib.hid (HO.out.below hb3)
            have HB3 := Lib.hid (HB.out.trans (hb3.mono hzo))
            have hsl3 : Sl valE (w3.setCell ⟨wo.heap.size, 1, none⟩ (.slice aC xvals.length cC)) (fun k => some k = (Value.slice ao lk.length co).ownBlock) (.slice aC xvals.length cC) xvals := ((own_vals_from hOC).kept (kept_set (G := fun k => k < (wo.alloc (.cells #[.int .i64 xid, .slice av nv cv, .int .i64 xlo, .int .i64 xhi, .int .i64 xrlo, .int .i64 at'] 64)).heap.size) (q := ⟨wo.heap.size, 1, none⟩) HZB.out)).mono (fun j _ hj => Nat.lt_trans (HO.out.lt j hj.symm).2 HZB.out)
            have HIS : Hid (Els verE (w3.setCell ⟨wo.heap.size, 1, none⟩ (.slice aC xvals.length cC)) (fun k => some k = (Value.slice ao lk.length co).ownBlock) [⟨xid, xvals, xlo, xhi, xrlo, at'⟩] [.int .i64 xid, .slice aC xvals.length cC, .int .i64 xlo, .int .i64 xhi, .int .i64 xrlo, .int .i64 at']) := Els.one ⟨_, rfl, hsl3⟩
            have hz3 : w1.heap.size ≤ (w3.setCell ⟨wo.heap.size, 1, none⟩ (.slice aC xvals.length cC)).heap.size := HB3.out.size
            obtain ⟨nc, hnc⟩ : ∃ nc, nc = xvals.length := ⟨_, rfl⟩
            clear hOC hbC hv3 hv4 hb3 hsl3
            go_wp2_with (at_builtin; refine wpList_push rfl (.tmp 50) (.tmp 52) 25 rfl verE Tryz.underlying25 w1.heap.size (.slice ao lk.length co) lk rfl HO3.out [⟨xid, xvals, xlo, xhi, xrlo, at'⟩] #[.int .i64 xid, .slice aC xvals.length cC, .int .i64 xlo, .int .i64 xhi, .int .i64 xrlo, .int .i64 at'] HIS.out 1 1 rfl (show Value.slice (some ⟨w3.heap.size, 0, none⟩) 1 1 = .slice (some ⟨(w3.setCell ⟨wo.heap.size, 1, none⟩ (.slice aC xvals.length cC)).heap.size, 0, none⟩) 1 1 by simp [World.setCell]) (by decide) (by unfold maxLen; omega) (by show _ * 64 ≤ _; omega) hz3 ?_; intro g cap w5 hP hPa)
            go_roundw
            case rel => exact ⟨k + 1, by omega, by go_num, by rw [HT.out, HK.out]; exact hP.own' (by simp), HB3.out.trans (hP.below)⟩
            case measure => simp [intOf]; omega
      · have hF : l.take k = l := by rw [List.take_of_length_le (by rw [← HN.out]; omega)]
        rw [hF] at hlke
        have HLK := Lib.hid hlke
        have hlkl : lk.length ≤ 1000 := by rw [hlke]; exact Nat.le_trans (keepOne_length _ _ _) (by rw [← HN.out]; exact hl)
        have hdo := (hB.block w.heap.size (Array.getElem?_eq_some_iff.1 HD1.out).1).trans HD1.out
        have d1 : wo.cell? ⟨w.heap.size, 1, none⟩ = some (.slice a3 q c3) := cell_of hdo rfl
        have HO := Lib.hid hO
        have HB := Lib.hid hB
        clear hF hlke hO hB hBw hdo
        go_wp2_with fail
        go_loopw [58, 12] (fun i o wr => ∃ k : Nat, k ≤ q ∧ i = .int .i64 k ∧ Own verE wr w1.heap.size o (lk ++ newV at' first (ad.take k)) ∧ Below w1.heap.size w1 wr) (fun i _ _ => q - (intOf i).toNat)
        case atStart => exact ⟨0, Nat.zero_le _, rfl, by rw [List.take_zero]; simpa [newV] using HO.out, HB.out⟩
        case round =>
          obtain ⟨j, hj, rfl, hO, hB⟩ := hrel
          obtain ⟨wo, rfl⟩ : ∃ wo : World, wo = wr := ⟨_, rfl⟩
          obtain ⟨lj, hlje⟩ : ∃ lj, lj = lk ++ newV at' first (ad.take j) := ⟨_, rfl⟩
          rw [← hlje] at hO
          have hljl : lj.length ≤ 2000 := by rw [hlje, List.length_append, newV_length, List.length_take]; omega
          obtain ⟨ao, co, rfl⟩ := hO.shape
          have hBw := HB1.out.trans (hB.mono hz1)
          have hzo := hB.size
          by_cases hlt2 : j < q
          · obtain ⟨x, hx⟩ := lget_some ad j (by rw [← HQ.out]; exact hlt2)
            obtain ⟨bt, ot, tv, tc, te, tm, rfl, hvv, _, p0, p1, p2, p3⟩ := tups_at (HAD.out.below hBw) hx
            have HXL := Lib.hid (HAL.out x (List.mem_of_getElem? hx))
            have HT : Hid (lk ++ newV at' first (ad.take (j + 1)) = lj ++ [⟨first + j, x.vals, x.lo, x.hi, at', 1099511627776⟩]) := by show _ = _; rw [take_get hx, newV_snoc, hlje, List.length_take, List.append_assoc, Nat.min_eq_left (by rw [← HQ.out]; exact hj)]
            obtain ⟨xvals, xlo, xhi, xlin⟩ := x
            dsimp only at p0 p1 p2 p3 HXL HT hvv
            obtain ⟨nt, hnt⟩ : ∃ nt, nt = xvals.length := ⟨_, rfl⟩
            obtain ⟨nl, hnl⟩ : ∃ nl, nl = xlin.length := ⟨_, rfl⟩
            rw [← hnt] at p0 hvv
            rw [← hnl] at p3
            have HVV := Lib.hid hvv
            have HOj := Lib.hid hO
            have HBj := Lib.hid hB
            have hne : some wo.heap.size ≠ (Value.slice ao lj.length co).ownBlock := fun e => by have := (hO.lt _ e.symm).2; omega
            have hb0 : Below w1.heap.size wo (wo.alloc (.cells #[.slice tv nt tc, .int .i64 xlo, .int .i64 xhi, .slice te nl tm] 70)) := below_alloc_from _ _ hzo
            have hs0 : wo.heap.size + 1 ≤ (wo.alloc (.cells #[.slice tv nt tc, .int .i64 xlo, .int .i64 xhi, .slice te nl tm] 70)).heap.size := by simp
            have t0 : (wo.alloc (.cells #[.slice tv nt tc, .int .i64 xlo, .int .i64 xhi, .slice te nl tm] 70)).cell? ⟨wo.heap.size, 0, none⟩ = some (.slice tv nt tc) := cell_of (World.alloc_heap_new wo (.cells #[.slice tv nt tc, .int .i64 xlo, .int .i64 xhi, .slice te nl tm] 70)) rfl
            have t1 : (wo.alloc (.cells #[.slice tv nt tc, .int .i64 xlo, .int .i64 xhi, .slice te nl tm] 70)).cell? ⟨wo.heap.size, 1, none⟩ = some (.int .i64 xlo) := cell_of (World.alloc_heap_new wo (.cells #[.slice tv nt tc, .int .i64 xlo, .int .i64 xhi, .slice te nl tm] 70)) rfl
            have t2 : (wo.alloc (.cells #[.slice tv nt tc, .int .i64 xlo, .int .i64 xhi, .slice te nl tm] 70)).cell? ⟨wo.heap.size, 2, none⟩ = some (.int .i64 xhi) := cell_of (World.alloc_heap_new wo (.cells #[.slice tv nt tc, .int .i64 xlo, .int .i64 xhi, .slice te nl tm] 70)) rfl
            have HCLN : Hid (Calls Tryz.prog 23 #[.slice tv nt tc] (wo.alloc (.cells #[.slice tv nt tc, .int .i64 xlo, .int .i64 xhi, .slice te nl tm] 70)).drew (RetOwn valE (wo.alloc (.cells #[.slice tv nt tc, .int .i64 xlo, .int .i64 xhi, .slice te nl tm] 70)).drew xvals)) := cloneVals_own _ xvals _ ((HVV.out.below (below_alloc _ _)).below (Below.refl _ _).drew) HXL.out
            have hfj : IntKind.i64.wrap (first + (j : Int)) = first + j := IntWalk.i64_in _ (by omega)
            clear hx hvv hO hB hBw hlje hnt hnl
            go_wp2_with fail
            go_region_held3 (fun W => Below w1.heap.size wo W ∧ wo.heap.size + 1 ≤ W.heap.size ∧ W.cell? ⟨wo.heap.size, 0, none⟩ = some (.slice tv nt tc) ∧ W.cell? ⟨wo.heap.size, 1, none⟩ = some (.int .i64 xlo) ∧ W.cell? ⟨wo.heap.size, 2, none⟩ = some (.int .i64 xhi))
              ((go_split_ands; refine ⟨?_, ?_, ?_, ?_, ?_⟩ <;> first | (with_reducible assumption) | with_reducible exact Below.drew (by assumption) | with_reducible exact size_drewA (by assumption) | with_reducible exact cell_drew (by assumption) | with_reducible exact below_tr3 (by assumption) (by assumption) (by assumption) | with_reducible exact size_keepA (by assumption) (by assumption) | with_reducible exact cell_keep (by assumption) (by assumption) | with_reducible exact below_allocA (by assumption) (by assumption) (by assumption) | with_reducible exact size_allocA (by assumption) | with_reducible exact cell_alloc (by assumption)))
              (first
                | (go_at_call 23; go_split_ands; refine HCLN.out.mono ?_; rintro e' wC ⟨vC, rfl, hOC, hbC⟩; obtain ⟨aC, cC, rfl⟩ := hOC.shape; have hCz : wo.heap.size + 1 ≤ wC.heap.size := Nat.le_trans hs0 hbC.size; have hCb : Below w1.heap.size wo wC := hb0.drew.trans (hbC.mono (Nat.le_trans hzo (Nat.le_of_succ_le hs0))); have hC0 := cell_keep hbC (cell_drew t0); have hC1 := cell_keep hbC (cell_drew t1); have hC2 := cell_keep hbC (cell_drew t2); have hCw : w1.heap.size ≤ wC.heap.size := Nat.le_trans hzo (Nat.le_of_succ_le hCz); have hslC : Sl valE wC (fun k => some k = (Value.slice ao lj.length co).ownBlock) (.slice aC xvals.length cC) xvals := (own_vals_from hOC).mono (fun i _ hi => Nat.lt_of_lt_of_le (HOj.out.lt i hi.symm).2 (by show _ ≤ (World.alloc _ _).heap.size; simp)); have HOC := Lib.hid (((HOj.out.below (below_alloc _ _)).below (Below.refl _ _).drew).below hbC); have HIS : Hid (Els verE wC (fun k => some k = (Value.slice ao lj.length co).ownBlock) [⟨first + j, xvals, xlo, xhi, at', 1099511627776⟩] [.int .i64 (first + j), .slice aC xvals.length cC, .int .i64 xlo, .int .i64 xhi, .int .i64 at', .int .i64 1099511627776]) := Els.one ⟨_, rfl, hslC⟩)
                | (refine step_push rfl (.tmp 63) (.tmp 75) 25 rfl verE Tryz.underlying25 w1.heap.size (.slice ao lj.length co) lj rfl HOC.out [⟨first + j, xvals, xlo, xhi, at', 1099511627776⟩] #[.int .i64 (first + j), .slice aC xvals.length cC, .int .i64 xlo, .int .i64 xhi, .int .i64 at', .int .i64 1099511627776] HIS.out 1 1 rfl rfl (by decide) (by unfold maxLen; omega) (by show _ * 64 ≤ _; omega) hCw ?_; intro g cap w5 hP hPa; have qb := Below.trans hCb hP.below; have qs : wo.heap.size + 1 ≤ w5.heap.size := Nat.le_trans hCz hP.below.size; have k0 := hP.cell hne hC0; have k1 := hP.cell hne hC1; have k2 := hP.cell hne hC2))
            have HP := Lib.hid hP
            have HQB := Lib.hid qb
            clear hP hPa qb qs k0 k1 k2
            go_wp2_with fail
            go_roundw
            case rel => exact ⟨j + 1, by omega, by go_num, by rw [HT.out]; exact HP.out.own' (by simp), HBj.out.trans HQB.out⟩
            case measure => simp [intOf]; omega
          · have hF2 : ad.take j = ad := by rw [List.take_of_length_le (by rw [← HQ.out]; omega)]
            have HRES : Hid (applyL l cl ad at' first = lj) := by show _ = _; rw [applyL, ← HLK.out, hlje, hF2]
            have HOj := Lib.hid hO
            have HBw := Lib.hid hBw
            clear hF2 hlje hO hB hBw
            go_wp2_with fail
            refine bodyPost_ret (v := .tuple #[.slice ao lj.length co, .int .i64 0]) (by simp [results, Tryz.results15, go_sem]) rfl ⟨0, HR, fun _ => ⟨_, rfl, ?_⟩, fun h => absurd rfl h, HBw.out⟩
            rw [HRES.out]
            exact HOj.out.sl
  · have := h2 hr
    subst this
    clear h1 h2 hb1 hB1 hdb HD1
    have hrb : (r != 0) = true := by simpa using hr
    go_wp2_with fail
    refine bodyPost_ret (v := .tuple #[.slice none 0 0, .int .i64 r]) (by simp [results, Tryz.results15, go_sem]) rfl ⟨r, HR, fun h => absurd h hr, fun _ => rfl, HB1.out⟩
end Go.Proofs.YtfmbbfidjcgeiaaGreat
