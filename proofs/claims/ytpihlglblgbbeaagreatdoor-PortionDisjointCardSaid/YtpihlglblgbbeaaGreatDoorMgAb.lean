/- A part of the proofs: Isv, ExpH, ExpI, EvlP, EvlA, EvlB, EvlC, EvlD, EvlE, EvlF. No condition beside sizes and tables that read as laid. -/
import Derived.Test.YtpihlglblgbbeaaGreatDoorMgAa
namespace Go.Proofs.YtpihlglblgbbeaaGreatDoor
open Go.RowKit Go.Lib

/-- A version laid in behind those that are not greater. -/
def insRev (x : Ver) : List Ver → List Ver
  | [] => [x]
  | y :: ys => if x.id < y.id then y :: insRev x ys else x :: y :: ys
def insV (x : Ver) (s : List Ver) : List Ver := (insRev x s.reverse).reverse
theorem insV_nil (x : Ver) : insV x [] = [x] := rfl
theorem insV_snoc (x y : Ver) (s : List Ver) : insV x (s ++ [y]) = if x.id < y.id then insV x s ++ [y] else s ++ [y, x] := by
  unfold insV
  rw [List.reverse_append]
  show (if x.id < y.id then _ else _ : List Ver).reverse = _
  split <;> simp
theorem insV_length (x : Ver) (s : List Ver) : (insV x s).length = s.length + 1 := by
  have h : ∀ l, (insRev x l).length = l.length + 1 := by
    intro l
    induction l with
    | nil => rfl
    | cons y ys ih => unfold insRev; split <;> simp [ih]
  unfold insV
  rw [List.length_reverse, h, List.length_reverse]
/-- Sorted by numbers, equal numbers in their order. -/
def sortV (l : List Ver) : List Ver := l.foldl (fun s x => insV x s) []
theorem sortV_snoc (l : List Ver) (x : Ver) : sortV (l ++ [x]) = insV x (sortV l) := by unfold sortV; rw [List.foldl_append]; rfl
theorem sortV_length (l : List Ver) : (sortV l).length = l.length := by
  suffices h : ∀ s, (l.foldl (fun s x => insV x s) s).length = s.length + l.length by simpa [sortV] using h []
  induction l with
  | nil => intro s; rfl
  | cons x l ih => intro s; simp only [List.foldl_cons, ih, insV_length, List.length_cons]; omega
theorem below_tr3 {B : Nat} {w W w' : World} (hs : B ≤ w.heap.size) (h : Below B w W) (hB : Below W.heap.size W w') : Below B w w' := h.trans (hB.mono (Nat.le_trans hs h.size))

set_option maxHeartbeats 1000000 in
theorem cmpVer_any (x y : Ver) (vx vy : Value) (w : World) :
    Calls Tryz.prog 54 #[.agg #[.int .i64 x.id, vx, .int .i64 x.lo, .int .i64 x.hi, .int .i64 x.rlo, .int .i64 x.rhi], .agg #[.int .i64 y.id, vy, .int .i64 y.lo, .int .i64 y.hi, .int .i64 y.rlo, .int .i64 y.rhi]] w fun e w' =>
      e = .returned (.int .i64 (cmpI x.id y.id)) ∧ Below w.heap.size w w' := by
  have HC : ∀ W, Hid (Calls Tryz.prog 55 #[.int .i64 x.id, .int .i64 y.id] W fun e w' => e = .returned (.int .i64 (cmpI x.id y.id)) ∧ W = w') := fun W => cmpInt_any _ _ W
  go_enter Tryz.func54, Tryz.ntmps54
  go_wp2_with fail
  refine (HC _).out.mono ?_
  rintro e w2 ⟨rfl, rfl⟩
  go_wp2_with fail
  go_ret
  exact ⟨rfl, below_alloc_two w _ _⟩
set_option maxHeartbeats 4000000 in
set_option maxRecDepth 100000 in
theorem isort_any {D : Nat → Prop} (F : List Ver) (g n c B : Nat) (w : World) (hO : Own (verE.avoid D) w B (.slice (some ⟨g, 0, none⟩) n c) F) (hn : F.length = n) (hpos : 0 < n) (hs : n ≤ 1000) :
    Calls Tryz.prog 94 #[.slice (some ⟨g, 0, none⟩) n c, .int .i64 0, .int .i64 n, .func (.func 54) #[] #[]] w fun e w' =>
      e = .returned (.tuple #[]) ∧ Own (verE.avoid D) w' B (.slice (some ⟨g, 0, none⟩) n c) (sortV F) ∧ Below B w w' := by
  have hBs : B ≤ w.heap.size := by have := hO.lt g rfl; omega
  have hgB : B ≤ g := (hO.lt g rfl).1
  have HO := Lib.hid hO
  have HN := Lib.hid hn
  clear hO hn
  go_enter Tryz.func94, Tryz.ntmps94
  go_wp2_with fail
  go_loopw [8] (fun vi wr => ∃ i : Nat, vi = .int .i64 i ∧ 1 ≤ i ∧ i ≤ n ∧ Own (verE.avoid D) wr B (.slice (some ⟨g, 0, none⟩) n c) (sortV (F.take i) ++ F.drop i) ∧ Below B w wr) (fun i _ => n - (intOf i).toNat)
  case atStart =>
    refine ⟨1, by go_num, Nat.le_refl _, hpos, ?_, Below.refl _ _⟩
    obtain ⟨x, hx⟩ := lget_some F 0 (by rw [HN.out]; exact hpos)
    have h1 : sortV (F.take 1) ++ F.drop 1 = F := by
      rw [take_get hx]
      show [x] ++ F.drop 1 = F
      conv => rhs; rw [← List.drop_zero (l := F), drop_get hx]
      rfl
    rw [h1]
    exact HO.out
  case round =>
    obtain ⟨i, rfl, hi1, hin, hOi, hBi⟩ := hrel
    obtain ⟨wo, rfl⟩ : ∃ wo : World, wo = wr := ⟨_, rfl⟩
    by_cases hlt : i < n
    · obtain ⟨x, hx⟩ := lget_some F i (by rw [HN.out]; exact hlt)
      obtain ⟨T, hT⟩ : ∃ T, T = sortV (F.take (i + 1)) ++ F.drop (i + 1) := ⟨_, rfl⟩
      have HT0 : Hid (insV x (sortV (F.take i)) ++ F.drop (i + 1) = T) := by show _ = _; rw [hT, take_get hx, sortV_snoc]
      have HT := Lib.hid hT
      have HL : Hid ((sortV (F.take i)).length = i) := by show _ = _; rw [sortV_length, List.length_take, HN.out]; omega
      rw [drop_get hx] at hOi
      have HOi := Lib.hid hOi
      have HBi := Lib.hid hBi
      clear hOi hBi hx hT
      go_wp2_with fail
      go_loopw [9] (fun vj w4 => ∃ (j : Nat) (p q : List Ver), vj = .int .i64 j ∧ p.length = j ∧ p.length + q.length + 1 = n ∧ Own (verE.avoid D) w4 B (.slice (some ⟨g, 0, none⟩) n c) (p ++ x :: q) ∧ Hid (insV x p ++ q = T) ∧ Below B w w4) (fun i _ => (intOf i).toNat)
      case atStart => exact ⟨i, _, _, rfl, HL.out, by rw [HL.out, List.length_drop, HN.out]; omega, HOi.out, HT0, HBi.out⟩
      case round =>
        obtain ⟨j, p, q, rfl, hpj, hlen, hO4, HP, hB4⟩ := hrel
        obtain ⟨w4, rfl⟩ : ∃ w4 : World, w4 = wr := ⟨_, rfl⟩
        cases j with
        | zero =>
          have hp0 : p = [] := List.eq_nil_of_length_eq_zero hpj
          subst hp0
          have HF : Hid (x :: q = T) := HP
          have HO4 := Lib.hid hO4
          have HB4 := Lib.hid hB4
          clear hO4
          go_wp2_with fail
          refine wp_region_held_drew (S := (fun W => Below B w W)) (by kernel_rfl) ?_ (fun hHeld => ?_)
          · (first | (with_reducible assumption) | with_reducible exact Below.drew (by assumption))
          refine take_y (i := 0) (d := some 18) (v := ?_) rfl rfl (by kernel_rfl) (by kernel_rfl) (by kernel_rfl) (fun _ _ _ h => h) (by assumption) ?_ ?_
          rotate_left
          · intro oi ho
            simp only [List.getElem?_toArray, List.getElem?_cons_zero, Option.some.injEq] at ho
            subst ho
            intro w hSw
            (try dsimp only at hSw)
            go_simp
            (try with_reducible rfl)
          (try simp only [Act.put, List.setIfInBounds_toArray, List.set_cons_zero, List.set_cons_succ])
          refine take_y (i := 1) (d := some 19) (v := ?_) rfl rfl (by kernel_rfl) (by kernel_rfl) (by kernel_rfl) (fun _ _ _ h => h) (by assumption) ?_ ?_
          rotate_left
          · intro oi ho
            simp only [List.getElem?_toArray, List.getElem?_cons_succ, List.getElem?_cons_zero, Option.some.injEq] at ho
            subst ho
            intro w hSw
            (try dsimp only at hSw)
            go_simp
            (try with_reducible rfl)
          (try simp only [Act.put, List.setIfInBounds_toArray, List.set_cons_zero, List.set_cons_succ])
          refine take_y (i := 2) (d := some 20) (v := ?_) rfl rfl (by kernel_rfl) (by kernel_rfl) (by kernel_rfl) (fun _ _ _ h => h) (by assumption) ?_ ?_
          rotate_left
          · intro oi ho
            simp only [List.getElem?_toArray, List.getElem?_cons_succ, List.getElem?_cons_zero, Option.some.injEq] at ho
            subst ho
            intro w hSw
            (try dsimp only at hSw)
            go_simp
            (try with_reducible rfl)
          (try simp only [Act.put, List.setIfInBounds_toArray, List.set_cons_zero, List.set_cons_succ])
          refine take_y (i := 3) (d := some 21) (v := ?_) rfl rfl (by kernel_rfl) (by kernel_rfl) (by kernel_rfl) (fun _ _ _ h => h) (by assumption) ?_ ?_
          rotate_left
          · intro oi ho
            simp only [List.getElem?_toArray, List.getElem?_cons_succ, List.getElem?_cons_zero, Option.some.injEq] at ho
            subst ho
            intro w hSw
            (try dsimp only at hSw)
            go_simp
            (try with_reducible rfl)
          (try simp only [Act.put, List.setIfInBounds_toArray, List.set_cons_zero, List.set_cons_succ])
          refine take_n (i := 4) (d := some 22) rfl rfl (by kernel_rfl) (by kernel_rfl) (by kernel_rfl) (fun _ _ _ h => h) (by assumption) ?_
          (try simp only [Act.put, List.setIfInBounds_toArray, List.set_cons_zero, List.set_cons_succ])
          refine take_n (i := 5) (d := some 23) rfl rfl (by kernel_rfl) (by kernel_rfl) (by kernel_rfl) (fun _ _ _ h => h) (by assumption) ?_
          (try simp only [Act.put, List.setIfInBounds_toArray, List.set_cons_zero, List.set_cons_succ])
          refine take_n (i := 6) (d := some 24) rfl rfl (by kernel_rfl) (by kernel_rfl) (by kernel_rfl) (fun _ _ _ h => h) (by assumption) ?_
          (try simp only [Act.put, List.setIfInBounds_toArray, List.set_cons_zero, List.set_cons_succ])
          refine take_n (i := 7) (d := some 25) rfl rfl (by kernel_rfl) (by kernel_rfl) (by kernel_rfl) (fun _ _ _ h => h) (by assumption) ?_
          (try simp only [Act.put, List.setIfInBounds_toArray, List.set_cons_zero, List.set_cons_succ])
          refine take_n (i := 8) (d := some 26) rfl rfl (by kernel_rfl) (by kernel_rfl) (by kernel_rfl) (fun _ _ _ h => h) (by assumption) ?_
          (try simp only [Act.put, List.setIfInBounds_toArray, List.set_cons_zero, List.set_cons_succ])
          refine take_n (i := 9) (d := some 27) rfl rfl (by kernel_rfl) (by kernel_rfl) (by kernel_rfl) (fun _ _ _ h => h) (by assumption) ?_
          (try simp only [Act.put, List.setIfInBounds_toArray, List.set_cons_zero, List.set_cons_succ])
          refine take_n (i := 10) (d := some 28) rfl rfl (by kernel_rfl) (by kernel_rfl) (by kernel_rfl) (fun _ _ _ h => h) (by assumption) ?_
          (try simp only [Act.put, List.setIfInBounds_toArray, List.set_cons_zero, List.set_cons_succ])
          refine take_n (i := 11) (d := some 29) rfl rfl (by kernel_rfl) (by kernel_rfl) (by kernel_rfl) (fun _ _ _ h => h) (by assumption) ?_
          (try simp only [Act.put, List.setIfInBounds_toArray, List.set_cons_zero, List.set_cons_succ])
          refine take_n (i := 12) (d := some 30) rfl rfl (by kernel_rfl) (by kernel_rfl) (by kernel_rfl) (fun _ _ _ h => h) (by assumption) ?_
          (try simp only [Act.put, List.setIfInBounds_toArray, List.set_cons_zero, List.set_cons_succ])
          refine take_n (i := 13) (d := some 31) rfl rfl (by kernel_rfl) (by kernel_rfl) (by kernel_rfl) (fun _ _ _ h => h) (by assumption) ?_
          (try simp only [Act.put, List.setIfInBounds_toArray, List.set_cons_zero, List.set_cons_succ])
          refine take_n (i := 14) (d := some 32) rfl rfl (by kernel_rfl) (by kernel_rfl) (by kernel_rfl) (fun _ _ _ h => h) (by assumption) ?_
          (try simp only [Act.put, List.setIfInBounds_toArray, List.set_cons_zero, List.set_cons_succ])
          refine take_n (i := 15) (d := some 33) rfl rfl (by kernel_rfl) (by kernel_rfl) (by kernel_rfl) (fun _ _ _ h => h) (by assumption) ?_
          (try simp only [Act.put, List.setIfInBounds_toArray, List.set_cons_zero, List.set_cons_succ])
          refine take_y (i := 16) (d := some 34) (v := ?_) rfl rfl (by kernel_rfl) (by kernel_rfl) (by kernel_rfl) (fun _ _ _ h => h) (by assumption) ?_ ?_
          rotate_left
          · intro oi ho
            simp only [List.getElem?_toArray, List.getElem?_cons_succ, List.getElem?_cons_zero, Option.some.injEq] at ho
            subst ho
            intro w hSw
            (try dsimp only at hSw)
            go_simp
            (try with_reducible rfl)
          (try simp only [Act.put, List.setIfInBounds_toArray, List.set_cons_zero, List.set_cons_succ])
          refine wpAnyH_done (by kernel_rfl) ?_ _
          go_wp2_with fail
          go_roundw
          case rel => exact ⟨i + 1, by go_num, by omega, by omega, by rw [← HT.out, ← HF.out]; exact HO4.out.drew, HB4.out.drew⟩
          case measure => simp [intOf]; omega
        | succ jp =>
          obtain ⟨p', y, rfl⟩ : ∃ p' y, p = p' ++ [y] := by
            rcases List.eq_nil_or_concat p with h | ⟨p', y, h⟩
            · rw [h] at hpj; cases hpj
            · exact ⟨p', y, by simpa using h⟩
          have hpl : p'.length = jp := by simpa using hpj
          have hgx : (p' ++ [y] ++ x :: q)[jp + 1]? = some x := by rw [List.getElem?_append_right (by simp; omega)]; simp [hpl]
          have hgy : (p' ++ [y] ++ x :: q)[jp]? = some y := by rw [List.getElem?_append_left (by simp; omega), List.getElem?_append_right (by omega)]; simp [hpl]
          have hll : (p' ++ [y] ++ x :: q).length = n := by simp at hlen ⊢; omega
          obtain ⟨ax, cx, hSx, x0, x1, x2, x3, x4, x5⟩ := ownver_at hO4 hgx
          obtain ⟨ay, cy, hSy, y0, y1, y2, y3, y4, y5⟩ := ownver_at hO4 hgy
          have HC : ∀ W, Hid (Calls Tryz.prog 54 #[.agg #[.int .i64 x.id, .slice ax x.vals.length cx, .int .i64 x.lo, .int .i64 x.hi, .int .i64 x.rlo, .int .i64 x.rhi], .agg #[.int .i64 y.id, .slice ay y.vals.length cy, .int .i64 y.lo, .int .i64 y.hi, .int .i64 y.rlo, .int .i64 y.rhi]] W fun e w' => e = .returned (.int .i64 (cmpI x.id y.id)) ∧ Below W.heap.size W w') := fun W => cmpVer_any x y _ _ W
          have hjn : jp + 1 < n := by simp at hlen; omega
          have hz1 : (0 : Int) ≤ (jp : Int) + 1 := by omega
          have hz2 : (jp : Int) + 1 < (n : Int) := by omega
          have hz3 : (0 : Int) < (jp : Int) + 1 := by omega
          have hz4 : (jp : Int) < (n : Int) := by omega
          have hz5 : (jp : Int) + 1 - 1 = (jp : Int) := by omega
          have hz6 : ((jp : Int) + 1).toNat = jp + 1 := by omega
          have hz7 : IntKind.i64.wrap (jp : Int) = (jp : Int) := by rw [IntKind.wrap_i64]; omega
          have HO4 := Lib.hid hO4
          have HSx := Lib.hid hSx
          have HSy := Lib.hid hSy
          have HLL := Lib.hid hll
          have HPL := Lib.hid hpl
          have HLN := Lib.hid hlen
          clear hO4 hSx hSy hgx hgy hll hpl hpj hlen
          by_cases hxy : x.id < y.id
          · have hcm : cmpI x.id y.id = -1 := by unfold cmpI; rw [if_pos hxy]
            rw [hcm] at HC
            clear hcm
            go_wp2_with fail
            refine wp_region_held_drew (S := (fun W => Below B w W ∧ W.cell? ⟨g, (jp + 1) * 6, none⟩ = some (.int .i64 x.id) ∧ W.cell? ⟨g, (jp + 1) * 6 + 1, none⟩ = some (.slice ax x.vals.length cx) ∧ W.cell? ⟨g, (jp + 1) * 6 + 2, none⟩ = some (.int .i64 x.lo) ∧ W.cell? ⟨g, (jp + 1) * 6 + 3, none⟩ = some (.int .i64 x.hi) ∧ W.cell? ⟨g, (jp + 1) * 6 + 4, none⟩ = some (.int .i64 x.rlo) ∧ W.cell? ⟨g, (jp + 1) * 6 + 5, none⟩ = some (.int .i64 x.rhi) ∧ W.cell? ⟨g, jp * 6, none⟩ = some (.int .i64 y.id) ∧ W.cell? ⟨g, jp * 6 + 1, none⟩ = some (.slice ay y.vals.length cy) ∧ W.cell? ⟨g, jp * 6 + 2, none⟩ = some (.int .i64 y.lo) ∧ W.cell? ⟨g, jp * 6 + 3, none⟩ = some (.int .i64 y.hi) ∧ W.cell? ⟨g, jp * 6 + 4, none⟩ = some (.int .i64 y.rlo) ∧ W.cell? ⟨g, jp * 6 + 5, none⟩ = some (.int .i64 y.rhi))) (by kernel_rfl) ?_ (fun hHeld => ?_)
            · (go_split_ands; refine ⟨?_, ?_, ?_, ?_, ?_, ?_, ?_, ?_, ?_, ?_, ?_, ?_, ?_⟩ <;> first | (with_reducible assumption) | with_reducible exact Below.drew (by assumption) | with_reducible exact cell_drew (by assumption) | with_reducible exact below_tr3 hBs (by assumption) (by assumption) | with_reducible exact cell_keep (by assumption) (by assumption))
            refine take_y (i := 0) (d := some 18) (v := ?_) rfl rfl (by kernel_rfl) (by kernel_rfl) (by kernel_rfl) (fun _ _ _ h => h) (by assumption) ?_ ?_
            rotate_left
            · intro oi ho
              simp only [List.getElem?_toArray, List.getElem?_cons_zero, Option.some.injEq] at ho
              subst ho
              intro w hSw
              (try dsimp only at hSw)
              go_simp
              (try with_reducible rfl)
            (try simp only [Act.put, List.setIfInBounds_toArray, List.set_cons_zero, List.set_cons_succ])
            refine take_y (i := 1) (d := some 19) (v := ?_) rfl rfl (by kernel_rfl) (by kernel_rfl) (by kernel_rfl) (fun _ _ _ h => h) (by assumption) ?_ ?_
            rotate_left
            · intro oi ho
              simp only [List.getElem?_toArray, List.getElem?_cons_succ, List.getElem?_cons_zero, Option.some.injEq] at ho
              subst ho
              intro w hSw
              (try dsimp only at hSw)
              go_simp
              (try with_reducible rfl)
            (try simp only [Act.put, List.setIfInBounds_toArray, List.set_cons_zero, List.set_cons_succ])
            refine take_y (i := 2) (d := some 20) (v := ?_) rfl rfl (by kernel_rfl) (by kernel_rfl) (by kernel_rfl) (fun _ _ _ h => h) (by assumption) ?_ ?_
            rotate_left
            · intro oi ho
              simp only [List.getElem?_toArray, List.getElem?_cons_succ, List.getElem?_cons_zero, Option.some.injEq] at ho
              subst ho
              intro w hSw
              (try dsimp only at hSw)
              go_simp
              (try with_reducible rfl)
            (try simp only [Act.put, List.setIfInBounds_toArray, List.set_cons_zero, List.set_cons_succ])
            refine take_y (i := 3) (d := some 21) (v := ?_) rfl rfl (by kernel_rfl) (by kernel_rfl) (by kernel_rfl) (fun _ _ _ h => h) (by assumption) ?_ ?_
            rotate_left
            · intro oi ho
              simp only [List.getElem?_toArray, List.getElem?_cons_succ, List.getElem?_cons_zero, Option.some.injEq] at ho
              subst ho
              intro w hSw
              (try dsimp only at hSw)
              go_simp
              (try with_reducible rfl)
            (try simp only [Act.put, List.setIfInBounds_toArray, List.set_cons_zero, List.set_cons_succ])
            refine take_y (i := 4) (d := some 22) (v := ?_) rfl rfl (by kernel_rfl) (by kernel_rfl) (by kernel_rfl) (fun _ _ _ h => h) (by assumption) ?_ ?_
            rotate_left
            · intro oi ho
              simp only [List.getElem?_toArray, List.getElem?_cons_succ, List.getElem?_cons_zero, Option.some.injEq] at ho
              subst ho
              intro w hSw
              (try dsimp only at hSw)
              go_simp
              (try with_reducible rfl)
            (try simp only [Act.put, List.setIfInBounds_toArray, List.set_cons_zero, List.set_cons_succ])
            refine take_y (i := 5) (d := some 23) (v := ?_) rfl rfl (by kernel_rfl) (by kernel_rfl) (by kernel_rfl) (fun _ _ _ h => h) (by assumption) ?_ ?_
            rotate_left
            · intro oi ho
              simp only [List.getElem?_toArray, List.getElem?_cons_succ, List.getElem?_cons_zero, Option.some.injEq] at ho
              subst ho
              intro w hSw
              (try dsimp only at hSw)
              go_simp
              (try with_reducible rfl)
            (try simp only [Act.put, List.setIfInBounds_toArray, List.set_cons_zero, List.set_cons_succ])
            refine take_y (i := 6) (d := some 24) (v := ?_) rfl rfl (by kernel_rfl) (by kernel_rfl) (by kernel_rfl) (fun _ _ _ h => h) (by assumption) ?_ ?_
            rotate_left
            · intro oi ho
              simp only [List.getElem?_toArray, List.getElem?_cons_succ, List.getElem?_cons_zero, Option.some.injEq] at ho
              subst ho
              intro w hSw
              (try dsimp only at hSw)
              go_simp
              (try with_reducible rfl)
            (try simp only [Act.put, List.setIfInBounds_toArray, List.set_cons_zero, List.set_cons_succ])
            refine take_y (i := 7) (d := some 25) (v := ?_) rfl rfl (by kernel_rfl) (by kernel_rfl) (by kernel_rfl) (fun _ _ _ h => h) (by assumption) ?_ ?_
            rotate_left
            · intro oi ho
              simp only [List.getElem?_toArray, List.getElem?_cons_succ, List.getElem?_cons_zero, Option.some.injEq] at ho
              subst ho
              intro w hSw
              (try dsimp only at hSw)
              go_simp
              (try with_reducible rfl)
            (try simp only [Act.put, List.setIfInBounds_toArray, List.set_cons_zero, List.set_cons_succ])
            refine take_y (i := 8) (d := some 26) (v := ?_) rfl rfl (by kernel_rfl) (by kernel_rfl) (by kernel_rfl) (fun _ _ _ h => h) (by assumption) ?_ ?_
            rotate_left
            · intro oi ho
              simp only [List.getElem?_toArray, List.getElem?_cons_succ, List.getElem?_cons_zero, Option.some.injEq] at ho
              subst ho
              intro w hSw
              (try dsimp only at hSw)
              go_simp
              (try with_reducible rfl)
            (try simp only [Act.put, List.setIfInBounds_toArray, List.set_cons_zero, List.set_cons_succ])
            refine take_y (i := 9) (d := some 27) (v := ?_) rfl rfl (by kernel_rfl) (by kernel_rfl) (by kernel_rfl) (fun _ _ _ h => h) (by assumption) ?_ ?_
            rotate_left
            · intro oi ho
              simp only [List.getElem?_toArray, List.getElem?_cons_succ, List.getElem?_cons_zero, Option.some.injEq] at ho
              subst ho
              intro w hSw
              (try dsimp only at hSw)
              go_simp
              (try with_reducible rfl)
            (try simp only [Act.put, List.setIfInBounds_toArray, List.set_cons_zero, List.set_cons_succ])
            refine take_y (i := 10) (d := some 28) (v := ?_) rfl rfl (by kernel_rfl) (by kernel_rfl) (by kernel_rfl) (fun _ _ _ h => h) (by assumption) ?_ ?_
            rotate_left
            · intro oi ho
              simp only [List.getElem?_toArray, List.getElem?_cons_succ, List.getElem?_cons_zero, Option.some.injEq] at ho
              subst ho
              intro w hSw
              (try dsimp only at hSw)
              go_simp
              (try with_reducible rfl)
            (try simp only [Act.put, List.setIfInBounds_toArray, List.set_cons_zero, List.set_cons_succ])
            refine take_y (i := 11) (d := some 29) (v := ?_) rfl rfl (by kernel_rfl) (by kernel_rfl) (by kernel_rfl) (fun _ _ _ h => h) (by assumption) ?_ ?_
            rotate_left
            · intro oi ho
              simp only [List.getElem?_toArray, List.getElem?_cons_succ, List.getElem?_cons_zero, Option.some.injEq] at ho
              subst ho
              intro w hSw
              (try dsimp only at hSw)
              go_simp
              (try with_reducible rfl)
            (try simp only [Act.put, List.setIfInBounds_toArray, List.set_cons_zero, List.set_cons_succ])
            refine take_y (i := 12) (d := some 30) (v := ?_) rfl rfl (by kernel_rfl) (by kernel_rfl) (by kernel_rfl) (fun _ _ _ h => h) (by assumption) ?_ ?_
            rotate_left
            · intro oi ho
              simp only [List.getElem?_toArray, List.getElem?_cons_succ, List.getElem?_cons_zero, Option.some.injEq] at ho
              subst ho
              intro w hSw
              (try dsimp only at hSw)
              go_simp
              (try with_reducible rfl)
            (try simp only [Act.put, List.setIfInBounds_toArray, List.set_cons_zero, List.set_cons_succ])
            refine take_y (i := 13) (d := some 31) (v := ?_) rfl rfl (by kernel_rfl) (by kernel_rfl) (by kernel_rfl) (fun _ _ _ h => h) (by assumption) ?_ ?_
            rotate_left
            · intro oi ho
              simp only [List.getElem?_toArray, List.getElem?_cons_succ, List.getElem?_cons_zero, Option.some.injEq] at ho
              subst ho
              intro w hSw
              (try dsimp only at hSw)
              go_simp
              (try with_reducible rfl)
            (try simp only [Act.put, List.setIfInBounds_toArray, List.set_cons_zero, List.set_cons_succ])
            refine wpAnyH_ready (rs := [14]) (by kernel_rfl) (by simp) ?_
            refine AllReadyH.cons rfl (fun K hK => ?_) AllReadyH.nil
            go_simp
            (go_at_call 54; refine (HC _).out.mono ?_; rintro e wA ⟨rfl, hbA⟩)
            refine hK.out _ _ ?_ (fun hHeld => ?_)
            · (try dsimp only)
              (go_split_ands; refine ⟨?_, ?_, ?_, ?_, ?_, ?_, ?_, ?_, ?_, ?_, ?_, ?_, ?_⟩ <;> first | (with_reducible assumption) | with_reducible exact Below.drew (by assumption) | with_reducible exact cell_drew (by assumption) | with_reducible exact below_tr3 hBs (by assumption) (by assumption) | with_reducible exact cell_keep (by assumption) (by assumption))
            clear hK K
            (try simp only [Act.put, List.setIfInBounds_toArray, List.set_cons_zero, List.set_cons_succ])
            refine take_y (i := 15) (d := some 33) (v := ?_) rfl rfl (by kernel_rfl) (by kernel_rfl) (by kernel_rfl) (fun _ _ _ h => h) (by assumption) ?_ ?_
            rotate_left
            · intro oi ho
              simp only [List.getElem?_toArray, List.getElem?_cons_succ, List.getElem?_cons_zero, Option.some.injEq] at ho
              subst ho
              intro w hSw
              (try dsimp only at hSw)
              go_simp
              (try with_reducible rfl)
            (try simp only [Act.put, List.setIfInBounds_toArray, List.set_cons_zero, List.set_cons_succ])
            refine take_y (i := 16) (d := some 34) (v := ?_) rfl rfl (by kernel_rfl) (by kernel_rfl) (by kernel_rfl) (fun _ _ _ h => h) (by assumption) ?_ ?_
            rotate_left
            · intro oi ho
              simp only [List.getElem?_toArray, List.getElem?_cons_succ, List.getElem?_cons_zero, Option.some.injEq] at ho
              subst ho
              intro w hSw
              (try dsimp only at hSw)
              go_simp
              (try with_reducible rfl)
            (try simp only [Act.put, List.setIfInBounds_toArray, List.set_cons_zero, List.set_cons_succ])
            refine wpAnyH_done (by kernel_rfl) ?_ _
            have hbw : Below B w wA := below_tr3 hBs hB4.drew hbA
            have hO5 := HO4.out.drew.below hbA
            have hSx5 := (HSx.out.below (Below.refl _ _).drew).below hbA
            have hSy5 := (HSy.out.below (Below.refl _ _).drew).below hbA
            have fx0 := hO5.frozen HLL.out ((jp + 1) * 6)
            have fy0 := hO5.frozen HLL.out (jp * 6)
            have fx1 := hO5.frozen HLL.out ((jp + 1) * 6 + 1)
            have fy1 := hO5.frozen HLL.out (jp * 6 + 1)
            have fx2 := hO5.frozen HLL.out ((jp + 1) * 6 + 2)
            have fy2 := hO5.frozen HLL.out (jp * 6 + 2)
            have fx3 := hO5.frozen HLL.out ((jp + 1) * 6 + 3)
            have fy3 := hO5.frozen HLL.out (jp * 6 + 3)
            have fx4 := hO5.frozen HLL.out ((jp + 1) * 6 + 4)
            have fy4 := hO5.frozen HLL.out (jp * 6 + 4)
            have fx5 := hO5.frozen HLL.out ((jp + 1) * 6 + 5)
            have fy5 := hO5.frozen HLL.out (jp * 6 + 5)
            have HO5 := Lib.hid hO5
            have HBW := Lib.hid hbw
            have HSx5 := Lib.hid hSx5
            have HSy5 := Lib.hid hSy5
            clear hO5 hbw hSx5 hSy5 hbA hB4 HC HO4 HSx HSy x0 x1 x2 x3 x4 x5 y0 y1 y2 y3 y4 y5
            go_wp2_with fail
            go_region
            have o1 := ownver_put HO5.out HLL.out hjn HSy5.out
            have o2 := ownver_put o1.1 (by rw [List.length_set]; exact HLL.out) (k := jp) (Nat.lt_of_succ_lt hjn) (HSx5.out.kept (Kept.of_grown o1.2).or)
            have hls : ((p' ++ [y] ++ x :: q).set (jp + 1) y).set jp x = p' ++ x :: y :: q := by
              have h := HPL.out
              subst h
              rw [List.append_assoc, List.set_append_right _ _ (by omega), List.set_append_right _ _ (by omega)]
              simp
            have hb1 := HBW.out.grown o1.2 (Nat.le_trans hBs HBW.out.size) (fun k hk => by cases hk; exact hgB)
            have hb2 := hb1.grown o2.2 (Nat.le_trans hBs hb1.size) (fun k hk => by cases hk; exact hgB)
            rw [hls] at o2
            have HO2 := Lib.hid o2.1.drew
            have HB2 := Lib.hid hb2.drew
            have HP2 : Hid (insV x p' ++ y :: q = T) := by
              show _ = _
              rw [← HP.out, insV_snoc, if_pos hxy, List.append_assoc]
              rfl
            clear o1 o2 hb1 hb2 hls fx0 fx1 fx2 fx3 fx4 fx5 fy0 fy1 fy2 fy3 fy4 fy5
            go_wp2_with fail
            go_roundw
            case rel => exact ⟨jp, p', y :: q, by go_num, HPL.out, by have := HLN.out; simp at this ⊢; omega, HO2.out, HP2, HB2.out⟩
            case measure => simp [intOf]
          · obtain ⟨r, hr, hrn⟩ : ∃ r, cmpI x.id y.id = r ∧ ¬ r < 0 := ⟨_, rfl, by unfold cmpI; rw [if_neg hxy]; split <;> omega⟩
            rw [hr] at HC
            clear hr
            go_wp2_with fail
            refine wp_region_held_drew (S := (fun W => Below B w W ∧ W.cell? ⟨g, (jp + 1) * 6, none⟩ = some (.int .i64 x.id) ∧ W.cell? ⟨g, (jp + 1) * 6 + 1, none⟩ = some (.slice ax x.vals.length cx) ∧ W.cell? ⟨g, (jp + 1) * 6 + 2, none⟩ = some (.int .i64 x.lo) ∧ W.cell? ⟨g, (jp + 1) * 6 + 3, none⟩ = some (.int .i64 x.hi) ∧ W.cell? ⟨g, (jp + 1) * 6 + 4, none⟩ = some (.int .i64 x.rlo) ∧ W.cell? ⟨g, (jp + 1) * 6 + 5, none⟩ = some (.int .i64 x.rhi) ∧ W.cell? ⟨g, jp * 6, none⟩ = some (.int .i64 y.id) ∧ W.cell? ⟨g, jp * 6 + 1, none⟩ = some (.slice ay y.vals.length cy) ∧ W.cell? ⟨g, jp * 6 + 2, none⟩ = some (.int .i64 y.lo) ∧ W.cell? ⟨g, jp * 6 + 3, none⟩ = some (.int .i64 y.hi) ∧ W.cell? ⟨g, jp * 6 + 4, none⟩ = some (.int .i64 y.rlo) ∧ W.cell? ⟨g, jp * 6 + 5, none⟩ = some (.int .i64 y.rhi))) (by kernel_rfl) ?_ (fun hHeld => ?_)
            · (go_split_ands; refine ⟨?_, ?_, ?_, ?_, ?_, ?_, ?_, ?_, ?_, ?_, ?_, ?_, ?_⟩ <;> first | (with_reducible assumption) | with_reducible exact Below.drew (by assumption) | with_reducible exact cell_drew (by assumption) | with_reducible exact below_tr3 hBs (by assumption) (by assumption) | with_reducible exact cell_keep (by assumption) (by assumption))
            refine take_y (i := 0) (d := some 18) (v := ?_) rfl rfl (by kernel_rfl) (by kernel_rfl) (by kernel_rfl) (fun _ _ _ h => h) (by assumption) ?_ ?_
            rotate_left
            · intro oi ho
              simp only [List.getElem?_toArray, List.getElem?_cons_zero, Option.some.injEq] at ho
              subst ho
              intro w hSw
              (try dsimp only at hSw)
              go_simp
              (try with_reducible rfl)
            (try simp only [Act.put, List.setIfInBounds_toArray, List.set_cons_zero, List.set_cons_succ])
            refine take_y (i := 1) (d := some 19) (v := ?_) rfl rfl (by kernel_rfl) (by kernel_rfl) (by kernel_rfl) (fun _ _ _ h => h) (by assumption) ?_ ?_
            rotate_left
            · intro oi ho
              simp only [List.getElem?_toArray, List.getElem?_cons_succ, List.getElem?_cons_zero, Option.some.injEq] at ho
              subst ho
              intro w hSw
              (try dsimp only at hSw)
              go_simp
              (try with_reducible rfl)
            (try simp only [Act.put, List.setIfInBounds_toArray, List.set_cons_zero, List.set_cons_succ])
            refine take_y (i := 2) (d := some 20) (v := ?_) rfl rfl (by kernel_rfl) (by kernel_rfl) (by kernel_rfl) (fun _ _ _ h => h) (by assumption) ?_ ?_
            rotate_left
            · intro oi ho
              simp only [List.getElem?_toArray, List.getElem?_cons_succ, List.getElem?_cons_zero, Option.some.injEq] at ho
              subst ho
              intro w hSw
              (try dsimp only at hSw)
              go_simp
              (try with_reducible rfl)
            (try simp only [Act.put, List.setIfInBounds_toArray, List.set_cons_zero, List.set_cons_succ])
            refine take_y (i := 3) (d := some 21) (v := ?_) rfl rfl (by kernel_rfl) (by kernel_rfl) (by kernel_rfl) (fun _ _ _ h => h) (by assumption) ?_ ?_
            rotate_left
            · intro oi ho
              simp only [List.getElem?_toArray, List.getElem?_cons_succ, List.getElem?_cons_zero, Option.some.injEq] at ho
              subst ho
              intro w hSw
              (try dsimp only at hSw)
              go_simp
              (try with_reducible rfl)
            (try simp only [Act.put, List.setIfInBounds_toArray, List.set_cons_zero, List.set_cons_succ])
            refine take_y (i := 4) (d := some 22) (v := ?_) rfl rfl (by kernel_rfl) (by kernel_rfl) (by kernel_rfl) (fun _ _ _ h => h) (by assumption) ?_ ?_
            rotate_left
            · intro oi ho
              simp only [List.getElem?_toArray, List.getElem?_cons_succ, List.getElem?_cons_zero, Option.some.injEq] at ho
              subst ho
              intro w hSw
              (try dsimp only at hSw)
              go_simp
              (try with_reducible rfl)
            (try simp only [Act.put, List.setIfInBounds_toArray, List.set_cons_zero, List.set_cons_succ])
            refine take_y (i := 5) (d := some 23) (v := ?_) rfl rfl (by kernel_rfl) (by kernel_rfl) (by kernel_rfl) (fun _ _ _ h => h) (by assumption) ?_ ?_
            rotate_left
            · intro oi ho
              simp only [List.getElem?_toArray, List.getElem?_cons_succ, List.getElem?_cons_zero, Option.some.injEq] at ho
              subst ho
              intro w hSw
              (try dsimp only at hSw)
              go_simp
              (try with_reducible rfl)
            (try simp only [Act.put, List.setIfInBounds_toArray, List.set_cons_zero, List.set_cons_succ])
            refine take_y (i := 6) (d := some 24) (v := ?_) rfl rfl (by kernel_rfl) (by kernel_rfl) (by kernel_rfl) (fun _ _ _ h => h) (by assumption) ?_ ?_
            rotate_left
            · intro oi ho
              simp only [List.getElem?_toArray, List.getElem?_cons_succ, List.getElem?_cons_zero, Option.some.injEq] at ho
              subst ho
              intro w hSw
              (try dsimp only at hSw)
              go_simp
              (try with_reducible rfl)
            (try simp only [Act.put, List.setIfInBounds_toArray, List.set_cons_zero, List.set_cons_succ])
            refine take_y (i := 7) (d := some 25) (v := ?_) rfl rfl (by kernel_rfl) (by kernel_rfl) (by kernel_rfl) (fun _ _ _ h => h) (by assumption) ?_ ?_
            rotate_left
            · intro oi ho
              simp only [List.getElem?_toArray, List.getElem?_cons_succ, List.getElem?_cons_zero, Option.some.injEq] at ho
              subst ho
              intro w hSw
              (try dsimp only at hSw)
              go_simp
              (try with_reducible rfl)
            (try simp only [Act.put, List.setIfInBounds_toArray, List.set_cons_zero, List.set_cons_succ])
            refine take_y (i := 8) (d := some 26) (v := ?_) rfl rfl (by kernel_rfl) (by kernel_rfl) (by kernel_rfl) (fun _ _ _ h => h) (by assumption) ?_ ?_
            rotate_left
            · intro oi ho
              simp only [List.getElem?_toArray, List.getElem?_cons_succ, List.getElem?_cons_zero, Option.some.injEq] at ho
              subst ho
              intro w hSw
              (try dsimp only at hSw)
              go_simp
              (try with_reducible rfl)
            (try simp only [Act.put, List.setIfInBounds_toArray, List.set_cons_zero, List.set_cons_succ])
            refine take_y (i := 9) (d := some 27) (v := ?_) rfl rfl (by kernel_rfl) (by kernel_rfl) (by kernel_rfl) (fun _ _ _ h => h) (by assumption) ?_ ?_
            rotate_left
            · intro oi ho
              simp only [List.getElem?_toArray, List.getElem?_cons_succ, List.getElem?_cons_zero, Option.some.injEq] at ho
              subst ho
              intro w hSw
              (try dsimp only at hSw)
              go_simp
              (try with_reducible rfl)
            (try simp only [Act.put, List.setIfInBounds_toArray, List.set_cons_zero, List.set_cons_succ])
            refine take_y (i := 10) (d := some 28) (v := ?_) rfl rfl (by kernel_rfl) (by kernel_rfl) (by kernel_rfl) (fun _ _ _ h => h) (by assumption) ?_ ?_
            rotate_left
            · intro oi ho
              simp only [List.getElem?_toArray, List.getElem?_cons_succ, List.getElem?_cons_zero, Option.some.injEq] at ho
              subst ho
              intro w hSw
              (try dsimp only at hSw)
              go_simp
              (try with_reducible rfl)
            (try simp only [Act.put, List.setIfInBounds_toArray, List.set_cons_zero, List.set_cons_succ])
            refine take_y (i := 11) (d := some 29) (v := ?_) rfl rfl (by kernel_rfl) (by kernel_rfl) (by kernel_rfl) (fun _ _ _ h => h) (by assumption) ?_ ?_
            rotate_left
            · intro oi ho
              simp only [List.getElem?_toArray, List.getElem?_cons_succ, List.getElem?_cons_zero, Option.some.injEq] at ho
              subst ho
              intro w hSw
              (try dsimp only at hSw)
              go_simp
              (try with_reducible rfl)
            (try simp only [Act.put, List.setIfInBounds_toArray, List.set_cons_zero, List.set_cons_succ])
            refine take_y (i := 12) (d := some 30) (v := ?_) rfl rfl (by kernel_rfl) (by kernel_rfl) (by kernel_rfl) (fun _ _ _ h => h) (by assumption) ?_ ?_
            rotate_left
            · intro oi ho
              simp only [List.getElem?_toArray, List.getElem?_cons_succ, List.getElem?_cons_zero, Option.some.injEq] at ho
              subst ho
              intro w hSw
              (try dsimp only at hSw)
              go_simp
              (try with_reducible rfl)
            (try simp only [Act.put, List.setIfInBounds_toArray, List.set_cons_zero, List.set_cons_succ])
            refine take_y (i := 13) (d := some 31) (v := ?_) rfl rfl (by kernel_rfl) (by kernel_rfl) (by kernel_rfl) (fun _ _ _ h => h) (by assumption) ?_ ?_
            rotate_left
            · intro oi ho
              simp only [List.getElem?_toArray, List.getElem?_cons_succ, List.getElem?_cons_zero, Option.some.injEq] at ho
              subst ho
              intro w hSw
              (try dsimp only at hSw)
              go_simp
              (try with_reducible rfl)
            (try simp only [Act.put, List.setIfInBounds_toArray, List.set_cons_zero, List.set_cons_succ])
            refine wpAnyH_ready (rs := [14]) (by kernel_rfl) (by simp) ?_
            refine AllReadyH.cons rfl (fun K hK => ?_) AllReadyH.nil
            go_simp
            (go_at_call 54; refine (HC _).out.mono ?_; rintro e wA ⟨rfl, hbA⟩)
            refine hK.out _ _ ?_ (fun hHeld => ?_)
            · (try dsimp only)
              (go_split_ands; refine ⟨?_, ?_, ?_, ?_, ?_, ?_, ?_, ?_, ?_, ?_, ?_, ?_, ?_⟩ <;> first | (with_reducible assumption) | with_reducible exact Below.drew (by assumption) | with_reducible exact cell_drew (by assumption) | with_reducible exact below_tr3 hBs (by assumption) (by assumption) | with_reducible exact cell_keep (by assumption) (by assumption))
            clear hK K
            (try simp only [Act.put, List.setIfInBounds_toArray, List.set_cons_zero, List.set_cons_succ])
            refine take_y (i := 15) (d := some 33) (v := ?_) rfl rfl (by kernel_rfl) (by kernel_rfl) (by kernel_rfl) (fun _ _ _ h => h) (by assumption) ?_ ?_
            rotate_left
            · intro oi ho
              simp only [List.getElem?_toArray, List.getElem?_cons_succ, List.getElem?_cons_zero, Option.some.injEq] at ho
              subst ho
              intro w hSw
              (try dsimp only at hSw)
              go_simp
              (try with_reducible rfl)
            (try simp only [Act.put, List.setIfInBounds_toArray, List.set_cons_zero, List.set_cons_succ])
            refine take_y (i := 16) (d := some 34) (v := ?_) rfl rfl (by kernel_rfl) (by kernel_rfl) (by kernel_rfl) (fun _ _ _ h => h) (by assumption) ?_ ?_
            rotate_left
            · intro oi ho
              simp only [List.getElem?_toArray, List.getElem?_cons_succ, List.getElem?_cons_zero, Option.some.injEq] at ho
              subst ho
              intro w hSw
              (try dsimp only at hSw)
              go_simp
              (try with_reducible rfl)
            (try simp only [Act.put, List.setIfInBounds_toArray, List.set_cons_zero, List.set_cons_succ])
            refine wpAnyH_done (by kernel_rfl) ?_ _
            have hbw : Below B w wA := below_tr3 hBs hB4.drew hbA
            have HO5 := Lib.hid (HO4.out.drew.below hbA)
            have HBW := Lib.hid hbw
            have HFF : Hid (p' ++ [y] ++ x :: q = T) := by
              show _ = _
              rw [← HP.out, insV_snoc, if_neg (by omega)]
              simp
            clear hbw hbA hB4 HC HO4 HSx HSy x0 x1 x2 x3 x4 x5 y0 y1 y2 y3 y4 y5
            go_wp2_with fail
            go_roundw
            case rel => exact ⟨i + 1, by go_num, by omega, by omega, by rw [← HT.out, ← HFF.out]; exact HO5.out, HBW.out⟩
            case measure => simp [intOf]; omega
    · have hin' : i = n := by omega
      subst hin'
      have HF : Hid (sortV (F.take i) ++ F.drop i = sortV F) := by
        show _ = _
        rw [List.take_of_length_le (by rw [HN.out]; exact Nat.le_refl _), List.drop_of_length_le (by rw [HN.out]; exact Nat.le_refl _), List.append_nil]
      rw [HF.out] at hOi
      have HOi := Lib.hid hOi
      have HBi := Lib.hid hBi
      clear hOi hBi
      go_wp2_with fail
      go_end0
      exact ⟨rfl, HOi.out, HBi.out⟩
set_option maxHeartbeats 1000000 in
theorem isort_none (v fv : Value) (a b : Int) (w : World) (hab : b ≤ a + 1) (ha : 0 ≤ a ∧ a ≤ 1000) :
    Calls Tryz.prog 94 #[v, .int .i64 a, .int .i64 b, fv] w fun e w' => e = .returned (.tuple #[]) ∧ w = w' := by
  have hw : IntKind.i64.wrap (a + 1) = a + 1 := by rw [IntKind.wrap_i64]; omega
  go_enter Tryz.func94, Tryz.ntmps94
  go_wp2_with fail
  refine wp_loop_rounds 1 ?_
  rw [rounds_succ]
  go_wp2_with fail
  go_end0
  exact ⟨rfl, rfl⟩
set_option maxHeartbeats 2000000 in
theorem stableCmp_any {D : Nat → Prop} (F : List Ver) (a : Option Addr) (n c B : Nat) (w : World) (hO : Own (verE.avoid D) w B (.slice a n c) F) (hn : F.length = n) (hs : n ≤ 20) (hBs : B ≤ w.heap.size) :
    Calls Tryz.prog 72 #[.slice a n c, .int .i64 n, .func (.func 54) #[] #[]] w fun e w' =>
      e = .returned (.tuple #[]) ∧ Own (verE.avoid D) w' B (.slice a n c) (sortV F) ∧ Below B w w' := by
  have HI : ∀ W, Own (verE.avoid D) W B (.slice a n c) F → B ≤ W.heap.size → Hid (Calls Tryz.prog 94 #[.slice a n c, .int .i64 0, .int .i64 n, .func (.func 54) #[] #[]] W fun e w' =>
      e = .returned (.tuple #[]) ∧ Own (verE.avoid D) w' B (.slice a n c) (sortV F) ∧ Below B W w') := fun W hOW hBW => by
    by_cases h0 : n = 0
    · subst h0
      have hF : F = [] := List.eq_nil_of_length_eq_zero hn
      subst hF
      refine (isort_none _ _ _ _ W (by omega) (by omega)).mono ?_
      rintro e w' ⟨rfl, rfl⟩
      exact ⟨rfl, hOW, Below.refl _ _⟩
    · obtain ⟨x, hx⟩ := lget_some F 0 (by omega)
      obtain ⟨b, o, e⟩ : ∃ b o, a = some ⟨b, o, none⟩ := by
        obtain ⟨b, o, _, _, e, _⟩ := vers_at hOW.sl hx
        exact ⟨b, o, e⟩
      subst e
      have ho : o = 0 := by
        obtain ⟨xs, h1, _⟩ := hOW
        rcases h1.2 with ⟨h', _⟩ | ⟨g', cap', cur, h', _⟩
        · cases h'
        · cases h'; rfl
      subst ho
      exact isort_any F b n c B W hOW hn (by omega) (by omega)
  have HO := Lib.hid hO
  clear hO
  go_enter Tryz.func72, Tryz.ntmps72
  go_wp2_with fail
  by_cases h20 : n = 20
  · subst h20
    refine wp_loop_rounds 2 ?_
    rw [rounds_succ]
    go_wp2_with fail
    refine (HI _ HO.out hBs).out.mono ?_
    rintro e w2 ⟨rfl, hO2, hB2⟩
    have HO2 := Lib.hid hO2
    have HB2 := Lib.hid hB2
    clear HI hO2 hB2
    go_wp2_with fail
    rw [rounds_succ]
    go_wp2_with fail
    refine (isort_none _ _ _ _ w2 (by omega) (by omega)).mono ?_
    rintro e w3 ⟨rfl, rfl⟩
    go_wp2_with fail
    refine wp_loop_rounds 1 ?_
    rw [rounds_succ]
    go_wp2_with fail
    go_end0
    exact ⟨rfl, HO2.out, HB2.out⟩
  · have hlt : n < 20 := by omega
    refine wp_loop_rounds 1 ?_
    rw [rounds_succ]
    go_wp2_with fail
    refine (HI _ HO.out hBs).out.mono ?_
    rintro e w2 ⟨rfl, hO2, hB2⟩
    have HO2 := Lib.hid hO2
    have HB2 := Lib.hid hB2
    clear HI hO2 hB2
    go_wp2_with fail
    refine wp_loop_rounds 1 ?_
    rw [rounds_succ]
    go_wp2_with fail
    go_end0
    exact ⟨rfl, HO2.out, HB2.out⟩
set_option maxHeartbeats 2000000 in
theorem stable_any {D : Nat → Prop} (F : List Ver) (a : Option Addr) (c B : Nat) (w : World) (hO : Own (verE.avoid D) w B (.slice a F.length c) F) (hs : F.length ≤ 20) (hBs : B ≤ w.heap.size) :
    Calls Tryz.prog 53 #[.slice a F.length c, .func (.func 54) #[] #[]] w fun e w' =>
      e = .returned (.tuple #[]) ∧ Own (verE.avoid D) w' B (.slice a F.length c) (sortV F) ∧ Below B w w' := by
  have HO := Lib.hid hO
  obtain ⟨n, hn⟩ : ∃ n, n = F.length := ⟨_, rfl⟩
  have HN := Lib.hid hn
  rw [← hn] at HO hs ⊢
  clear hO hn
  go_enter Tryz.func53, Tryz.ntmps53
  go_wp2_with fail
  refine (stableCmp_any F a n c B w HO.out HN.out.symm hs hBs).mono ?_
  rintro e w2 ⟨rfl, hO2, hB2⟩
  go_wp2_with fail
  go_end0
  exact ⟨rfl, hO2, hB2⟩
end Go.Proofs.YtpihlglblgbbeaaGreatDoor

namespace Go.Proofs.YtpihlglblgbbeaaGreatDoor
open Go.RowKit Go.Lib Go.Shelf
end Go.Proofs.YtpihlglblgbbeaaGreatDoor

namespace Go.Proofs.YtpihlglblgbbeaaGreatDoor
open Go.RowKit Go.Lib Go.Shelf

theorem getD_some {α : Type} {l : List α} {k : Nat} {x d : α} (h : l[k]? = some x) : l.getD k d = x := by simp [List.getD, h]
theorem legal2 {op xa xb col : Int} {c : GVal} {k : Nat} (ha : arity op = 2) (h : legalX ⟨op, xa, xb, col, c⟩ k = true) : ∃ A B : Nat, xa = (A : Int) ∧ xb = (B : Int) ∧ A < k ∧ B < k := by
  simp [legalX, ha] at h
  obtain ⟨A, rfl⟩ := Int.eq_ofNat_of_zero_le h.1.1
  obtain ⟨B, rfl⟩ := Int.eq_ofNat_of_zero_le h.2.1
  exact ⟨A, B, rfl, rfl, by omega, by omega⟩
theorem legal1 {op xa xb col : Int} {c : GVal} {k : Nat} (ha : arity op = 1) (h : legalX ⟨op, xa, xb, col, c⟩ k = true) : ∃ A : Nat, xa = (A : Int) ∧ A < k := by
  simp [legalX, ha] at h
  obtain ⟨A, rfl⟩ := Int.eq_ofNat_of_zero_le h.1
  exact ⟨A, rfl, by omega⟩
theorem xev_legal {op xa xb col : Int} {c : GVal} {k : Nat} {row done : List GVal} (ha : 0 ≤ arity op) (h : legalX ⟨op, xa, xb, col, c⟩ k = true) : xev ⟨op, xa, xb, col, c⟩ k row done = xapp op col c row (done.getD xa.toNat gnull) (done.getD xb.toNat gnull) := by
  rw [xev, if_neg]
  simp [h]; omega

end Go.Proofs.YtpihlglblgbbeaaGreatDoor

namespace Go.Proofs.YtpihlglblgbbeaaGreatDoor
open Go.RowKit Go.Lib Go.Shelf

def gx0 : GExp := ⟨0, 0, 0, 0, gnull⟩
/-- The values of the first k expressions. -/
def vals (l : List GExp) (row : List GVal) : Nat → List GVal
  | 0 => []
  | k + 1 => vals l row k ++ [xev (l.getD k gx0) k row (vals l row k)]
theorem vals_length (l : List GExp) (row : List GVal) (k : Nat) : (vals l row k).length = k := by
  induction k with
  | zero => rfl
  | succ k ih => simp [vals, ih]
theorem getD_left {α : Type} (d p : List α) (z : α) {i : Nat} (h : i < d.length) : (d ++ p).getD i z = d.getD i z := by
  simp [List.getD, List.getElem?_append_left h]
theorem xapp_one {op : Int} (h : arity op < 2) (ha : 0 ≤ arity op) (col : Int) (c : GVal) (row : List GVal) (a b b' : GVal) : xapp op col c row a b = xapp op col c row a b' := by
  have : op = 1 ∨ op = 2 ∨ op = 10 ∨ op = 11 := by have := arity_cases op; omega
  rcases this with rfl | rfl | rfl | rfl <;> simp [xapp]
theorem xapp_none {op : Int} (h : arity op < 1) (ha : 0 ≤ arity op) (col : Int) (c : GVal) (row : List GVal) (a a' b b' : GVal) : xapp op col c row a b = xapp op col c row a' b' := by
  have : op = 1 ∨ op = 2 := by have := arity_cases op; omega
  rcases this with rfl | rfl <;> simp [xapp]
/-- What lies behind the values that are done says nothing. -/
theorem xev_pad (x : GExp) (row d p : List GVal) : xev x d.length row (d ++ p) = xev x d.length row d := by
  unfold xev
  by_cases h : arity x.op < 0 ∨ legalX x d.length = false
  · rw [if_pos h, if_pos h]
  · rw [if_neg h, if_neg h]
    have hl : legalX x d.length = true := by
      cases hh : legalX x d.length
      · exact absurd (.inr hh) h
      · rfl
    have h0 : 0 ≤ arity x.op := by
      by_cases h0 : arity x.op < 0
      · exact absurd (.inl h0) h
      · omega
    simp [legalX] at hl
    by_cases h1 : arity x.op < 1
    · exact xapp_none h1 h0 _ _ _ _ _ _ _
    · have ha := hl.1.resolve_left h1
      rw [getD_left d p gnull (i := x.a.toNat) (by omega)]
      by_cases h2 : arity x.op < 2
      · exact xapp_one h2 h0 _ _ _ _ _ _
      · have hb := hl.2.resolve_left h2
        rw [getD_left d p gnull (i := x.b.toNat) (by omega)]
theorem in64_gbool (b : Bool) : In64 (gbool b).n := by cases b <;> simp [gbool, In64]
theorem in64_gnull : In64 gnull.n := by simp [gnull, In64]
theorem in64_arith (op : Int) (a b : GVal) : In64 (arithG op a b).n := by
  unfold arithG
  split
  · split
    · rename_i h; exact h
    · exact in64_gnull
  · exact in64_gnull
theorem in64_xapp (op col : Int) (c : GVal) (row : List GVal) (a b : GVal) (hc : In64 c.n) (hr : ∀ g ∈ row, In64 g.n) : In64 (xapp op col c row a b).n := by
  unfold xapp
  split
  · exact hc
  split
  · split
    · rename_i h
      obtain ⟨g, hg⟩ := lget_some row col.toNat (by omega)
      rw [getD_some hg]
      exact hr g (List.mem_of_getElem? hg)
    · exact in64_gnull
  repeat (split; exact in64_gbool _)
  exact in64_arith _ _ _
theorem in64_xev (x : GExp) (k : Nat) (row done : List GVal) (hc : In64 x.c.n) (hr : ∀ g ∈ row, In64 g.n) : In64 (xev x k row done).n := by
  unfold xev
  split
  · exact in64_gnull
  · exact in64_xapp _ _ _ _ _ _ hc hr
theorem in64_vals (l : List GExp) (row : List GVal) (hc : ∀ x ∈ l, In64 x.c.n) (hr : ∀ g ∈ row, In64 g.n) (k : Nat) : ∀ g ∈ vals l row k, In64 g.n := by
  induction k with
  | zero => intro g hg; simp [vals] at hg
  | succ k ih =>
    intro g hg
    rcases List.mem_append.1 (by simpa only [vals] using hg) with h | h
    · exact ih g h
    · rw [List.mem_singleton.1 h]
      refine in64_xev _ _ _ _ ?_ hr
      cases hk : l[k]? with
      | none => simp [List.getD, hk, gx0]; exact in64_gnull
      | some x => rw [getD_some hk]; exact hc x (List.mem_of_getElem? hk)
/-- Eval: null where the root is none of the list's. -/
def evalG (l : List GExp) (root : Int) (row : List GVal) : GVal := if root < 0 ∨ (l.length : Int) ≤ root then gnull else (vals l row (root.toNat + 1)).getD root.toNat gnull
/-- The slice while it is filled: what is done, then the type's zeros. -/
theorem fill_set {α : Type} (d : List α) (z y : α) (n : Nat) : (d ++ List.replicate (n + 1) z).set d.length y = (d ++ [y]) ++ List.replicate n z := by
  rw [List.set_append_right _ _ (Nat.le_refl _)]
  simp [List.replicate_succ]
end Go.Proofs.YtpihlglblgbbeaaGreatDoor

namespace Go.Proofs.YtpihlglblgbbeaaGreatDoor
open Go.RowKit Go.Lib Go.Shelf

theorem flat_set {l : List GVal} {k : Nat} (hk : k < l.length) (y : GVal) :
    (((l.flatMap valOf).set (k * 3) (.int .i64 y.kind)).set (k * 3 + 1) (.int .i64 y.n)).set (k * 3 + 2) (.string y.s) = (l.set k y).flatMap valOf := by
  induction l generalizing k with
  | nil => simp at hk
  | cons x l ih =>
    cases k with
    | zero => simp [valOf]
    | succ k =>
      have e0 : (k + 1) * 3 = k * 3 + 1 + 1 + 1 := by omega
      have h := ih (k := k) (by simpa using hk)
      rw [e0]
      simp only [List.flatMap_cons, List.set_cons_succ, ← h]
      simp [valOf]
theorem made_vals (n : Nat) : (madeCells #[.int .i64 0, .int .i64 0, .string ⟨#[]⟩] (n * 3)).toList = (List.replicate n gnull).flatMap valOf := by
  refine List.ext_getElem? fun j => ?_
  rcases Nat.lt_or_ge j (n * 3) with hj | hj
  · have hi : j / 3 < n := by omega
    have hx : (List.replicate n gnull)[j / 3]? = some gnull := by simp [hi]
    obtain ⟨r, hr, e⟩ : ∃ r, r < 3 ∧ j = j / 3 * 3 + r := ⟨j % 3, by omega, by omega⟩
    have hm : j % 3 = r := by omega
    have hl : (madeCells #[.int .i64 0, .int .i64 0, .string ⟨#[]⟩] (n * 3)).toList[j]? = some (#[.int .i64 0, .int .i64 0, Value.string ⟨#[]⟩][r]!) := by
      simp [madeCells, hj, hm]
    rw [hl, e]
    rcases (by omega : r = 0 ∨ r = 1 ∨ r = 2) with rfl | rfl | rfl
    · exact (flatMap_at valOf 3 (fun _ => rfl) _ _ _ 0 _ hx rfl).symm
    · exact (flatMap_at valOf 3 (fun _ => rfl) _ _ _ 1 _ hx rfl).symm
    · exact (flatMap_at valOf 3 (fun _ => rfl) _ _ _ 2 _ hx rfl).symm
  · have h2 := flatMap_length valOf 3 (fun _ => rfl) (List.replicate n gnull)
    rw [List.getElem?_eq_none (by simpa [size_madeCells] using hj), List.getElem?_eq_none (by rw [h2]; simpa using hj)]
theorem own_made {w : World} {B g n : Nat} (h : w.ownsRow B 35 3 (.slice (some ⟨g, 0, none⟩) n n) n (madeCells #[.int .i64 0, .int .i64 0, .string ⟨#[]⟩] (n * 3)).toList) : Own valE w B (.slice (some ⟨g, 0, none⟩) n n) (List.replicate n gnull) := by
  rw [made_vals] at h
  exact Own.of_flat (by simpa using h)
theorem own_set3 {w : World} {B g n c k : Nat} {l : List GVal} (h : Own valE w B (.slice (some ⟨g, 0, none⟩) n c) l) (hn : l.length = n) (hk : k < n) (y : GVal) :
    Own valE (((w.setCell ⟨g, k * 3, none⟩ (.int .i64 y.kind)).setCell ⟨g, k * 3 + 1, none⟩ (.int .i64 y.n)).setCell ⟨g, k * 3 + 2, none⟩ (.string y.s)) B (.slice (some ⟨g, 0, none⟩) n c) (l.set k y) := by
  have h1 := Own.flat_cells h
  rw [hn] at h1
  have h2 := (((h1.stored (k * 3) (.int .i64 y.kind)).1.stored (k * 3 + 1) (.int .i64 y.n)).1.stored (k * 3 + 2) (.string y.s)).1
  rw [flat_set (by omega) y] at h2
  exact Own.of_flat (by simpa [hn] using h2)
theorem own_frozen {w : World} {B g n c : Nat} {l : List GVal} (h : Own valE w B (.slice (some ⟨g, 0, none⟩) n c) l) (hn : l.length = n) (j : Nat) : w.frozen? ⟨g, j, none⟩ = false := by
  have h1 := Own.flat_cells h
  rw [hn] at h1
  exact h1.frozenAt j
theorem own_at3 {w : World} {B g n c k : Nat} {l : List GVal} {x : GVal} (h : Own valE w B (.slice (some ⟨g, 0, none⟩) n c) l) (hk : l[k]? = some x) :
    w.cell? ⟨g, k * 3, none⟩ = some (.int .i64 x.kind) ∧ w.cell? ⟨g, k * 3 + 1, none⟩ = some (.int .i64 x.n) ∧ w.cell? ⟨g, k * 3 + 2, none⟩ = some (.string x.s) := by
  obtain ⟨a, c', e⟩ := h.shape
  cases e
  obtain ⟨b, o, e, p0, p1, p2⟩ := val_at h.sl hk
  cases e
  simp only [Nat.zero_add] at p0 p1 p2
  exact ⟨p0, p1, p2⟩
end Go.Proofs.YtpihlglblgbbeaaGreatDoor

namespace Go.Proofs.YtpihlglblgbbeaaGreatDoor
open Go.RowKit Go.Lib Go.Shelf

theorem val_parts : ∃ i, Tryz.prog.info? 35 = some i ∧ i.zero = some (.agg #[.int .i64 0, .int .i64 0, .string ⟨#[]⟩]) ∧ i.size = 3 ∧ i.bytes = 32 := by
  obtain ⟨i, hi, h⟩ := Option.map_eq_some_iff.1 val_info
  simp only [Prod.mk.injEq] at h
  exact ⟨i, hi, h.1, h.2.1, h.2.2⟩
end Go.Proofs.YtpihlglblgbbeaaGreatDoor

namespace Go.Proofs.YtpihlglblgbbeaaGreatDoor
open Go.RowKit Go.Lib Go.Shelf

def aggX (x : GExp) : Value := .agg #[.int .i64 x.op, .int .i64 x.a, .int .i64 x.b, .int .i64 x.col, .int .i64 x.c.kind, .int .i64 x.c.n, .string x.c.s]
set_option maxHeartbeats 4000000 in
set_option maxRecDepth 100000 in
theorem apply_1 (va vr : Value) (xa xb col : Int) (c : GVal) (w : World) :
    Calls Tryz.prog 41 #[aggX ⟨1, xa, xb, col, c⟩, va, vr] w fun e w' => e = .returned (aggG c) ∧ Below w.heap.size w w' := by
  obtain ⟨ck, cn, cs⟩ := c
  unfold aggX
  dsimp only
  go_enter Tryz.func41, Tryz.ntmps41
  go_wp2_with fail
  exact bodyPost_ret (v := aggG ⟨ck, cn, cs⟩) (by simp [aggG, results, Tryz.results41, go_sem]) rfl ⟨rfl, by first | exact below_alloc_two w _ _ | exact (below_alloc_two w _ _).setCell (by simp) _⟩
set_option maxHeartbeats 4000000 in
set_option maxRecDepth 100000 in
theorem apply_2n (va : Value) (a2 : Option Addr) (n2 c2 : Nat) (xa xb col : Int) (c : GVal) (w : World) (hcol : ¬ (0 ≤ col ∧ col < n2)) :
    Calls Tryz.prog 41 #[aggX ⟨2, xa, xb, col, c⟩, va, .slice a2 n2 c2] w fun e w' => e = .returned (aggG gnull) ∧ Below w.heap.size w w' := by
  obtain ⟨ck, cn, cs⟩ := c
  unfold aggX
  dsimp only
  go_enter Tryz.func41, Tryz.ntmps41
  by_cases h0 : col < 0
  · go_wp2_with fail
    exact bodyPost_ret (v := aggG gnull) (by simp [aggG, gnull, results, Tryz.results41, go_sem]) rfl ⟨rfl, by first | exact below_alloc_two w _ _ | exact (below_alloc_two w _ _).setCell (by simp) _⟩
  · have h1 : (n2 : Int) ≤ col := by omega
    go_wp2_with fail
    exact bodyPost_ret (v := aggG gnull) (by simp [aggG, gnull, results, Tryz.results41, go_sem]) rfl ⟨rfl, by first | exact below_alloc_two w _ _ | exact (below_alloc_two w _ _).setCell (by simp) _⟩
set_option maxHeartbeats 4000000 in
set_option maxRecDepth 100000 in
theorem apply_2 (va : Value) (b o n2 c2 C : Nat) (xa xb : Int) (c : GVal) (k1 m1 : Int) (s1 : ByteArray) (w : World) (hcol : C < n2) (_h63 : n2 ≤ 9223372036854775807)
    (p0 : w.cell? ⟨b, o + C * 3, none⟩ = some (.int .i64 k1)) (p1 : w.cell? ⟨b, o + C * 3 + 1, none⟩ = some (.int .i64 m1)) (p2 : w.cell? ⟨b, o + C * 3 + 2, none⟩ = some (.string s1)) :
    Calls Tryz.prog 41 #[aggX ⟨2, xa, xb, (C : Int), c⟩, va, .slice (some ⟨b, o, none⟩) n2 c2] w fun e w' => e = .returned (aggG ⟨k1, m1, s1⟩) ∧ Below w.heap.size w w' := by
  have lb : b < w.heap.size := World.block_lt_of_cell? w _ p0
  have lb1 : b < w.heap.size + 1 := by omega
  have lb2 : b < w.heap.size + 1 + 1 := by omega
  obtain ⟨ck, cn, cs⟩ := c
  unfold aggX
  dsimp only
  go_enter Tryz.func41, Tryz.ntmps41
  go_wp2_with fail
  exact bodyPost_ret (v := aggG ⟨k1, m1, s1⟩) (by simp [aggG, results, Tryz.results41, go_sem]) rfl ⟨rfl, by first | exact below_alloc_two w _ _ | exact (below_alloc_two w _ _).setCell (by simp) _⟩
theorem isTrue_ag (k n : Int) (s : ByteArray) (w : World) : Calls Tryz.prog 60 #[.agg #[.int .i64 k, .int .i64 n, .string s]] w fun e w' => e = .returned (.bool (isTrueG ⟨k, n, s⟩)) ∧ Below w.heap.size w w' := isTrue_any ⟨k, n, s⟩ w

theorem aggG_bool (b : Bool) : aggG (gbool b) = .agg #[.int .i64 3, .int .i64 (b2i b), .string ⟨#[]⟩] := rfl
theorem boolean_ag (b : Bool) (w : World) : Calls Tryz.prog 58 #[.bool b] w fun e w' => e = .returned (.agg #[.int .i64 3, .int .i64 (b2i b), .string ⟨#[]⟩]) ∧ Below w.heap.size w w' := boolean_any b w
theorem heap2_1 (w : World) (c1 c2 : Obj) : ((w.alloc c1).alloc c2).heap[w.heap.size + 1]? = some c2 := by simpa using World.alloc_heap_new (w.alloc c1) c2
set_option maxHeartbeats 4000000 in
set_option maxRecDepth 100000 in
theorem apply_10 (b o n1 c1 : Nat) (vr : Value) (xa xb col : Int) (c : GVal) (k1 m1 : Int) (s1 : ByteArray) (w : World) (hn : 0 < n1) (_h63 : n1 ≤ 9223372036854775807)
    (p0 : w.cell? ⟨b, o, none⟩ = some (.int .i64 k1)) (p1 : w.cell? ⟨b, o + 1, none⟩ = some (.int .i64 m1)) (p2 : w.cell? ⟨b, o + 2, none⟩ = some (.string s1)) :
    Calls Tryz.prog 41 #[aggX ⟨10, xa, xb, col, c⟩, .slice (some ⟨b, o, none⟩) n1 c1, vr] w fun e w' => e = .returned (aggG (gbool (!isTrueG ⟨k1, m1, s1⟩))) ∧ Below w.heap.size w w' := by
  have lb : b < w.heap.size := World.block_lt_of_cell? w _ p0
  have lb1 : b < w.heap.size + 1 := by omega
  have lb2 : b < w.heap.size + 1 + 1 := by omega
  obtain ⟨ck, cn, cs⟩ := c
  obtain ⟨r, hr⟩ : ∃ r, r = isTrueG ⟨k1, m1, s1⟩ := ⟨_, rfl⟩
  rw [← hr]
  have HR := Lib.hid hr
  clear hr
  unfold aggX
  dsimp only
  go_enter Tryz.func41, Tryz.ntmps41
  go_wp2_with fail
  refine (isTrue_ag k1 m1 s1 _).mono ?_
  rintro e w1 ⟨rfl, hb1⟩
  rw [← HR.out]
  have hB1 : Below w.heap.size w w1 := below_keep (below_alloc_two w _ _) hb1
  have bx := box_kept (heap2_1 w _ _) hb1
  have hz : w.heap.size + 1 < w1.heap.size := by have := hb1.size; simp at this; omega
  clear hb1
  go_wp2_with fail
  refine (boolean_ag (!r) _).mono ?_
  rintro e w2 ⟨rfl, hb2⟩
  obtain ⟨⟨d0, d1, d2⟩, f0, f1, f2⟩ := box_three (box_kept bx hb2)
  have hB2 : Below w.heap.size w w2 := below_keep hB1 hb2
  have hz2 : w.heap.size + 1 < w2.heap.size := by have := hb2.size; omega
  clear hb2 hB1 bx
  go_wp2_with fail
  rw [aggG_bool]
  exact bodyPost_ret (v := .agg #[.int .i64 3, .int .i64 (b2i (!r)), .string ⟨#[]⟩]) (by simp [results, Tryz.results41, go_sem, d0, d1, d2]) rfl ⟨rfl, ((hB2.setCell (Nat.le_succ _) _).setCell (Nat.le_succ _) _).setCell (Nat.le_succ _) _⟩
end Go.Proofs.YtpihlglblgbbeaaGreatDoor

namespace Go.Proofs.YtpihlglblgbbeaaGreatDoor
open Go.RowKit Go.Lib Go.Shelf

set_option maxHeartbeats 4000000 in
set_option maxRecDepth 100000 in
theorem apply_8 (b o n1 c1 : Nat) (vr : Value) (xa xb col : Int) (c : GVal) (k1 m1 k2 m2 : Int) (s1 s2 : ByteArray) (w : World) (hn : 1 < n1) (h63 : n1 ≤ 9223372036854775807)
    (p0 : w.cell? ⟨b, o, none⟩ = some (.int .i64 k1)) (p1 : w.cell? ⟨b, o + 1, none⟩ = some (.int .i64 m1)) (p2 : w.cell? ⟨b, o + 2, none⟩ = some (.string s1))
    (q0 : w.cell? ⟨b, o + 3, none⟩ = some (.int .i64 k2)) (q1 : w.cell? ⟨b, o + 3 + 1, none⟩ = some (.int .i64 m2)) (q2 : w.cell? ⟨b, o + 3 + 2, none⟩ = some (.string s2)) :
    Calls Tryz.prog 41 #[aggX ⟨8, xa, xb, col, c⟩, .slice (some ⟨b, o, none⟩) n1 c1, vr] w fun e w' => e = .returned (aggG (gbool (isTrueG ⟨k1, m1, s1⟩ && isTrueG ⟨k2, m2, s2⟩))) ∧ Below w.heap.size w w' := by
  have lb : b < w.heap.size := World.block_lt_of_cell? w _ p0
  have lb1 : b < w.heap.size + 1 := by omega
  have lb2 : b < w.heap.size + 1 + 1 := by omega
  have hn0 : 0 < n1 := by omega
  obtain ⟨ck, cn, cs⟩ := c
  obtain ⟨r, hr⟩ : ∃ r, r = isTrueG ⟨k1, m1, s1⟩ := ⟨_, rfl⟩
  obtain ⟨t, ht⟩ : ∃ t, t = isTrueG ⟨k2, m2, s2⟩ := ⟨_, rfl⟩
  rw [← hr, ← ht]
  have HR := Lib.hid hr
  have HT := Lib.hid ht
  clear hr ht
  unfold aggX
  dsimp only
  go_enter Tryz.func41, Tryz.ntmps41
  go_wp2_with fail
  refine (isTrue_ag k1 m1 s1 _).mono ?_
  rintro e w1 ⟨rfl, hb1⟩
  rw [← HR.out]
  have hB1 : Below w.heap.size w w1 := below_keep (below_alloc_two w _ _) hb1
  have bx := box_kept (heap2_1 w _ _) hb1
  have hz : w.heap.size + 1 < w1.heap.size := by have := hb1.size; simp at this; omega
  replace q0 := cell_keep hB1 q0
  replace q1 := cell_keep hB1 q1
  replace q2 := cell_keep hB1 q2
  clear hb1
  cases r
  · go_wp2_with fail
    refine (boolean_ag false _).mono ?_
    rintro e w3 ⟨rfl, hb3⟩
    obtain ⟨⟨d0, d1, d2⟩, f0, f1, f2⟩ := box_three (box_kept bx hb3)
    have hB3 := below_keep hB1 hb3
    have hz3 : w.heap.size + 1 < w3.heap.size := by have := hb3.size; omega
    clear hb3 hB1 bx
    go_wp2_with fail
    exact bodyPost_ret (v := .agg #[.int .i64 3, .int .i64 (b2i false), .string ⟨#[]⟩]) (by simp [results, Tryz.results41, go_sem, d0, d1, d2]) rfl ⟨by simp only [Bool.false_and]; rfl, ((hB3.setCell (Nat.le_succ _) _).setCell (Nat.le_succ _) _).setCell (Nat.le_succ _) _⟩
  · go_wp2_with fail
    refine (isTrue_ag k2 m2 s2 _).mono ?_
    rintro e w2 ⟨rfl, hb2⟩
    rw [← HT.out]
    replace bx := box_kept bx hb2
    replace hB1 := below_keep hB1 hb2
    replace hz : w.heap.size + 1 < w2.heap.size := by have := hb2.size; omega
    clear hb2
    go_wp2_with fail
    refine (boolean_ag t _).mono ?_
    rintro e w3 ⟨rfl, hb3⟩
    obtain ⟨⟨d0, d1, d2⟩, f0, f1, f2⟩ := box_three (box_kept bx hb3)
    have hB3 := below_keep hB1 hb3
    have hz3 : w.heap.size + 1 < w3.heap.size := by have := hb3.size; omega
    clear hb3 hB1 bx
    go_wp2_with fail
    exact bodyPost_ret (v := .agg #[.int .i64 3, .int .i64 (b2i t), .string ⟨#[]⟩]) (by simp [results, Tryz.results41, go_sem, d0, d1, d2]) rfl ⟨by simp only [Bool.true_and]; rfl, ((hB3.setCell (Nat.le_succ _) _).setCell (Nat.le_succ _) _).setCell (Nat.le_succ _) _⟩
set_option maxHeartbeats 4000000 in
set_option maxRecDepth 100000 in
theorem apply_9 (b o n1 c1 : Nat) (vr : Value) (xa xb col : Int) (c : GVal) (k1 m1 k2 m2 : Int) (s1 s2 : ByteArray) (w : World) (hn : 1 < n1) (h63 : n1 ≤ 9223372036854775807)
    (p0 : w.cell? ⟨b, o, none⟩ = some (.int .i64 k1)) (p1 : w.cell? ⟨b, o + 1, none⟩ = some (.int .i64 m1)) (p2 : w.cell? ⟨b, o + 2, none⟩ = some (.string s1))
    (q0 : w.cell? ⟨b, o + 3, none⟩ = some (.int .i64 k2)) (q1 : w.cell? ⟨b, o + 3 + 1, none⟩ = some (.int .i64 m2)) (q2 : w.cell? ⟨b, o + 3 + 2, none⟩ = some (.string s2)) :
    Calls Tryz.prog 41 #[aggX ⟨9, xa, xb, col, c⟩, .slice (some ⟨b, o, none⟩) n1 c1, vr] w fun e w' => e = .returned (aggG (gbool (isTrueG ⟨k1, m1, s1⟩ || isTrueG ⟨k2, m2, s2⟩))) ∧ Below w.heap.size w w' := by
  have lb : b < w.heap.size := World.block_lt_of_cell? w _ p0
  have lb1 : b < w.heap.size + 1 := by omega
  have lb2 : b < w.heap.size + 1 + 1 := by omega
  have hn0 : 0 < n1 := by omega
  obtain ⟨ck, cn, cs⟩ := c
  obtain ⟨r, hr⟩ : ∃ r, r = isTrueG ⟨k1, m1, s1⟩ := ⟨_, rfl⟩
  obtain ⟨t, ht⟩ : ∃ t, t = isTrueG ⟨k2, m2, s2⟩ := ⟨_, rfl⟩
  rw [← hr, ← ht]
  have HR := Lib.hid hr
  have HT := Lib.hid ht
  clear hr ht
  unfold aggX
  dsimp only
  go_enter Tryz.func41, Tryz.ntmps41
  go_wp2_with fail
  refine (isTrue_ag k1 m1 s1 _).mono ?_
  rintro e w1 ⟨rfl, hb1⟩
  rw [← HR.out]
  have hB1 : Below w.heap.size w w1 := below_keep (below_alloc_two w _ _) hb1
  have bx := box_kept (heap2_1 w _ _) hb1
  have hz : w.heap.size + 1 < w1.heap.size := by have := hb1.size; simp at this; omega
  replace q0 := cell_keep hB1 q0
  replace q1 := cell_keep hB1 q1
  replace q2 := cell_keep hB1 q2
  clear hb1
  cases r
  · go_wp2_with fail
    refine (isTrue_ag k2 m2 s2 _).mono ?_
    rintro e w2 ⟨rfl, hb2⟩
    rw [← HT.out]
    replace bx := box_kept bx hb2
    replace hB1 := below_keep hB1 hb2
    replace hz : w.heap.size + 1 < w2.heap.size := by have := hb2.size; omega
    clear hb2
    go_wp2_with fail
    refine (boolean_ag t _).mono ?_
    rintro e w3 ⟨rfl, hb3⟩
    obtain ⟨⟨d0, d1, d2⟩, f0, f1, f2⟩ := box_three (box_kept bx hb3)
    have hB3 := below_keep hB1 hb3
    have hz3 : w.heap.size + 1 < w3.heap.size := by have := hb3.size; omega
    clear hb3 hB1 bx
    go_wp2_with fail
    exact bodyPost_ret (v := .agg #[.int .i64 3, .int .i64 (b2i t), .string ⟨#[]⟩]) (by simp [results, Tryz.results41, go_sem, d0, d1, d2]) rfl ⟨by simp only [Bool.false_or]; rfl, ((hB3.setCell (Nat.le_succ _) _).setCell (Nat.le_succ _) _).setCell (Nat.le_succ _) _⟩
  · go_wp2_with fail
    refine (boolean_ag true _).mono ?_
    rintro e w3 ⟨rfl, hb3⟩
    obtain ⟨⟨d0, d1, d2⟩, f0, f1, f2⟩ := box_three (box_kept bx hb3)
    have hB3 := below_keep hB1 hb3
    have hz3 : w.heap.size + 1 < w3.heap.size := by have := hb3.size; omega
    clear hb3 hB1 bx
    go_wp2_with fail
    exact bodyPost_ret (v := .agg #[.int .i64 3, .int .i64 (b2i true), .string ⟨#[]⟩]) (by simp [results, Tryz.results41, go_sem, d0, d1, d2]) rfl ⟨by simp only [Bool.true_or]; rfl, ((hB3.setCell (Nat.le_succ _) _).setCell (Nat.le_succ _) _).setCell (Nat.le_succ _) _⟩
set_option maxHeartbeats 4000000 in
set_option maxRecDepth 100000 in
theorem apply_11 (b o n1 c1 : Nat) (vr : Value) (xa xb col : Int) (c : GVal) (k1 : Int) (w : World) (hn : 0 < n1) (_h63 : n1 ≤ 9223372036854775807)
    (p0 : w.cell? ⟨b, o, none⟩ = some (.int .i64 k1)) :
    Calls Tryz.prog 41 #[aggX ⟨11, xa, xb, col, c⟩, .slice (some ⟨b, o, none⟩) n1 c1, vr] w fun e w' => e = .returned (aggG (gbool (k1 == 0))) ∧ Below w.heap.size w w' := by
  have lb : b < w.heap.size := World.block_lt_of_cell? w _ p0
  have lb1 : b < w.heap.size + 1 := by omega
  have lb2 : b < w.heap.size + 1 + 1 := by omega
  obtain ⟨ck, cn, cs⟩ := c
  unfold aggX
  dsimp only
  go_enter Tryz.func41, Tryz.ntmps41
  go_wp2_with fail
  refine (boolean_ag (k1 == 0) _).mono ?_
  rintro e w3 ⟨rfl, hb3⟩
  have hB3 := below_keep (below_alloc_two w _ _) hb3
  obtain ⟨⟨d0, d1, d2⟩, f0, f1, f2⟩ := box_three (box_kept (heap2_1 w _ _) hb3)
  have hz3 : w.heap.size + 1 < w3.heap.size := by have := hb3.size; simp at this; omega
  clear hb3
  go_wp2_with fail
  exact bodyPost_ret (v := .agg #[.int .i64 3, .int .i64 (b2i (k1 == 0)), .string ⟨#[]⟩]) (by simp [results, Tryz.results41, go_sem, d0, d1, d2]) rfl ⟨rfl, ((hB3.setCell (Nat.le_succ _) _).setCell (Nat.le_succ _) _).setCell (Nat.le_succ _) _⟩
end Go.Proofs.YtpihlglblgbbeaaGreatDoor

namespace Go.Proofs.YtpihlglblgbbeaaGreatDoor
open Go.RowKit Go.Lib Go.Shelf

theorem vAt_set3 {W : World} {p q1 q2 q3 : Addr} {u1 u2 u3 v : Value} (h : W.cell? p = some v) : (((W.setCell q1 u1).setCell q2 u2).setCell q3 u3).cell? p = some (vAt (((W.setCell q1 u1).setCell q2 u2).setCell q3 u3) p) := vAt_set (vAt_set (vAt_set h))
theorem cell_set3 {W : World} {p q1 q2 q3 : Addr} {u1 u2 u3 v : Value} (h : W.cell? p = some v) (h1 : q1.block ≠ p.block) (h2 : q2.block = q1.block) (h3 : q3.block = q1.block) : (((W.setCell q1 u1).setCell q2 u2).setCell q3 u3).cell? p = some v := by
  rw [World.cell?_setCell_far _ _ _ _ (by rw [h3]; exact h1), World.cell?_setCell_far _ _ _ _ (by rw [h2]; exact h1), World.cell?_setCell_far _ _ _ _ h1]
  exact h
theorem below_set3 {w W : World} {q1 q2 q3 : Addr} {u1 u2 u3 : Value} (h : Below w.heap.size w W) (h1 : w.heap.size ≤ q1.block) (h2 : w.heap.size ≤ q2.block) (h3 : w.heap.size ≤ q3.block) : Below w.heap.size w (((W.setCell q1 u1).setCell q2 u2).setCell q3 u3) :=
  ((h.setCell h1 _).setCell h2 _).setCell h3 _
theorem frozen_set3 {W : World} {p q1 q2 q3 : Addr} {u1 u2 u3 : Value} (h : W.frozen? p = false) : (((W.setCell q1 u1).setCell q2 u2).setCell q3 u3).frozen? p = false := by simp [h]
theorem heap2_1d (w : World) (c1 c2 : Obj) : ((w.alloc c1).alloc c2).drew.heap[w.heap.size + 1]? = some c2 := heap2_1 w c1 c2
theorem size_set3 {n : Nat} {W : World} {q1 q2 q3 : Addr} {u1 u2 u3 : Value} (h : n < W.heap.size) : n < (((W.setCell q1 u1).setCell q2 u2).setCell q3 u3).heap.size := by simpa [World.setCell] using h
set_option maxHeartbeats 4000000 in
set_option maxRecDepth 100000 in
theorem apply_arith (op : Int) (ho : op = 3 ∨ op = 4 ∨ op = 5) (b o n1 c1 : Nat) (vr : Value) (xa xb col : Int) (c : GVal) (k1 m1 k2 m2 : Int) (s1 s2 : ByteArray) (w : World) (hn : 1 < n1) (h63 : n1 ≤ 9223372036854775807) (hm1 : In64 m1) (hm2 : In64 m2)
    (p0 : w.cell? ⟨b, o, none⟩ = some (.int .i64 k1)) (p1 : w.cell? ⟨b, o + 1, none⟩ = some (.int .i64 m1)) (p2 : w.cell? ⟨b, o + 2, none⟩ = some (.string s1))
    (q0 : w.cell? ⟨b, o + 3, none⟩ = some (.int .i64 k2)) (q1 : w.cell? ⟨b, o + 3 + 1, none⟩ = some (.int .i64 m2)) (q2 : w.cell? ⟨b, o + 3 + 2, none⟩ = some (.string s2)) :
    Calls Tryz.prog 41 #[aggX ⟨op, xa, xb, col, c⟩, .slice (some ⟨b, o, none⟩) n1 c1, vr] w fun e w' => e = .returned (aggG (arithG op ⟨k1, m1, s1⟩ ⟨k2, m2, s2⟩)) ∧ Below w.heap.size w w' := by
  have lb : b < w.heap.size := World.block_lt_of_cell? w _ p0
  have hn0 : 0 < n1 := by omega
  have hn1 : (1 : Int) ≤ (n1 : Int) - 1 := by omega
  have hn2 : (1 : Int) < (n1 : Int) := by omega
  have hn3 : ¬ (n1 : Int) ≤ 1 := by omega
  have hn4 : ¬ n1 ≤ 1 := by omega
  have HA : ∀ W, Hid (Calls Tryz.prog 57 #[.int .i64 op, .agg #[.int .i64 k1, .int .i64 m1, .string s1], .agg #[.int .i64 k2, .int .i64 m2, .string s2]] W fun e w' => e = .returned (aggG (arithG op ⟨k1, m1, s1⟩ ⟨k2, m2, s2⟩)) ∧ Below W.heap.size W w') := fun W => arith_any op ⟨k1, m1, s1⟩ ⟨k2, m2, s2⟩ ho hm1 hm2 W
  obtain ⟨ck, cn, cs⟩ := c
  obtain ⟨y, hy⟩ : ∃ y, y = arithG op ⟨k1, m1, s1⟩ ⟨k2, m2, s2⟩ := ⟨_, rfl⟩
  rw [← hy]
  rw [← hy] at HA
  clear hy hm1 hm2
  obtain ⟨ky, ny, sy⟩ := y
  unfold aggX
  unfold aggG at HA ⊢
  dsimp only at HA ⊢
  have hB0 := below_alloc_two w (.cells #[.int .i64 op, .int .i64 xa, .int .i64 xb, .int .i64 col, .int .i64 ck, .int .i64 cn, .string cs] 38) (.cells #[.int .i64 0, .int .i64 0, .string ⟨#[]⟩] 35)
  have hz0 : w.heap.size + 1 < ((w.alloc (.cells #[.int .i64 op, .int .i64 xa, .int .i64 xb, .int .i64 col, .int .i64 ck, .int .i64 cn, .string cs] 38)).alloc (.cells #[.int .i64 0, .int .i64 0, .string ⟨#[]⟩] 35)).heap.size := by simp
  have d0 : ((w.alloc (.cells #[.int .i64 op, .int .i64 xa, .int .i64 xb, .int .i64 col, .int .i64 ck, .int .i64 cn, .string cs] 38)).alloc (.cells #[.int .i64 0, .int .i64 0, .string ⟨#[]⟩] 35)).cell? ⟨w.heap.size, 0, none⟩ = some (.int .i64 op) := by simp [World.cell?, heap_alloc_old' w (.cells #[.int .i64 op, .int .i64 xa, .int .i64 xb, .int .i64 col, .int .i64 ck, .int .i64 cn, .string cs] 38) (.cells #[.int .i64 0, .int .i64 0, .string ⟨#[]⟩] 35)]
  obtain ⟨⟨r0, r1, r2⟩, f0, f1, f2⟩ := box_three (heap2_1 w (.cells #[.int .i64 op, .int .i64 xa, .int .i64 xb, .int .i64 col, .int .i64 ck, .int .i64 cn, .string cs] 38) (.cells #[.int .i64 0, .int .i64 0, .string ⟨#[]⟩] 35))
  replace r0 := vAt_of r0
  replace r1 := vAt_of r1
  replace r2 := vAt_of r2
  replace p0 := cell_keep hB0 p0
  replace p1 := cell_keep hB0 p1
  replace p2 := cell_keep hB0 p2
  replace q0 := cell_keep hB0 q0
  replace q1 := cell_keep hB0 q1
  replace q2 := cell_keep hB0 q2
  have lb1 : w.heap.size ≠ b := by omega
  have lb2 : w.heap.size + 1 ≠ b := by omega
  have lb3 : w.heap.size + 1 ≠ w.heap.size := by omega
  rcases ho with rfl | rfl | rfl
  · go_enter Tryz.func41, Tryz.ntmps41
    go_wp2_with fail
    go_region_held3 (fun W => Below w.heap.size w W ∧ w.heap.size + 1 < W.heap.size ∧ W.cell? ⟨w.heap.size, 0, none⟩ = some (.int .i64 3)
        ∧ W.cell? ⟨b, o, none⟩ = some (.int .i64 k1) ∧ W.cell? ⟨b, o + 1, none⟩ = some (.int .i64 m1) ∧ W.cell? ⟨b, o + 2, none⟩ = some (.string s1)
        ∧ W.cell? ⟨b, o + 3, none⟩ = some (.int .i64 k2) ∧ W.cell? ⟨b, o + 3 + 1, none⟩ = some (.int .i64 m2) ∧ W.cell? ⟨b, o + 3 + 2, none⟩ = some (.string s2)
        ∧ W.cell? ⟨w.heap.size + 1, 0, none⟩ = some (vAt W ⟨w.heap.size + 1, 0, none⟩) ∧ W.cell? ⟨w.heap.size + 1, 1, none⟩ = some (vAt W ⟨w.heap.size + 1, 1, none⟩) ∧ W.cell? ⟨w.heap.size + 1, 2, none⟩ = some (vAt W ⟨w.heap.size + 1, 2, none⟩)
        ∧ W.frozen? ⟨w.heap.size + 1, 0, none⟩ = false ∧ W.frozen? ⟨w.heap.size + 1, 1, none⟩ = false ∧ W.frozen? ⟨w.heap.size + 1, 2, none⟩ = false)
      ((go_split_ands; refine ⟨?_, ?_, ?_, ?_, ?_, ?_, ?_, ?_, ?_, ?_, ?_, ?_, ?_, ?_, ?_⟩ <;> first | (with_reducible assumption) | with_reducible exact Below.drew (by assumption) | with_reducible exact size_drew (by assumption) | with_reducible exact cell_drew (by assumption) | with_reducible exact vAt_drew (by assumption) | with_reducible exact frozen_drew (by assumption) | with_reducible exact below_keep (by assumption) (by assumption) | with_reducible exact size_keep (by assumption) (by assumption) | with_reducible exact cell_keep (by assumption) (by assumption) | with_reducible exact vAt_keep (by assumption) (by assumption) | with_reducible exact frozen_keep (by assumption) (by assumption) (by assumption) | with_reducible exact below_set3 (by assumption) (by simp) (by simp) (by simp) | with_reducible exact size_set3 (by assumption) | with_reducible exact cell_set3 (by assumption) (by simp [*]) rfl rfl | with_reducible exact vAt_set3 (by assumption) | with_reducible exact frozen_set3 (by assumption)))
      (first
        | (go_at_call 57; refine (HA _).out.mono ?_; rintro e wA ⟨rfl, hbA⟩))
    obtain ⟨⟨e0, e1, e2⟩, _⟩ := box_three (box_kept (heap2_1d w _ _) hbA)
    have hzA : w.heap.size + 1 < wA.heap.size := size_keep hbA (size_drew hz0)
    have hBA := below_keep hB0.drew hbA
    clear HA hB0 hz0 d0 r0 r1 r2 f0 f1 f2 p0 p1 p2 q0 q1 q2
    go_wp2_with fail
    exact bodyPost_ret (v := .agg #[.int .i64 ky, .int .i64 ny, .string sy]) (by simp [results, Tryz.results41, go_sem, e0, e1, e2]) rfl ⟨rfl, below_set3 hBA (Nat.le_succ _) (Nat.le_succ _) (Nat.le_succ _)⟩
  · go_enter Tryz.func41, Tryz.ntmps41
    go_wp2_with fail
    go_region_held3 (fun W => Below w.heap.size w W ∧ w.heap.size + 1 < W.heap.size ∧ W.cell? ⟨w.heap.size, 0, none⟩ = some (.int .i64 4)
        ∧ W.cell? ⟨b, o, none⟩ = some (.int .i64 k1) ∧ W.cell? ⟨b, o + 1, none⟩ = some (.int .i64 m1) ∧ W.cell? ⟨b, o + 2, none⟩ = some (.string s1)
        ∧ W.cell? ⟨b, o + 3, none⟩ = some (.int .i64 k2) ∧ W.cell? ⟨b, o + 3 + 1, none⟩ = some (.int .i64 m2) ∧ W.cell? ⟨b, o + 3 + 2, none⟩ = some (.string s2)
        ∧ W.cell? ⟨w.heap.size + 1, 0, none⟩ = some (vAt W ⟨w.heap.size + 1, 0, none⟩) ∧ W.cell? ⟨w.heap.size + 1, 1, none⟩ = some (vAt W ⟨w.heap.size + 1, 1, none⟩) ∧ W.cell? ⟨w.heap.size + 1, 2, none⟩ = some (vAt W ⟨w.heap.size + 1, 2, none⟩)
        ∧ W.frozen? ⟨w.heap.size + 1, 0, none⟩ = false ∧ W.frozen? ⟨w.heap.size + 1, 1, none⟩ = false ∧ W.frozen? ⟨w.heap.size + 1, 2, none⟩ = false)
      ((go_split_ands; refine ⟨?_, ?_, ?_, ?_, ?_, ?_, ?_, ?_, ?_, ?_, ?_, ?_, ?_, ?_, ?_⟩ <;> first | (with_reducible assumption) | with_reducible exact Below.drew (by assumption) | with_reducible exact size_drew (by assumption) | with_reducible exact cell_drew (by assumption) | with_reducible exact vAt_drew (by assumption) | with_reducible exact frozen_drew (by assumption) | with_reducible exact below_keep (by assumption) (by assumption) | with_reducible exact size_keep (by assumption) (by assumption) | with_reducible exact cell_keep (by assumption) (by assumption) | with_reducible exact vAt_keep (by assumption) (by assumption) | with_reducible exact frozen_keep (by assumption) (by assumption) (by assumption) | with_reducible exact below_set3 (by assumption) (by simp) (by simp) (by simp) | with_reducible exact size_set3 (by assumption) | with_reducible exact cell_set3 (by assumption) (by simp [*]) rfl rfl | with_reducible exact vAt_set3 (by assumption) | with_reducible exact frozen_set3 (by assumption)))
      (first
        | (go_at_call 57; refine (HA _).out.mono ?_; rintro e wA ⟨rfl, hbA⟩))
    obtain ⟨⟨e0, e1, e2⟩, _⟩ := box_three (box_kept (heap2_1d w _ _) hbA)
    have hzA : w.heap.size + 1 < wA.heap.size := size_keep hbA (size_drew hz0)
    have hBA := below_keep hB0.drew hbA
    clear HA hB0 hz0 d0 r0 r1 r2 f0 f1 f2 p0 p1 p2 q0 q1 q2
    go_wp2_with fail
    exact bodyPost_ret (v := .agg #[.int .i64 ky, .int .i64 ny, .string sy]) (by simp [results, Tryz.results41, go_sem, e0, e1, e2]) rfl ⟨rfl, below_set3 hBA (Nat.le_succ _) (Nat.le_succ _) (Nat.le_succ _)⟩
  · go_enter Tryz.func41, Tryz.ntmps41
    go_wp2_with fail
    go_region_held3 (fun W => Below w.heap.size w W ∧ w.heap.size + 1 < W.heap.size ∧ W.cell? ⟨w.heap.size, 0, none⟩ = some (.int .i64 5)
        ∧ W.cell? ⟨b, o, none⟩ = some (.int .i64 k1) ∧ W.cell? ⟨b, o + 1, none⟩ = some (.int .i64 m1) ∧ W.cell? ⟨b, o + 2, none⟩ = some (.string s1)
        ∧ W.cell? ⟨b, o + 3, none⟩ = some (.int .i64 k2) ∧ W.cell? ⟨b, o + 3 + 1, none⟩ = some (.int .i64 m2) ∧ W.cell? ⟨b, o + 3 + 2, none⟩ = some (.string s2)
        ∧ W.cell? ⟨w.heap.size + 1, 0, none⟩ = some (vAt W ⟨w.heap.size + 1, 0, none⟩) ∧ W.cell? ⟨w.heap.size + 1, 1, none⟩ = some (vAt W ⟨w.heap.size + 1, 1, none⟩) ∧ W.cell? ⟨w.heap.size + 1, 2, none⟩ = some (vAt W ⟨w.heap.size + 1, 2, none⟩)
        ∧ W.frozen? ⟨w.heap.size + 1, 0, none⟩ = false ∧ W.frozen? ⟨w.heap.size + 1, 1, none⟩ = false ∧ W.frozen? ⟨w.heap.size + 1, 2, none⟩ = false)
      ((go_split_ands; refine ⟨?_, ?_, ?_, ?_, ?_, ?_, ?_, ?_, ?_, ?_, ?_, ?_, ?_, ?_, ?_⟩ <;> first | (with_reducible assumption) | with_reducible exact Below.drew (by assumption) | with_reducible exact size_drew (by assumption) | with_reducible exact cell_drew (by assumption) | with_reducible exact vAt_drew (by assumption) | with_reducible exact frozen_drew (by assumption) | with_reducible exact below_keep (by assumption) (by assumption) | with_reducible exact size_keep (by assumption) (by assumption) | with_reducible exact cell_keep (by assumption) (by assumption) | with_reducible exact vAt_keep (by assumption) (by assumption) | with_reducible exact frozen_keep (by assumption) (by assumption) (by assumption) | with_reducible exact below_set3 (by assumption) (by simp) (by simp) (by simp) | with_reducible exact size_set3 (by assumption) | with_reducible exact cell_set3 (by assumption) (by simp [*]) rfl rfl | with_reducible exact vAt_set3 (by assumption) | with_reducible exact frozen_set3 (by assumption)))
      (first
        | (go_at_call 57; refine (HA _).out.mono ?_; rintro e wA ⟨rfl, hbA⟩))
    obtain ⟨⟨e0, e1, e2⟩, _⟩ := box_three (box_kept (heap2_1d w _ _) hbA)
    have hzA : w.heap.size + 1 < wA.heap.size := size_keep hbA (size_drew hz0)
    have hBA := below_keep hB0.drew hbA
    clear HA hB0 hz0 d0 r0 r1 r2 f0 f1 f2 p0 p1 p2 q0 q1 q2
    go_wp2_with fail
    exact bodyPost_ret (v := .agg #[.int .i64 ky, .int .i64 ny, .string sy]) (by simp [results, Tryz.results41, go_sem, e0, e1, e2]) rfl ⟨rfl, below_set3 hBA (Nat.le_succ _) (Nat.le_succ _) (Nat.le_succ _)⟩
end Go.Proofs.YtpihlglblgbbeaaGreatDoor

namespace Go.Proofs.YtpihlglblgbbeaaGreatDoor
open Go.RowKit Go.Lib Go.Shelf

set_option maxHeartbeats 4000000 in
set_option maxRecDepth 100000 in
theorem apply_unknown (op : Int) (ho : arity op < 0) (va vr : Value) (xa xb col : Int) (c : GVal) (w : World) :
    Calls Tryz.prog 41 #[aggX ⟨op, xa, xb, col, c⟩, va, vr] w fun e w' => e = .returned (aggG gnull) ∧ Below w.heap.size w w' := by
  have hop : op < 1 ∨ 11 < op := by have := arity_cases op; omega
  have b1 : (op == 1) = false := by rw [beq_eq_false_iff_ne]; omega
  have b2 : (op == 2) = false := by rw [beq_eq_false_iff_ne]; omega
  have b3 : (op == 3) = false := by rw [beq_eq_false_iff_ne]; omega
  have b4 : (op == 4) = false := by rw [beq_eq_false_iff_ne]; omega
  have b5 : (op == 5) = false := by rw [beq_eq_false_iff_ne]; omega
  have b6 : (op == 6) = false := by rw [beq_eq_false_iff_ne]; omega
  have b7 : (op == 7) = false := by rw [beq_eq_false_iff_ne]; omega
  have b8 : (op == 8) = false := by rw [beq_eq_false_iff_ne]; omega
  have b9 : (op == 9) = false := by rw [beq_eq_false_iff_ne]; omega
  have b10 : (op == 10) = false := by rw [beq_eq_false_iff_ne]; omega
  have b11 : (op == 11) = false := by rw [beq_eq_false_iff_ne]; omega
  clear ho hop
  obtain ⟨ck, cn, cs⟩ := c
  unfold aggX
  dsimp only
  go_enter Tryz.func41, Tryz.ntmps41
  go_wp2_with fail
  exact bodyPost_ret (v := aggG gnull) (by simp [aggG, gnull, results, Tryz.results41, go_sem]) rfl ⟨rfl, by first | exact below_alloc_two w _ _ | exact (below_alloc_two w _ _).setCell (by simp) _⟩
end Go.Proofs.YtpihlglblgbbeaaGreatDoor
