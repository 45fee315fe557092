/- A part of the proofs: Bru, Bdf, Ssw, LawSSlf. No condition beside sizes and tables that read as laid. -/
import Derived.Test.YtngigmpaabmngaaGreatDoorMgBa
import Derived.Test.YtngigmpaabmngaaGreatDoorMgAe
import Derived.Test.YtngigmpaabmngaaGreatDoorMgAb
import Derived.Test.YtngigmpaabmngaaGreatDoorMgAd
import Derived.Deep.DeepCutAuto
import Derived.Test.YtngigmpaabmngaaGreatDoorMgAf
import Derived.Test.YtngigmpaabmngaaGreatDoorMgAg
import Derived.Test.YtngigmpaabmngaaGreatDoorCards
import Derived.Test.YtngigmpaabmngaaGreatDoorTie
namespace Go.Proofs.YtngigmpaabmngaaGreatDoor
open Go.RowKit Go.Lib

/-- A slice as a datum: where it starts, its length, its room. -/
abbrev GS := Option Addr × Nat × Nat
theorem slRows_info : (Tryz.prog.info? 35).map (fun i => (i.zero, i.size, i.bytes)) = some (some (.slice none 0 0), 1, 24) := by kernel_rfl
/-- Slices of rows, as they are. -/
def slE : El Tryz.prog GS := El.flat 35 1 24 (by decide) (info_mk slRows_info rfl) (fun t => [.slice t.1 t.2.1 t.2.2]) (fun _ => rfl) (by intro x u hu; simp at hu; subst hu; rfl)
theorem slE_flat : slE.Flat (P := Tryz.prog) := fun h => h
section
variable {w : World} {B g n c k : Nat} {l : List GS} {x : GS}
theorem sl_at (h : Own slE w B (.slice (some ⟨g, 0, none⟩) n c) l) (hk : l[k]? = some x) : w.cell? ⟨g, k, none⟩ = some (.slice x.1 x.2.1 x.2.2) := by
  obtain ⟨cs, rfl, hc⟩ := h.at hk
  have := hc 0 _ rfl
  rw [show k * slE.size + 0 = k from by rw [Nat.add_zero]; exact Nat.mul_one k] at this
  exact this
theorem sl_put (h : Own slE w B (.slice (some ⟨g, 0, none⟩) n c) l) (hn : l.length = n) (hk : k < n) (y : GS) :
    Own slE (w.setCell ⟨g, k, none⟩ (.slice y.1 y.2.1 y.2.2)) B (.slice (some ⟨g, 0, none⟩) n c) (l.set k y) := by
  have := (h.put_at (y := y) (us := [.slice y.1 y.2.1 y.2.2]) (j := 0) hn hk (by show 0 + 1 ≤ 1; decide) fun z cs hz his => by
    have e : cs = [.slice z.1 z.2.1 z.2.2] := his
    subst e
    rfl).1
  rw [show k * slE.size + 0 = k from by rw [Nat.add_zero]; exact Nat.mul_one k] at this
  exact this
end
section
variable {P : Program} {α : Type}
theorem Sl.moved {E : El P α} {G G' K : Nat → Prop} {w w' : World} {v : Value} {l : List α} (h : Sl E w G v l) (hk : Kept K w w') (hK : ∀ z, z < w.heap.size → K z → G z) (hG : ∀ z, G' z → G z ∨ w.heap.size ≤ z) : Sl E w' G' v l :=
  ((h.mono (G' := fun z => G z ∨ w.heap.size ≤ z) (fun k hk h => h.resolve_right (by omega))).kept ⟨hk.1, fun k h1 h2 => hk.2 k h1 (fun h3 => h2 (.inl (hK k h1 h3)))⟩).mono (fun k _ h => hG k h)
theorem Own.slIn {E : El P α} {D G : Nat → Prop} {w : World} {B : Nat} {v : Value} {l : List α} (h : Own (E.avoid D) w B v l) (hv : ∀ k, v.ownBlock = some k → ¬ G k) (hG : ∀ k, k < w.heap.size → G k → D k) : Sl (E.avoid D) w G v l := by
  obtain ⟨h1, a, c, rfl, h3, h4⟩ := h.sl
  refine ⟨h1, a, c, rfl, h3, fun hn => ?_⟩
  obtain ⟨b, o, rfl, _, h6⟩ := h4 hn
  refine ⟨b, o, rfl, hv b rfl, fun i x hx => ?_⟩
  obtain ⟨cs, h7, h8⟩ := h6 i x hx
  exact ⟨cs, E.mono h7 (fun k hs hk => .inr (hk.elim (hG k hs) id)), h8⟩
end
/-- A run of S: some rows, not more than S holds of the first one's values. -/
def GoodRun (S r : List GRow) : Prop := ∃ x tl, r = x :: tl ∧ r.length ≤ multL S x.vals
/-- The last rows before j, with the same values. -/
def LastRun (S : List GRow) (j : Nat) (r : List GRow) : Prop := ∃ p x, S.take j = p ++ r ∧ S[j - 1]? = some x ∧ r ≠ [] ∧ ∀ y ∈ r, y.vals = x.vals
theorem LastRun.good {S r : List GRow} {j : Nat} (h : LastRun S j r) : GoodRun S r := by
  obtain ⟨p, x, h1, _, h3, h4⟩ := h
  obtain ⟨y, tl, rfl⟩ := List.exists_cons_of_ne_nil h3
  refine ⟨y, tl, rfl, ?_⟩
  have e : multL (y :: tl) y.vals = (y :: tl).length := by
    refine List.countP_eq_length.2 fun z hz => ?_
    have : z.vals = y.vals := (h4 z hz).trans (h4 y (List.mem_cons_self ..)).symm
    simpa using (cmpRows_zero _ _).2 this
  rw [← e]
  have hs : List.Sublist (y :: tl) S := by
    have h := List.sublist_append_right p (y :: tl)
    rw [← h1] at h
    exact h.trans (List.take_sublist _ _)
  exact List.Sublist.countP_le hs
theorem LastRun.one {S : List GRow} {j : Nat} {x : GRow} (h : S[j]? = some x) : LastRun S (j + 1) ([] ++ [x]) := ⟨S.take j, x, take_get h, h, by simp, fun y hy => by simp at hy; rw [hy]⟩
theorem LastRun.more {S r : List GRow} {j : Nat} {x y : GRow} (h : LastRun S j r) (hx : S[j]? = some x) (hy : S[j - 1]? = some y) (hq : cmpRows y.vals x.vals = 0) : LastRun S (j + 1) (r ++ [x]) := by
  obtain ⟨p, z, h1, h2, h3, h4⟩ := h
  rw [hy] at h2
  cases h2
  have e := (cmpRows_zero _ _).1 hq
  refine ⟨p, x, by rw [take_get hx, h1, List.append_assoc], hx, by simp, fun u hu => ?_⟩
  rcases List.mem_append.1 hu with hu | hu
  · rw [h4 u hu, e]
  · simp at hu
    rw [hu]
theorem LastRun.len {S r : List GRow} {j : Nat} (h : LastRun S j r) : r.length ≤ S.length := by
  obtain ⟨p, x, h1, _⟩ := h
  have := congrArg List.length h1
  rw [List.length_append, List.length_take] at this
  omega
/-- These slices read as runs of S; they lie outside of G, their rows' data outside of D. -/
def OldR (w : World) (D G : Nat → Prop) (S : List GRow) (vs : List GS) : Prop := ∀ t ∈ vs, ∃ r, GoodRun S r ∧ Sl (rowE.avoid D) w G (.slice t.1 t.2.1 t.2.2) r
theorem OldR.moved {w w' : World} {D G G' K : Nat → Prop} {S : List GRow} {vs : List GS} (h : OldR w D G S vs) (hk : Kept K w w') (hK : ∀ z, z < w.heap.size → K z → G z) (hG : ∀ z, G' z → G z ∨ w.heap.size ≤ z) : OldR w' D G' S vs := fun t ht => by
  obtain ⟨r, h1, h2⟩ := h t ht
  exact ⟨r, h1, h2.moved hk hK hG⟩
/-- Which blocks the row of runs and the last run hold. -/
def twoB (o lv : Value) : Nat → Prop := fun z => o.ownBlock = some z ∨ lv.ownBlock = some z
/-- The runs of the first j rows: the last one is a row of the call's own. -/
def BR (S : List GRow) (D : Nat → Prop) (j : Nat) (w : World) (B : Nat) (o : Value) (vs : List GS) : Prop :=
  (j = 0 ∧ vs = []) ∨ ∃ vs0 ra rc rows, vs = vs0 ++ [(ra, rows.length, rc)] ∧ Own (rowE.avoid D) w B (.slice ra rows.length rc) rows ∧ Apart o (.slice ra rows.length rc) ∧ OldR w D (twoB o (.slice ra rows.length rc)) S vs0 ∧ LastRun S j rows
theorem BR.below {S : List GRow} {D : Nat → Prop} {j B : Nat} {w w' : World} {o : Value} {vs : List GS} (h : BR S D j w B o vs) (hb : Below w.heap.size w w') : BR S D j w' B o vs := by
  rcases h with h | ⟨vs0, ra, rc, rows, h1, h2, h3, h4, h5⟩
  · exact .inl h
  · exact .inr ⟨vs0, ra, rc, rows, h1, h2.below hb, h3, fun t ht => by
      obtain ⟨r, k1, k2⟩ := h4 t ht
      exact ⟨r, k1, k2.below hb⟩, h5⟩
/-- All runs, the last one among them. -/
theorem BR.all {S : List GRow} {D : Nat → Prop} {j B : Nat} {w : World} {o : Value} {vs : List GS} (h : BR S D j w B o vs) (hD : ∀ k, B ≤ k → D k) (ho : ∀ k, o.ownBlock = some k → B ≤ k) : OldR w D (fun z => o.ownBlock = some z) S vs := by
  rcases h with ⟨_, rfl⟩ | ⟨vs0, ra, rc, rows, rfl, h2, h3, h4, h5⟩
  · intro t ht; cases ht
  · intro t ht
    rcases List.mem_append.1 ht with ht | ht
    · obtain ⟨r, k1, k2⟩ := h4 t ht
      exact ⟨r, k1, k2.mono fun k _ hk => .inl hk⟩
    · simp at ht
      subst ht
      exact ⟨rows, h5.good, h2.slIn (fun k hk e => h3 k e hk) (fun k _ hk => hD k (ho k hk))⟩
/-- Whether a new run begins. -/
def brQ (S : List GRow) (j : Nat) (xv : List GVal) : Bool := match j with
  | 0 => true
  | j0 + 1 => match S[j0]? with
    | some y => cmpRows y.vals xv != 0
    | none => true
set_option maxHeartbeats 16000000 in
set_option maxRecDepth 100000 in
theorem bagRuns_any (v : Value) (S : List GRow) (w : World) (hv : Sl rowE w free v S) (hl : S.length ≤ 1000) :
    Calls Tryz.prog 107 #[v] w fun e w' => ∃ a c vs, e = .returned (.slice a (vs : List GS).length c) ∧ Own slE w' w.heap.size (.slice a vs.length c) vs ∧ vs.length ≤ 1000 ∧ (∀ t ∈ vs, ∃ r, GoodRun S r ∧ Sl rowE w' free (.slice t.1 t.2.1 t.2.2) r) ∧ Below w.heap.size w w' := by
  obtain ⟨a, c, rfl⟩ := hv.shape
  have hS1 := (hv.old (Nat.le_refl w.heap.size)).toD
  obtain ⟨D, hD⟩ : ∃ D : Nat → Prop, D = fun k => w.heap.size ≤ k := ⟨_, rfl⟩
  rw [← hD] at hS1
  have HDD : Hid (∀ k, D k ↔ w.heap.size ≤ k) := Lib.hid (fun k => by rw [hD])
  obtain ⟨n, hn⟩ : ∃ n, n = S.length := ⟨_, rfl⟩
  have HN := Lib.hid hn
  rw [← hn] at hS1 hl ⊢
  have HS1 := Lib.hid hS1
  clear hv hn hS1 hD
  go_enter Tryz.func107, Tryz.ntmps107
  go_wp2_with fail
  go_loopw [8, 3] (fun i o wr => ∃ (j : Nat) (vs : List GS), j ≤ n ∧ i = .int .i64 j ∧ vs.length ≤ j ∧ Own slE wr w.heap.size o vs ∧ Hid (BR S D j wr w.heap.size o vs) ∧ Hid (Below w.heap.size w wr)) (fun i _ _ => n - (RowKit.intOf i).toNat)
  case atStart => exact ⟨0, [], Nat.zero_le _, rfl, Nat.le_refl _, Own.nil _ _ _, Lib.hid (.inl ⟨rfl, rfl⟩), Lib.hid (.refl _ _)⟩
  case round =>
    obtain ⟨j, vs, hj, rfl, hvl, hO, HBR, HB⟩ := hrel
    obtain ⟨wo, rfl⟩ : ∃ wo : World, wo = wr := ⟨_, rfl⟩
    by_cases hlt : j < n
    · obtain ⟨x, hx⟩ := lget_some S j (by rw [← HN.out]; exact hlt)
      obtain ⟨b, o, a1, n1, e1, m1, rfl, hvv, hll, p0, p1⟩ := rowsD_at (HS1.out.below HB.out) hx
      obtain ⟨oa, oc, rfl⟩ := hO.shape
      obtain ⟨ml, hml⟩ : ∃ m, m = vs.length := ⟨_, rfl⟩
      have HML := Lib.hid hml
      rw [← hml] at hO HBR hvl ⊢
      have HX := Lib.hid hx
      obtain ⟨xv, xl⟩ := x
      dsimp only at hvv hll p0 p1
      obtain ⟨wA, hwA⟩ : ∃ wA, wA = wo.alloc (.cells #[.slice a1 xv.length n1, .slice e1 xl.length m1] 39) := ⟨_, rfl⟩
      have hbA : Below wo.heap.size wo wA := by rw [hwA]; exact below_alloc _ _
      have hgA : wA.heap[wo.heap.size]? = some (.cells #[.slice a1 xv.length n1, .slice e1 xl.length m1] 39 (0, 0)) := by rw [hwA]; exact World.alloc_heap_new _ _
      have HVV : Hid (Sl valE wA D (.slice a1 xv.length n1) xv) := Lib.hid ((hvv.below hbA).mono fun k _ hk => .inr hk)
      have HLL : Hid (Sl intE wA D (.slice e1 xl.length m1) xl) := Lib.hid ((hll.below hbA).mono fun k _ hk => .inr hk)
      have HOA := Lib.hid (hO.below hbA)
      have HRA := Lib.hid (HBR.out.below hbA)
      have HBA := Lib.hid (below_keep HB.out hbA)
      have HVO := Lib.hid (fun k (e : (Value.slice oa ml oc).ownBlock = some k) => hO.lt k e)
      have HLV : Hid (∀ vs0 ra rc (rows : List GRow), Own (rowE.avoid D) wA w.heap.size (.slice ra rows.length rc) rows → (∀ k, (Value.slice ra rows.length rc).ownBlock = some k → k < wo.heap.size) → vs = vs0 ++ [(ra, rows.length, rc)] → (Value.slice ra rows.length rc).ownBlock ≠ some wo.heap.size) := Lib.hid (fun _ ra rc rows _ h _ e => by have := h _ e; omega)
      have HRL : Hid (∀ vs0 ra rc (rows : List GRow), vs = vs0 ++ [(ra, rows.length, rc)] → (Value.slice ra rows.length rc).ownBlock ≠ some wo.heap.size) := Lib.hid (fun vs0 ra rc rows e h => by
        rcases HBR.out with ⟨_, h0⟩ | ⟨vs1, ra1, rc1, rows1, h1, h2, _⟩
        · rw [h0] at e
          have := congrArg List.length e
          simp at this
        · rw [h1] at e
          have e2 := (snoc_inj e).2
          have e3 : ra1 = ra := congrArg (fun t => t.1) e2
          have := (h2.lt wo.heap.size (by rw [e3]; cases ra with
            | none => cases h
            | some ad => exact h)).2
          omega)
      have HWA := Lib.hid hwA
      have HGA := Lib.hid hgA
      generalize hnx : xv.length = nx at p0 HVV HGA HWA ⊢
      generalize hny : xl.length = ny at p1 HLL HGA HWA ⊢
      have HZA : Hid (wA.heap.size = wo.heap.size + 1) := Lib.hid (by rw [HWA.out, World.size_alloc])
      clear hx hvv hll hwA hbA hgA hO HBR hnx hny hml HLV
      go_upto_region 5 with fail
      rw [← HWA.out]
      clear p0 p1
      go_cut [26] (fun s wx => s = .bool (brQ S j xv) ∧ Hid (Below wA.heap.size wA wx))
      case first =>
        rcases (by cases j with
          | zero => exact .inl rfl
          | succ j0 => exact .inr ⟨j0, rfl⟩ : j = 0 ∨ ∃ j0, j = j0 + 1) with h0 | ⟨j0, h0⟩
        · subst h0
          have hbb : Below wA.heap.size wA wA := .refl _ _
          refine wp_region_held_drew (S := (fun W => Below wA.heap.size wA W)) (by kernel_rfl) ?_ (fun hHeld => ?_)
          · (try dsimp only)
            (first | with_reducible assumption | with_reducible exact Below.drew (by assumption))
          refine take_y (i := 0) (d := some 13) (v := ?_) rfl rfl (by kernel_rfl) (by kernel_rfl) (by kernel_rfl) (fun _ _ _ h => h) (by assumption) ?_ ?_
          rotate_left
          · intro oi ho
            simp only [List.getElem?_toArray, List.getElem?_cons_zero, Option.some.injEq] at ho
            subst ho
            intro w hSw
            (try dsimp only at hSw)
            go_simp
            (try with_reducible rfl)
          (try simp only [Act.put, List.setIfInBounds_toArray, List.set_cons_zero, List.set_cons_succ])
          refine take_y (i := 1) (d := some 14) (v := ?_) rfl rfl (by kernel_rfl) (by kernel_rfl) (by kernel_rfl) (fun _ _ _ h => h) (by assumption) ?_ ?_
          rotate_left
          · intro oi ho
            simp only [List.getElem?_toArray, List.getElem?_cons_succ, List.getElem?_cons_zero, Option.some.injEq] at ho
            subst ho
            intro w hSw
            (try dsimp only at hSw)
            go_simp
            (try with_reducible rfl)
          (try simp only [Act.put, List.setIfInBounds_toArray, List.set_cons_zero, List.set_cons_succ])
          refine take_y (i := 2) (d := some 15) (v := ?_) rfl rfl (by kernel_rfl) (by kernel_rfl) (by kernel_rfl) (fun _ _ _ h => h) (by assumption) ?_ ?_
          rotate_left
          · intro oi ho
            simp only [List.getElem?_toArray, List.getElem?_cons_succ, List.getElem?_cons_zero, Option.some.injEq] at ho
            subst ho
            intro w hSw
            (try dsimp only at hSw)
            go_simp
            (try with_reducible rfl)
          (try simp only [Act.put, List.setIfInBounds_toArray, List.set_cons_zero, List.set_cons_succ])
          refine take_n (i := 3) (d := some 16) rfl rfl (by kernel_rfl) (by kernel_rfl) (by kernel_rfl) (fun _ _ _ h => h) (by assumption) ?_
          (try simp only [Act.put, List.setIfInBounds_toArray, List.set_cons_zero, List.set_cons_succ])
          refine take_n (i := 4) (d := some 17) rfl rfl (by kernel_rfl) (by kernel_rfl) (by kernel_rfl) (fun _ _ _ h => h) (by assumption) ?_
          (try simp only [Act.put, List.setIfInBounds_toArray, List.set_cons_zero, List.set_cons_succ])
          refine take_n (i := 5) (d := some 18) rfl rfl (by kernel_rfl) (by kernel_rfl) (by kernel_rfl) (fun _ _ _ h => h) (by assumption) ?_
          (try simp only [Act.put, List.setIfInBounds_toArray, List.set_cons_zero, List.set_cons_succ])
          refine take_n (i := 6) (d := some 19) rfl rfl (by kernel_rfl) (by kernel_rfl) (by kernel_rfl) (fun _ _ _ h => h) (by assumption) ?_
          (try simp only [Act.put, List.setIfInBounds_toArray, List.set_cons_zero, List.set_cons_succ])
          refine take_n (i := 7) (d := some 20) rfl rfl (by kernel_rfl) (by kernel_rfl) (by kernel_rfl) (fun _ _ _ h => h) (by assumption) ?_
          (try simp only [Act.put, List.setIfInBounds_toArray, List.set_cons_zero, List.set_cons_succ])
          refine take_n (i := 8) (d := some 21) rfl rfl (by kernel_rfl) (by kernel_rfl) (by kernel_rfl) (fun _ _ _ h => h) (by assumption) ?_
          (try simp only [Act.put, List.setIfInBounds_toArray, List.set_cons_zero, List.set_cons_succ])
          refine take_n (i := 9) (d := some 22) rfl rfl (by kernel_rfl) (by kernel_rfl) (by kernel_rfl) (fun _ _ _ h => h) (by assumption) ?_
          (try simp only [Act.put, List.setIfInBounds_toArray, List.set_cons_zero, List.set_cons_succ])
          refine take_n (i := 10) (d := some 23) rfl rfl (by kernel_rfl) (by kernel_rfl) (by kernel_rfl) (fun _ _ _ h => h) (by assumption) ?_
          (try simp only [Act.put, List.setIfInBounds_toArray, List.set_cons_zero, List.set_cons_succ])
          refine take_n (i := 11) (d := some 24) rfl rfl (by kernel_rfl) (by kernel_rfl) (by kernel_rfl) (fun _ _ _ h => h) (by assumption) ?_
          (try simp only [Act.put, List.setIfInBounds_toArray, List.set_cons_zero, List.set_cons_succ])
          refine take_n (i := 12) (d := some 25) rfl rfl (by kernel_rfl) (by kernel_rfl) (by kernel_rfl) (fun _ _ _ h => h) (by assumption) ?_
          (try simp only [Act.put, List.setIfInBounds_toArray, List.set_cons_zero, List.set_cons_succ])
          refine take_y (i := 13) (d := some 26) (v := ?_) rfl rfl (by kernel_rfl) (by kernel_rfl) (by kernel_rfl) (fun _ _ _ h => h) (by assumption) ?_ ?_
          rotate_left
          · intro oi ho
            simp only [List.getElem?_toArray, List.getElem?_cons_succ, List.getElem?_cons_zero, Option.some.injEq] at ho
            subst ho
            intro w hSw
            (try dsimp only at hSw)
            go_simp
            (try with_reducible rfl)
          (try simp only [Act.put, List.setIfInBounds_toArray, List.set_cons_zero, List.set_cons_succ])
          refine wpAnyH_done (by kernel_rfl) ?_ _
          go_wp2_with fail
          go_meet
          exact ⟨rfl, Lib.hid (Below.refl _ _).drew⟩
        · have hj1 : (j : Int) - 1 = (j0 : Int) := by omega
          have hjn : ((j : Int) == 0) = false := by rw [beq_eq_false_iff_ne]; omega
          have hj0 : j0 < n := by omega
          have hj2 : (j0 : Int) < (n : Int) := by omega
          have hj3 : (0 : Int) ≤ (j0 : Int) := by omega
          have hjw : IntKind.i64.wrap (j0 : Int) = (j0 : Int) := IntWalk.i64_in _ (by omega)
          obtain ⟨z, hz⟩ := lget_some S j0 (by rw [← HN.out]; exact hj0)
          obtain ⟨b', o', a2, n2, e2, m2, hbo, hv2, hl2, q0, q1⟩ := rowsD_at (HS1.out.below HBA.out) hz
          cases hbo
          have HQ : Hid (brQ S j xv = (cmpRows z.vals xv != 0)) := Lib.hid (by rw [h0]; unfold brQ; dsimp only; rw [hz])
          have HCM2 := Lib.hid (valRows_any _ (.slice a1 nx n1) z.vals xv wA.drew (hv2.below (Below.refl _ _).drew).free (HVV.out.below (Below.refl _ _).drew).free)
          obtain ⟨d0, d1, _, _⟩ := box_two HGA.out
          generalize z.vals.length = nz at q0 HCM2 ⊢
          generalize cmpRows z.vals xv = cz at HQ HCM2
          have hbb : Below wA.heap.size wA wA := .refl _ _
          clear hz hv2 hl2 q1 d1 h0
          go_region_held3 (fun W => Below wA.heap.size wA W ∧ W.cell? ⟨b, o + j0 * 2, none⟩ = some (.slice a2 nz n2) ∧ W.cell? ⟨wo.heap.size, 0, none⟩ = some (.slice a1 nx n1))
            ((go_split_ands; refine (fun hBB => ⟨hBB, cell_keep hBB q0, cell_keep hBB d0⟩) ?_; first | with_reducible assumption | with_reducible exact Below.drew (by assumption)))
            (first | (go_at_call 62; (with_reducible refine HCM2.out.mono ?_); rintro e' wK ⟨rfl, hbK⟩; have hBK : Below wA.heap.size wA wK := (Below.refl wA.heap.size wA).drew.trans hbK))
          all_goals (go_wp2_with fail; go_meet; exact ⟨by rw [HQ.out], Lib.hid hBK⟩)
      case rest =>
        obtain ⟨hs26, HBX⟩ := hcut
        obtain ⟨q, hq⟩ : ∃ q, q = brQ S j xv := ⟨_, rfl⟩
        rw [← hq] at hs26
        subst hs26
        have HQ := Lib.hid hq
        have HOC := Lib.hid (HOA.out.below HBX.out)
        have HRC := Lib.hid (HRA.out.below HBX.out)
        have HVC := Lib.hid (HVV.out.below HBX.out)
        have HLC := Lib.hid (HLL.out.below HBX.out)
        have HGC := Lib.hid (box_kept HGA.out HBX.out)
        have HBC : Hid (Below w.heap.size wA wc) := Lib.hid (HBX.out.mono HBA.out.size)
        have hzw : w.heap.size ≤ wc.heap.size := Nat.le_trans HBA.out.size HBX.out.size
        have hzc : wo.heap.size < wc.heap.size := by have := HZA.out; have := HBX.out.size; omega
        clear hq HOA HRA HGA
        go_upto_if 26 with fail
        go_cut [3] (fun o wx => ∃ (vs0 : List GS) (rows : List GRow) (gb cap : Nat) (ra : Option Addr) (rc : Nat), o = .slice (some ⟨gb, 0, none⟩) (vs0.length + 1) cap ∧ vs0.length ≤ j ∧ Hid (Own slE wx w.heap.size (.slice (some ⟨gb, 0, none⟩) (vs0.length + 1) cap) (vs0 ++ [(ra, rows.length, rc)])) ∧ Hid (Own (rowE.avoid D) wx w.heap.size (.slice ra rows.length rc) rows) ∧ Hid (Apart (.slice (some ⟨gb, 0, none⟩) (vs0.length + 1) cap) (.slice ra rows.length rc)) ∧ Hid (OldR wx D (twoB (.slice (some ⟨gb, 0, none⟩) (vs0.length + 1) cap) (.slice ra rows.length rc)) S vs0) ∧ Hid (LastRun S (j + 1) (rows ++ [⟨xv, xl⟩])) ∧ Hid (wx.heap[wo.heap.size]? = some (.cells #[.slice a1 nx n1, .slice e1 ny m1] 39 (0, 0))) ∧ Hid (Below w.heap.size wA wx) ∧ Hid (gb ≠ wo.heap.size) ∧ Hid ((Value.slice ra rows.length rc).ownBlock ≠ some wo.heap.size) ∧ Hid (Sl valE wx D (.slice a1 nx n1) xv ∧ Sl intE wx D (.slice e1 ny m1) xl))
        case first =>
          cases q
          · rcases HRC.out with ⟨h0, _⟩ | ⟨vs0, ra, rc, rows, h1, h2, h3, h4, h5⟩
            · subst h0
              exact Bool.noConfusion (show false = true from HQ.out)
            · subst h1
              obtain ⟨gb, cap, he⟩ := HOC.out.shape_pos (by rw [List.length_append]; simp)
              have hml : ml = vs0.length + 1 := by have := HML.out; rw [List.length_append] at this; exact this
              obtain ⟨e1', e2', e3'⟩ := Value.slice.inj he
              subst e1'
              subst hml
              have hl0 : vs0.length ≤ j := by omega
              obtain ⟨y, hy⟩ := lget_some S (j - 1) (by rw [← HN.out]; omega)
              have hcmp : cmpRows y.vals xv = 0 := by
                have := HQ.out
                obtain ⟨p, x', k1, k2, _⟩ := h5
                cases j with
                | zero => exact Bool.noConfusion (show false = true from this)
                | succ j0 =>
                  unfold brQ at this
                  dsimp only at this
                  rw [Nat.add_sub_cancel] at hy
                  rw [hy] at this
                  simpa using this.symm
              have hLR := h5.more HX.out hy hcmp
              have hb1 : gb ≠ wo.heap.size := fun e => by have := (HVO.out gb rfl).2; omega
              have hb2 := HRL.out vs0 ra rc rows rfl
              have HOC2 := Lib.hid HOC.out
              have H2 := Lib.hid h2
              have H3 := Lib.hid h3
              have H4 := Lib.hid h4
              have HLR := Lib.hid hLR
              clear h2 h3 h4 h5 hLR hy hcmp HML he e2' e3'
              go_wp2_with fail
              go_meet
              exact ⟨vs0, rows, gb, oc, ra, rc, rfl, hl0, HOC2, H2, H3, H4, HLR, HGC, HBC, Lib.hid hb1, Lib.hid hb2, Lib.hid ⟨HVC.out, HLC.out⟩⟩
          · have HALL := Lib.hid (HRC.out.all (fun k hk => (HDD.out k).2 hk) (fun k hk => (HVO.out k hk).1))
            have HELS : Hid (Els slE wc (fun k => some k = (Value.slice oa ml oc).ownBlock) [(none, 0, 0)] [.slice none 0 0]) := Lib.hid (Els.one rfl)
            have hml2 : vs.length ≤ 1000 := by have := HML.out; omega
            have hml3 : vs.length ≤ j := by have := HML.out; omega
            have HO2 : Hid (Own slE wc w.heap.size (.slice oa ml oc) vs) := HOC
            go_wp2_with (at_builtin; refine wpList_push rfl (.tmp 27) (.tmp 28) 142 rfl slE Tryz.underlying142 w.heap.size (.slice oa ml oc) vs rfl HO2.out [(none, 0, 0)] #[.slice none 0 0] HELS.out 1 1 rfl rfl (by decide) (by unfold maxLen; omega) (by show _ * 24 ≤ _; omega) hzw ?_; intro g cap w5 hP hPa)
            have hO5 := hP.own' (n := vs.length + 1) (by simp)
            have hnb : some wo.heap.size ≠ (Value.slice oa ml oc).ownBlock := fun e => by have := (HVO.out _ e.symm).2; omega
            have hKB : ∀ z, z < wc.heap.size → some z = (Value.slice oa ml oc).ownBlock → D z := fun z _ e => (HDD.out z).2 (HVO.out z e.symm).1
            have hOLD : OldR w5 D (twoB (.slice (some ⟨g, 0, none⟩) (vs.length + 1) cap) (.slice none 0 0)) S vs := HALL.out.moved hP.kept (fun z _ h => h.symm) (fun z h => by
              rcases h with h | h
              · have e : some g = some z := h
                cases e
                exact hP.place
              · cases h)
            have hVD : Sl valE w5 D (.slice a1 nx n1) xv := HVC.out.moved hP.kept hKB (fun z h => .inl h)
            have hLD : Sl intE w5 D (.slice e1 ny m1) xl := HLC.out.moved hP.kept hKB (fun z h => .inl h)
            have hB5 : Below w.heap.size wA w5 := HBC.out.trans hP.below
            have hne := hP.ne hnb hzc
            have hG5 := hP.block hnb HGC.out
            have hLR := LastRun.one HX.out
            go_meet
            exact ⟨vs, [], g, cap, none, 0, rfl, hml3, Lib.hid hO5, Lib.hid (Own.nil _ _ _), Lib.hid (apart_none _).symm, Lib.hid hOLD, Lib.hid hLR, Lib.hid hG5, Lib.hid hB5, Lib.hid hne.symm, Lib.hid (fun e => by cases e), Lib.hid ⟨hVD, hLD⟩⟩
        case rest =>
          obtain ⟨vs0, rows, gb, cap, ra, rc, rfl, hl0, HOM, HRW, HAP, HOL, HLR, HGM, HBM, HGB, HRB, HDT⟩ := hcut
          obtain ⟨m0, hm0⟩ : ∃ m, m = vs0.length := ⟨_, rfl⟩
          have HM0 := Lib.hid hm0
          rw [← hm0] at hl0 HOM HAP HOL ⊢
          obtain ⟨nn, hnn2⟩ : ∃ m, m = rows.length := ⟨_, rfl⟩
          have HNN := Lib.hid hnn2
          rw [← hnn2] at HOM HRW HAP HRB HOL
          have hnn : nn ≤ 1000 := by
            have := HLR.out.len
            rw [List.length_append, List.length_singleton] at this
            have := HN.out
            omega
          obtain ⟨M, hM⟩ : ∃ M, M = m0 + 1 := ⟨_, rfl⟩
          have HMM := Lib.hid hM
          have hcM : wc.cell? ⟨gb, m0, none⟩ = some (.slice ra nn rc) := sl_at HOM.out (x := (ra, nn, rc)) (by rw [HM0.out, List.getElem?_append_right (Nat.le_refl _), Nat.sub_self]; rfl)
          have HNC : Hid ((Value.slice ra nn rc).ownBlock ≠ some gb) := Lib.hid (HAP.out gb rfl)
          have hfe : wc.frozen? ⟨gb, m0, none⟩ = false := HOM.out.frozen (by rw [List.length_append, HM0.out]; rfl) _
          have HKB : Hid (∀ W, Kept (fun m => some m = (Value.slice ra nn rc).ownBlock ∨ m = gb) wc W → W.cell? ⟨wo.heap.size, 0, none⟩ = some (.slice a1 nx n1) ∧ W.cell? ⟨wo.heap.size, 1, none⟩ = some (.slice e1 ny m1)) := Lib.hid (fun W hW => by
            obtain ⟨e0, e1', _, _⟩ := box_two HGM.out
            have hbx : ¬ (some wo.heap.size = (Value.slice ra nn rc).ownBlock ∨ wo.heap.size = gb) := fun e => e.elim (fun e => HRB.out e.symm) (fun e => HGB.out e.symm)
            exact ⟨hW.cell hbx e0, hW.cell hbx e1'⟩)
          obtain ⟨d0, d1⟩ := HKB.out wc (Reg.refl hcM hfe).kept
          have hbb : Reg (Value.slice ra nn rc).ownBlock gb m0 wc wc := Reg.refl hcM hfe
          have f9 := cell_alloc (o := .cells #[.slice a1 nx n1, .slice e1 ny m1] 39) hcM
          have hzw2 : w.heap.size ≤ wc.heap.size := Nat.le_trans HBA.out.size HBM.out.size
          have hELS : Els (rowE.avoid D) wc.drew (fun k => some k = (Value.slice ra nn rc).ownBlock) [⟨xv, xl⟩] [.slice a1 nx n1, .slice e1 ny m1] := Els.one ⟨_, _, rfl, (HDT.out.1.below (Below.refl _ _).drew).mono (fun k _ hk => hk.elim (fun hk => (HDD.out k).2 (HRW.out.lt k hk.symm).1) id), (HDT.out.2.below (Below.refl _ _).drew).mono (fun k _ hk => hk.elim (fun hk => (HDD.out k).2 (HRW.out.lt k hk.symm).1) id)⟩
          have HELS := Lib.hid hELS
          rw [← hM] at HOM HAP HOL ⊢
          have hm1 : (M : Int) - 1 = (m0 : Int) := by omega
          have hm2 : m0 < M := by omega
          have hm3 : (m0 : Int) < (M : Int) := by omega
          have hm4 : (0 : Int) ≤ (m0 : Int) := by omega
          have hmw : IntKind.i64.wrap (m0 : Int) = (m0 : Int) := IntWalk.i64_in _ (by omega)
          clear hm0 hnn2 hELS hM
          go_upto_region 7 with fail
          refine wp_region_held_drew (S := (fun W => Reg (Value.slice ra nn rc).ownBlock gb m0 wc W ∧ W.cell? ⟨wo.heap.size, 0, none⟩ = some (.slice a1 nx n1) ∧ W.cell? ⟨wo.heap.size, 1, none⟩ = some (.slice e1 ny m1))) (by kernel_rfl) ?_ (fun hHeld => ?_)
          · (try dsimp only)
            (go_split_ands; refine (fun hR => ⟨hR, HKB.out _ hR.kept⟩) ?_; first | with_reducible assumption | with_reducible exact reg_drew (by assumption) | with_reducible exact reg_alloc (by assumption) | with_reducible exact reg_drew (reg_alloc (by assumption)) | with_reducible exact reg_alloc (reg_drew (by assumption)) | with_reducible exact reg_set (by assumption))
          refine take_y (i := 0) (d := some 30) (v := ?_) rfl rfl (by kernel_rfl) (by kernel_rfl) (by kernel_rfl) (fun _ _ _ h => h) (by assumption) ?_ ?_
          rotate_left
          · intro oi ho
            simp only [List.getElem?_toArray, List.getElem?_cons_zero, Option.some.injEq] at ho
            subst ho
            intro w hSw
            (try dsimp only at hSw)
            go_simp
            (try with_reducible rfl)
          (try simp only [Act.put, List.setIfInBounds_toArray, List.set_cons_zero, List.set_cons_succ])
          refine take_y (i := 1) (d := some 31) (v := ?_) rfl rfl (by kernel_rfl) (by kernel_rfl) (by kernel_rfl) (fun _ _ _ h => h) (by assumption) ?_ ?_
          rotate_left
          · intro oi ho
            simp only [List.getElem?_toArray, List.getElem?_cons_succ, List.getElem?_cons_zero, Option.some.injEq] at ho
            subst ho
            intro w hSw
            (try dsimp only at hSw)
            go_simp
            (try with_reducible rfl)
          (try simp only [Act.put, List.setIfInBounds_toArray, List.set_cons_zero, List.set_cons_succ])
          refine take_y (i := 2) (d := some 32) (v := ?_) rfl rfl (by kernel_rfl) (by kernel_rfl) (by kernel_rfl) (fun _ _ _ h => h) (by assumption) ?_ ?_
          rotate_left
          · intro oi ho
            simp only [List.getElem?_toArray, List.getElem?_cons_succ, List.getElem?_cons_zero, Option.some.injEq] at ho
            subst ho
            intro w hSw
            (try dsimp only at hSw)
            go_simp
            (try with_reducible rfl)
          (try simp only [Act.put, List.setIfInBounds_toArray, List.set_cons_zero, List.set_cons_succ])
          refine take_y (i := 3) (d := some 33) (v := ?_) rfl rfl (by kernel_rfl) (by kernel_rfl) (by kernel_rfl) (fun _ _ _ h => h) (by assumption) ?_ ?_
          rotate_left
          · intro oi ho
            simp only [List.getElem?_toArray, List.getElem?_cons_succ, List.getElem?_cons_zero, Option.some.injEq] at ho
            subst ho
            intro w hSw
            (try dsimp only at hSw)
            go_simp
            (try with_reducible rfl)
          (try simp only [Act.put, List.setIfInBounds_toArray, List.set_cons_zero, List.set_cons_succ])
          refine take_y (i := 4) (d := some 34) (v := ?_) rfl rfl (by kernel_rfl) (by kernel_rfl) (by kernel_rfl) (fun _ _ _ h => h) (by assumption) ?_ ?_
          rotate_left
          · intro oi ho
            simp only [List.getElem?_toArray, List.getElem?_cons_succ, List.getElem?_cons_zero, Option.some.injEq] at ho
            subst ho
            intro w hSw
            (try dsimp only at hSw)
            go_simp
            (try with_reducible rfl)
          (try simp only [Act.put, List.setIfInBounds_toArray, List.set_cons_zero, List.set_cons_succ])
          refine take_y (i := 5) (d := some 35) (v := ?_) rfl rfl (by kernel_rfl) (by kernel_rfl) (by kernel_rfl) (fun _ _ _ h => h) (by assumption) ?_ ?_
          rotate_left
          · intro oi ho
            simp only [List.getElem?_toArray, List.getElem?_cons_succ, List.getElem?_cons_zero, Option.some.injEq] at ho
            subst ho
            intro w hSw
            (try dsimp only at hSw)
            go_simp
            (try with_reducible rfl)
          (try simp only [Act.put, List.setIfInBounds_toArray, List.set_cons_zero, List.set_cons_succ])
          refine take_y (i := 6) (d := some 36) (v := ?_) rfl rfl (by kernel_rfl) (by kernel_rfl) (by kernel_rfl) (fun _ _ _ h => h) (by assumption) ?_ ?_
          rotate_left
          · intro oi ho
            simp only [List.getElem?_toArray, List.getElem?_cons_succ, List.getElem?_cons_zero, Option.some.injEq] at ho
            subst ho
            intro w hSw
            (try dsimp only at hSw)
            go_simp
            (try with_reducible rfl)
          (try simp only [Act.put, List.setIfInBounds_toArray, List.set_cons_zero, List.set_cons_succ])
          refine take_y (i := 7) (d := some 37) (v := ?_) rfl rfl (by kernel_rfl) (by kernel_rfl) (by kernel_rfl) (fun _ _ _ h => h) (by assumption) ?_ ?_
          rotate_left
          · intro oi ho
            simp only [List.getElem?_toArray, List.getElem?_cons_succ, List.getElem?_cons_zero, Option.some.injEq] at ho
            subst ho
            intro w hSw
            (try dsimp only at hSw)
            go_simp
            (try with_reducible rfl)
          (try simp only [Act.put, List.setIfInBounds_toArray, List.set_cons_zero, List.set_cons_succ])
          refine take_y (i := 8) (d := some 38) (v := ?_) rfl rfl (by kernel_rfl) (by kernel_rfl) (by kernel_rfl) (fun _ _ _ h => h) (by assumption) ?_ ?_
          rotate_left
          · intro oi ho
            simp only [List.getElem?_toArray, List.getElem?_cons_succ, List.getElem?_cons_zero, Option.some.injEq] at ho
            subst ho
            intro w hSw
            (try dsimp only at hSw)
            go_simp
            (try with_reducible rfl)
          (try simp only [Act.put, List.setIfInBounds_toArray, List.set_cons_zero, List.set_cons_succ])
          refine take_y (i := 10) (d := some 40) (v := ?_) rfl rfl (by kernel_rfl) (by kernel_rfl) (by kernel_rfl) (fun _ _ _ h => h) (by assumption) ?_ ?_
          rotate_left
          · intro oi ho
            simp only [List.getElem?_toArray, List.getElem?_cons_succ, List.getElem?_cons_zero, Option.some.injEq] at ho
            subst ho
            intro w hSw
            (try dsimp only at hSw)
            go_simp
            (try with_reducible rfl)
          (try simp only [Act.put, List.setIfInBounds_toArray, List.set_cons_zero, List.set_cons_succ])
          refine wpAnyH_ready (rs := [9, 11]) (by kernel_rfl) (by simp) ?_
          refine AllReadyH.cons rfl (fun K hK => ?_) (AllReadyH.cons rfl (fun K hK => ?_) AllReadyH.nil)
          · go_simp
            refine hK.out _ _ ?_ (fun hHeld => ?_)
            · (try dsimp only)
              (go_split_ands; refine (fun hR => ⟨hR, HKB.out _ hR.kept⟩) ?_; first | with_reducible assumption | with_reducible exact reg_drew (by assumption) | with_reducible exact reg_alloc (by assumption) | with_reducible exact reg_drew (reg_alloc (by assumption)) | with_reducible exact reg_alloc (reg_drew (by assumption)) | with_reducible exact reg_set (by assumption))
            clear hK K
            (try simp only [Act.put, List.setIfInBounds_toArray, List.set_cons_zero, List.set_cons_succ])
            refine wpAnyH_ready (rs := [11]) (by kernel_rfl) (by simp) ?_
            refine AllReadyH.cons rfl (fun K hK => ?_) AllReadyH.nil
            go_simp
            refine hK.out _ _ ?_ (fun hHeld => ?_)
            · (try dsimp only)
              (go_split_ands; refine (fun hR => ⟨hR, HKB.out _ hR.kept⟩) ?_; first | with_reducible assumption | with_reducible exact reg_drew (by assumption) | with_reducible exact reg_alloc (by assumption) | with_reducible exact reg_drew (reg_alloc (by assumption)) | with_reducible exact reg_alloc (reg_drew (by assumption)) | with_reducible exact reg_set (by assumption))
            clear hK K
            (try simp only [Act.put, List.setIfInBounds_toArray, List.set_cons_zero, List.set_cons_succ])
            refine wpAnyH_ready (rs := [12]) (by kernel_rfl) (by simp) ?_
            refine AllReadyH.cons rfl (fun K hK => ?_) AllReadyH.nil
            (refine step_push rfl (.tmp 39) (.tmp 41) 35 rfl (rowE.avoid D) Tryz.underlying35 w.heap.size (.slice ra nn rc) rows rfl HRW.out.drew [⟨xv, xl⟩] #[.slice a1 nx n1, .slice e1 ny m1] HELS.out 1 1 rfl rfl (by decide) (by have := HNN.out; unfold maxLen; omega) (by have := HNN.out; show _ * 48 ≤ _; omega) hzw2 ?_; intro g2 cap2 w7 hP hPa; have f12 := reg_push (reg_drew hbb) HNC.out hP; have f10 := f12.cell; have f11 := f12.frz)
            refine hK.out _ _ ?_ (fun hHeld => ?_)
            · (try dsimp only)
              (go_split_ands; refine (fun hR => ⟨hR, HKB.out _ hR.kept⟩) ?_; first | with_reducible assumption | with_reducible exact reg_drew (by assumption) | with_reducible exact reg_alloc (by assumption) | with_reducible exact reg_drew (reg_alloc (by assumption)) | with_reducible exact reg_alloc (reg_drew (by assumption)) | with_reducible exact reg_set (by assumption))
            clear hK K
            (try simp only [Act.put, List.setIfInBounds_toArray])
            refine take_y (i := 13) (d := some 43) (v := ?_) rfl rfl (by kernel_rfl) (by kernel_rfl) (by kernel_rfl) (fun _ _ _ h => h) (by assumption) ?_ ?_
            rotate_left
            · intro oi ho
              simp only [List.getElem?_toArray, List.getElem?_cons_succ, List.getElem?_cons_zero, Option.some.injEq] at ho
              subst ho
              intro w hSw
              (try dsimp only at hSw)
              go_simp
              (try with_reducible rfl)
            (try simp only [Act.put])
            refine wpAnyH_ready (rs := [14]) (by kernel_rfl) (by simp) ?_
            refine AllReadyH.cons rfl (fun K hK => ?_) AllReadyH.nil
            go_simp
            refine hK.out _ _ ?_ (fun hHeld => ?_)
            · (try dsimp only)
              (go_split_ands; refine (fun hR => ⟨hR, HKB.out _ hR.kept⟩) ?_; first | with_reducible assumption | with_reducible exact reg_drew (by assumption) | with_reducible exact reg_alloc (by assumption) | with_reducible exact reg_drew (reg_alloc (by assumption)) | with_reducible exact reg_alloc (reg_drew (by assumption)) | with_reducible exact reg_set (by assumption))
            clear hK K
            (try simp only [Act.put, List.setIfInBounds_toArray, List.set_cons_zero, List.set_cons_succ])
            refine wpAnyH_done (by kernel_rfl) ?_ _
            have hK7 : Kept (fun m => some m = (Value.slice ra nn rc).ownBlock) wc w7 := hP.kept
            have hO7 : Own slE w7 w.heap.size (.slice (some ⟨gb, 0, none⟩) M cap) (vs0 ++ [(ra, nn, rc)]) := HOM.out.kept_flat slE_flat hK7 (fun k hk h => HNC.out (by cases hk; exact h.symm))
            have hO8 := sl_put hO7 (by rw [List.length_append, HMM.out, HM0.out]; rfl) hm2 (some ⟨g2, 0, none⟩, nn + 1, cap2)
            rw [HM0.out, set_last, ← HM0.out] at hO8
            have hne : gb ≠ g2 := hP.ne (fun e => HNC.out e.symm) (by have := (HOM.out.lt gb rfl).2; exact this)
            have hR7 := hP.own' (n := nn + 1) (by rw [List.length_append, ← HNN.out]; rfl)
            have hS8 : Kept (fun m => m = gb) w7 (w7.setCell ⟨gb, m0, none⟩ (.slice (some ⟨g2, 0, none⟩) (nn + 1) cap2)) := kept_set (G := fun m => m = gb) (q := ⟨gb, m0, none⟩) rfl
            have hgw : w.heap.size ≤ gb := (HOM.out.lt gb rfl).1
            have hR8 : Own (rowE.avoid D) (w7.setCell ⟨gb, m0, none⟩ (.slice (some ⟨g2, 0, none⟩) (nn + 1) cap2)) w.heap.size (.slice (some ⟨g2, 0, none⟩) (nn + 1) cap2) (rows ++ [⟨xv, xl⟩]) := hR7.move hS8 (fun k _ h => by rw [h]; exact (HDD.out gb).2 hgw) (fun k hk e => by
              have h1 : some g2 = some k := hk
              cases h1
              exact hne e.symm) (fun k _ h => .inl h)
            have hL8 : OldR (w7.setCell ⟨gb, m0, none⟩ (.slice (some ⟨g2, 0, none⟩) (nn + 1) cap2)) D (twoB (.slice (some ⟨gb, 0, none⟩) M cap) (.slice (some ⟨g2, 0, none⟩) (nn + 1) cap2)) S vs0 := (HOL.out.moved hK7 (fun z _ h => .inr h.symm) (G' := twoB (.slice (some ⟨gb, 0, none⟩) M cap) (.slice (some ⟨g2, 0, none⟩) (nn + 1) cap2)) (fun z h => by
              rcases h with h | h
              · exact .inl (.inl h)
              · have e : some g2 = some z := h
                cases e
                rcases hP.place with h | h
                · exact .inl (.inr h)
                · exact .inr h)).moved hS8 (fun z _ h => .inl (congrArg some h.symm)) (fun z h => .inl h)
            have hB8 : Below w.heap.size wA (w7.setCell ⟨gb, m0, none⟩ (.slice (some ⟨g2, 0, none⟩) (nn + 1) cap2)) := (HBM.out.drew.trans hP.below).setCell hgw _
            have hnn3 : rows.length + 1 = nn + 1 := by rw [← HNN.out]
            rw [hnn3]
            have hM1 : M = (vs0 ++ [((some ⟨g2, 0, none⟩, nn + 1, cap2) : GS)]).length := by rw [List.length_append, HMM.out, HM0.out]; rfl
            have HBE : Hid (Below w.heap.size w (w7.setCell ⟨gb, m0, none⟩ (.slice (some ⟨g2, 0, none⟩) (nn + 1) cap2))) := Lib.hid (HBA.out.trans hB8)
            have hRL : rows.length = nn := HNN.out.symm
            have HBRE : Hid (BR S D (j + 1) (w7.setCell ⟨gb, m0, none⟩ (.slice (some ⟨g2, 0, none⟩) (nn + 1) cap2)) w.heap.size (.slice (some ⟨gb, 0, none⟩) M cap) (vs0 ++ [(some ⟨g2, 0, none⟩, nn + 1, cap2)])) := Lib.hid (.inr ⟨vs0, some ⟨g2, 0, none⟩, cap2, rows ++ [⟨xv, xl⟩], by rw [List.length_append, hRL]; rfl, by rw [List.length_append, hRL]; exact hR8, fun k hk e => by
              have h1 : some gb = some k := hk
              have h2 : some g2 = some k := e
              cases h1
              cases h2
              exact hne rfl, by rw [List.length_append, hRL]; exact hL8, HLR.out⟩)
            have hvl2 : (vs0 ++ [((some ⟨g2, 0, none⟩, nn + 1, cap2) : GS)]).length ≤ j + 1 := by rw [← hM1]; have := HMM.out; omega
            have HO8 := Lib.hid hO8
            clear hM1 hRL hK7 hO7 hO8 hne hR7 hS8 hgw hR8 hL8 hB8 hHeld f12 f10 f11
            go_wp2_with fail
            go_roundw
            case rel => exact ⟨j + 1, _, by omega, by go_num, hvl2, HO8.out, HBRE, HBE⟩
            case measure => simp [RowKit.intOf]; omega
          · go_simp
            refine hK.out _ _ ?_ (fun hHeld => ?_)
            · (try dsimp only)
              (go_split_ands; refine (fun hR => ⟨hR, HKB.out _ hR.kept⟩) ?_; first | with_reducible assumption | with_reducible exact reg_drew (by assumption) | with_reducible exact reg_alloc (by assumption) | with_reducible exact reg_drew (reg_alloc (by assumption)) | with_reducible exact reg_alloc (reg_drew (by assumption)) | with_reducible exact reg_set (by assumption))
            clear hK K
            (try simp only [Act.put, List.setIfInBounds_toArray, List.set_cons_zero, List.set_cons_succ])
            refine wpAnyH_ready (rs := [9]) (by kernel_rfl) (by simp) ?_
            refine AllReadyH.cons rfl (fun K hK => ?_) AllReadyH.nil
            go_simp
            refine hK.out _ _ ?_ (fun hHeld => ?_)
            · (try dsimp only)
              (go_split_ands; refine (fun hR => ⟨hR, HKB.out _ hR.kept⟩) ?_; first | with_reducible assumption | with_reducible exact reg_drew (by assumption) | with_reducible exact reg_alloc (by assumption) | with_reducible exact reg_drew (reg_alloc (by assumption)) | with_reducible exact reg_alloc (reg_drew (by assumption)) | with_reducible exact reg_set (by assumption))
            clear hK K
            (try simp only [Act.put, List.setIfInBounds_toArray, List.set_cons_zero, List.set_cons_succ])
            refine wpAnyH_ready (rs := [12]) (by kernel_rfl) (by simp) ?_
            refine AllReadyH.cons rfl (fun K hK => ?_) AllReadyH.nil
            (refine step_push rfl (.tmp 39) (.tmp 41) 35 rfl (rowE.avoid D) Tryz.underlying35 w.heap.size (.slice ra nn rc) rows rfl HRW.out.drew [⟨xv, xl⟩] #[.slice a1 nx n1, .slice e1 ny m1] HELS.out 1 1 rfl rfl (by decide) (by have := HNN.out; unfold maxLen; omega) (by have := HNN.out; show _ * 48 ≤ _; omega) hzw2 ?_; intro g2 cap2 w7 hP hPa; have f12 := reg_push (reg_drew hbb) HNC.out hP; have f10 := f12.cell; have f11 := f12.frz)
            refine hK.out _ _ ?_ (fun hHeld => ?_)
            · (try dsimp only)
              (go_split_ands; refine (fun hR => ⟨hR, HKB.out _ hR.kept⟩) ?_; first | with_reducible assumption | with_reducible exact reg_drew (by assumption) | with_reducible exact reg_alloc (by assumption) | with_reducible exact reg_drew (reg_alloc (by assumption)) | with_reducible exact reg_alloc (reg_drew (by assumption)) | with_reducible exact reg_set (by assumption))
            clear hK K
            (try simp only [Act.put, List.setIfInBounds_toArray])
            refine take_y (i := 13) (d := some 43) (v := ?_) rfl rfl (by kernel_rfl) (by kernel_rfl) (by kernel_rfl) (fun _ _ _ h => h) (by assumption) ?_ ?_
            rotate_left
            · intro oi ho
              simp only [List.getElem?_toArray, List.getElem?_cons_succ, List.getElem?_cons_zero, Option.some.injEq] at ho
              subst ho
              intro w hSw
              (try dsimp only at hSw)
              go_simp
              (try with_reducible rfl)
            (try simp only [Act.put])
            refine wpAnyH_ready (rs := [14]) (by kernel_rfl) (by simp) ?_
            refine AllReadyH.cons rfl (fun K hK => ?_) AllReadyH.nil
            go_simp
            refine hK.out _ _ ?_ (fun hHeld => ?_)
            · (try dsimp only)
              (go_split_ands; refine (fun hR => ⟨hR, HKB.out _ hR.kept⟩) ?_; first | with_reducible assumption | with_reducible exact reg_drew (by assumption) | with_reducible exact reg_alloc (by assumption) | with_reducible exact reg_drew (reg_alloc (by assumption)) | with_reducible exact reg_alloc (reg_drew (by assumption)) | with_reducible exact reg_set (by assumption))
            clear hK K
            (try simp only [Act.put, List.setIfInBounds_toArray, List.set_cons_zero, List.set_cons_succ])
            refine wpAnyH_done (by kernel_rfl) ?_ _
            have hK7 : Kept (fun m => some m = (Value.slice ra nn rc).ownBlock) wc w7 := hP.kept
            have hO7 : Own slE w7 w.heap.size (.slice (some ⟨gb, 0, none⟩) M cap) (vs0 ++ [(ra, nn, rc)]) := HOM.out.kept_flat slE_flat hK7 (fun k hk h => HNC.out (by cases hk; exact h.symm))
            have hO8 := sl_put hO7 (by rw [List.length_append, HMM.out, HM0.out]; rfl) hm2 (some ⟨g2, 0, none⟩, nn + 1, cap2)
            rw [HM0.out, set_last, ← HM0.out] at hO8
            have hne : gb ≠ g2 := hP.ne (fun e => HNC.out e.symm) (by have := (HOM.out.lt gb rfl).2; exact this)
            have hR7 := hP.own' (n := nn + 1) (by rw [List.length_append, ← HNN.out]; rfl)
            have hS8 : Kept (fun m => m = gb) w7 (w7.setCell ⟨gb, m0, none⟩ (.slice (some ⟨g2, 0, none⟩) (nn + 1) cap2)) := kept_set (G := fun m => m = gb) (q := ⟨gb, m0, none⟩) rfl
            have hgw : w.heap.size ≤ gb := (HOM.out.lt gb rfl).1
            have hR8 : Own (rowE.avoid D) (w7.setCell ⟨gb, m0, none⟩ (.slice (some ⟨g2, 0, none⟩) (nn + 1) cap2)) w.heap.size (.slice (some ⟨g2, 0, none⟩) (nn + 1) cap2) (rows ++ [⟨xv, xl⟩]) := hR7.move hS8 (fun k _ h => by rw [h]; exact (HDD.out gb).2 hgw) (fun k hk e => by
              have h1 : some g2 = some k := hk
              cases h1
              exact hne e.symm) (fun k _ h => .inl h)
            have hL8 : OldR (w7.setCell ⟨gb, m0, none⟩ (.slice (some ⟨g2, 0, none⟩) (nn + 1) cap2)) D (twoB (.slice (some ⟨gb, 0, none⟩) M cap) (.slice (some ⟨g2, 0, none⟩) (nn + 1) cap2)) S vs0 := (HOL.out.moved hK7 (fun z _ h => .inr h.symm) (G' := twoB (.slice (some ⟨gb, 0, none⟩) M cap) (.slice (some ⟨g2, 0, none⟩) (nn + 1) cap2)) (fun z h => by
              rcases h with h | h
              · exact .inl (.inl h)
              · have e : some g2 = some z := h
                cases e
                rcases hP.place with h | h
                · exact .inl (.inr h)
                · exact .inr h)).moved hS8 (fun z _ h => .inl (congrArg some h.symm)) (fun z h => .inl h)
            have hB8 : Below w.heap.size wA (w7.setCell ⟨gb, m0, none⟩ (.slice (some ⟨g2, 0, none⟩) (nn + 1) cap2)) := (HBM.out.drew.trans hP.below).setCell hgw _
            have hnn3 : rows.length + 1 = nn + 1 := by rw [← HNN.out]
            rw [hnn3]
            have hM1 : M = (vs0 ++ [((some ⟨g2, 0, none⟩, nn + 1, cap2) : GS)]).length := by rw [List.length_append, HMM.out, HM0.out]; rfl
            have HBE : Hid (Below w.heap.size w (w7.setCell ⟨gb, m0, none⟩ (.slice (some ⟨g2, 0, none⟩) (nn + 1) cap2))) := Lib.hid (HBA.out.trans hB8)
            have hRL : rows.length = nn := HNN.out.symm
            have HBRE : Hid (BR S D (j + 1) (w7.setCell ⟨gb, m0, none⟩ (.slice (some ⟨g2, 0, none⟩) (nn + 1) cap2)) w.heap.size (.slice (some ⟨gb, 0, none⟩) M cap) (vs0 ++ [(some ⟨g2, 0, none⟩, nn + 1, cap2)])) := Lib.hid (.inr ⟨vs0, some ⟨g2, 0, none⟩, cap2, rows ++ [⟨xv, xl⟩], by rw [List.length_append, hRL]; rfl, by rw [List.length_append, hRL]; exact hR8, fun k hk e => by
              have h1 : some gb = some k := hk
              have h2 : some g2 = some k := e
              cases h1
              cases h2
              exact hne rfl, by rw [List.length_append, hRL]; exact hL8, HLR.out⟩)
            have hvl2 : (vs0 ++ [((some ⟨g2, 0, none⟩, nn + 1, cap2) : GS)]).length ≤ j + 1 := by rw [← hM1]; have := HMM.out; omega
            have HO8 := Lib.hid hO8
            clear hM1 hRL hK7 hO7 hO8 hne hR7 hS8 hgw hR8 hL8 hB8 hHeld f12 f10 f11
            go_wp2_with fail
            go_roundw
            case rel => exact ⟨j + 1, _, by omega, by go_num, hvl2, HO8.out, HBRE, HBE⟩
            case measure => simp [RowKit.intOf]; omega
    · have hjn : j = n := by omega
      obtain ⟨oa, oc, rfl⟩ := hO.shape
      have HALL := Lib.hid (HBR.out.all (fun k hk => (HDD.out k).2 hk) (fun k hk => (hO.lt k hk).1))
      have HO := Lib.hid hO
      have hv3 : vs.length ≤ 1000 := by omega
      clear hO HBR
      go_wp2_with fail
      go_ret
      exact ⟨_, _, vs, rfl, HO.out, hv3, fun t ht => by
        obtain ⟨r, h1, h2⟩ := HALL.out t ht
        exact ⟨r, h1, h2.forget.free⟩, HB.out⟩
end Go.Proofs.YtngigmpaabmngaaGreatDoor

namespace Go.Proofs.YtngigmpaabmngaaGreatDoor
open Go.RowKit Go.Lib

set_option maxHeartbeats 8000000 in
set_option maxRecDepth 100000 in
theorem surplus_any (v u : Value) (x y : List GRow) (w : World) (hv : Sl rowE w free v x) (hu : Sl rowE w free u y) (hl : x.length ≤ 1000) (hl2 : y.length ≤ 1000) (hs : ∀ r ∈ x, r.vals.length ≤ 1000 ∧ r.lin.length ≤ 1000) (hm : ∀ vs, multL x vs ≤ multL y vs) :
    Calls Tryz.prog 67 #[v, u] w fun e w' => ∃ ao co, e = .returned (.slice ao 0 co) ∧ Below w.heap.size w w' := by
  have HSO := Lib.hid (bagSort_any v x w hv (by omega) hs)
  have hsl := sortR_length x
  have hmm : ∀ vs, multL (sortR x) vs ≤ multL y vs := fun vs => by rw [sort_mult]; exact hm vs
  obtain ⟨X, hX⟩ : ∃ X, X = sortR x := ⟨_, rfl⟩
  rw [← hX] at HSO hsl hmm
  obtain ⟨a, c, rfl⟩ := hv.shape
  obtain ⟨a2, c2, rfl⟩ := hu.shape
  have HMM := Lib.hid hmm
  have HU := Lib.hid hu
  have HRU := fun (W : World) (v3 : Value) (h : Sl rowE W free v3 X) => Lib.hid (bagRuns_any v3 X W h (by omega))
  have HRU' := Lib.hid HRU
  obtain ⟨ny, hny⟩ : ∃ n, n = y.length := ⟨_, rfl⟩
  have HNY := Lib.hid hny
  rw [← hny] at HU hl2 ⊢
  generalize x.length = nx at HSO ⊢
  clear hv hu hs hm hmm hX HRU hny hl hsl
  go_enter Tryz.func67, Tryz.ntmps67
  go_wp2_with fail
  refine HSO.out.mono ?_
  rintro _ w1 ⟨vX, rfl, hOX, hb1⟩
  obtain ⟨aX, cX, rfl⟩ := hOX.shape
  have HRX := HRU'.out w1 _ hOX.sl
  have HB1 := Lib.hid hb1
  clear hOX hb1 HSO HRU'
  generalize X.length = nX at HRX ⊢
  go_wp2_with fail
  refine HRX.out.mono ?_
  rintro _ w2 ⟨aR, cR, vs, rfl, hOR, hvl, hrs, hb2⟩
  obtain ⟨nR, hnR⟩ : ∃ n, n = vs.length := ⟨_, rfl⟩
  have HNR := Lib.hid hnR
  rw [← hnR] at hvl ⊢
  have HOR := Lib.hid hOR
  have HRS := Lib.hid hrs
  have HB2 := Lib.hid (below_keep HB1.out hb2)
  have HU2 := Lib.hid (HU.out.below HB2.out)
  clear hOR hrs hb2 hnR HU HB1 HRX
  go_wp2_with fail
  go_loopw [13, 5] (fun i o wr => ∃ (j : Nat) (ao : Option Addr) (co : Nat), j ≤ nR ∧ i = .int .i64 j ∧ o = .slice ao 0 co ∧ Own rowE wr w2.heap.size (.slice ao 0 co) [] ∧ Hid (Below w2.heap.size w2 wr)) (fun i _ _ => nR - (RowKit.intOf i).toNat)
  case atStart => exact ⟨0, none, 0, Nat.zero_le _, rfl, rfl, Own.nil _ _ _, Lib.hid (.refl _ _)⟩
  case round =>
    obtain ⟨j, ao, co, hj, rfl, rfl, hO, HB⟩ := hrel
    obtain ⟨wo, rfl⟩ : ∃ wo : World, wo = wr := ⟨_, rfl⟩
    by_cases hlt : j < nR
    · obtain ⟨t, ht⟩ := lget_some vs j (by rw [← HNR.out]; exact hlt)
      obtain ⟨g, cap, he⟩ := HOR.out.shape_pos (by rw [← HNR.out]; omega)
      obtain ⟨e1, e2, e3⟩ := Value.slice.inj he
      subst e1
      subst e3
      have hct := cell_keep HB.out (sl_at HOR.out ht)
      obtain ⟨r, ⟨z, tl, hr, hgm⟩, hrr⟩ := HRS.out t (List.mem_of_getElem? ht)
      obtain ⟨ta, tn, tc⟩ := t
      dsimp only at hct hrr
      have hrl : tn = r.length := by
        obtain ⟨a', c', e⟩ := hrr.shape
        exact (Value.slice.inj e).2.1
      have hcap := hrr.cap
      have hz : r[0]? = some z := by rw [hr]; rfl
      have hpos : 0 < tn := by rw [hrl, hr]; simp
      obtain ⟨bz, oz, a3, n3, e4, m4, rfl, hvz, hlz, q0, q1⟩ := rows_at (hrr.below HB.out) hz
      rw [Nat.zero_mul, Nat.add_zero] at q0
      have HMU := Lib.hid (bagMult_any (.slice a2 ny c2) _ y z.vals wo (HU2.out.below HB.out) hvz (by rw [← HNY.out]; omega))
      have hle : tn ≤ multL y z.vals := by rw [hrl]; exact Nat.le_trans hgm (HMM.out z.vals)
      have hmy : multL y z.vals ≤ 1000 := Nat.le_trans (multL_le _ _) (by rw [← HNY.out]; exact hl2)
      generalize multL y z.vals = my at HMU hle hmy
      generalize z.vals.length = nz at q0 HMU
      have hmin : min (my : Int) (tn : Int) = (tn : Int) := by omega
      have hO' := Lib.hid hO
      have hg1 : (0 : Int) < (tn : Int) := by omega
      have hg2 : (tn : Int) ≤ (tc : Int) := by omega
      have hg3 : (0 : Int) ≤ (tn : Int) := by omega
      have hw1 : IntKind.i64.wrap (tn : Int) = (tn : Int) := IntWalk.i64_in _ (by omega)
      clear ht he e2 hgm hrr hr hz hvz hlz q1 hrl hO
      go_wp2_with fail
      refine HMU.out.mono ?_
      rintro _ w3 ⟨rfl, hb3⟩
      have HB3 := Lib.hid (below_keep HB.out hb3)
      have HO3 := Lib.hid (hO'.out.below hb3)
      have hz3 := HB3.out.size
      clear hb3 HMU q0 hct
      by_cases htc : tc = tn
      · subst htc
        go_wp2_with (at_builtin; refine wpList_join rfl (.tmp 23) (.tmp 29) 35 rfl rowE Tryz.underlying35 w2.heap.size (.slice ao 0 co) _ [] [] rfl rfl HO3.out (Sl.nil _ _ _ _ _) (by unfold maxLen; simp) (by show _ * 48 ≤ _; simp) hz3 0 rfl ?_; intro a5 c5 w5 hJ)
        go_roundw
        case rel => exact ⟨j + 1, a5, c5, by omega, by go_num, rfl, hJ.own, Lib.hid (HB3.out.trans hJ.below)⟩
        case measure => simp [RowKit.intOf]; omega
      · go_wp2_with (at_builtin; refine wpList_join rfl (.tmp 23) (.tmp 29) 35 rfl rowE Tryz.underlying35 w2.heap.size (.slice ao 0 co) _ [] [] rfl rfl HO3.out (Sl.nil _ _ _ _ _) (by unfold maxLen; simp) (by show _ * 48 ≤ _; simp) hz3 0 rfl ?_; intro a5 c5 w5 hJ)
        go_roundw
        case rel => exact ⟨j + 1, a5, c5, by omega, by go_num, rfl, hJ.own, Lib.hid (HB3.out.trans hJ.below)⟩
        case measure => simp [RowKit.intOf]; omega
    · have HBE := Lib.hid (below_keep HB2.out HB.out)
      clear hO
      go_wp2_with fail
      go_ret
      exact ⟨_, _, rfl, HBE.out⟩
set_option maxHeartbeats 4000000 in
theorem diff_any (v u : Value) (x y : List GRow) (w : World) (hv : Sl rowE w free v x) (hu : Sl rowE w free u y) (hl : x.length ≤ 1000) (hl2 : y.length ≤ 1000) (hs : ∀ r ∈ x, r.vals.length ≤ 1000 ∧ r.lin.length ≤ 1000) (hs2 : ∀ r ∈ y, r.vals.length ≤ 1000 ∧ r.lin.length ≤ 1000) (hm : ∀ vs, multL x vs = multL y vs) :
    Calls Tryz.prog 29 #[v, u] w fun e w' => ∃ a1 c1 a2 c2, e = .returned (.tuple #[.slice a1 0 c1, .slice a2 0 c2]) ∧ Below w.heap.size w w' := by
  have H1 := Lib.hid (surplus_any v u x y w hv hu hl hl2 hs fun vs => Nat.le_of_eq (hm vs))
  have H2 := Lib.hid (fun W (h : Below w.heap.size w W) => surplus_any u v y x W (hu.below h) (hv.below h) hl2 hl hs2 fun vs => Nat.le_of_eq (hm vs).symm)
  obtain ⟨a, c, rfl⟩ := hv.shape
  obtain ⟨a2, c2, rfl⟩ := hu.shape
  generalize x.length = nx at H1 H2 ⊢
  generalize y.length = ny at H1 H2 ⊢
  clear hv hu hl hl2 hs hs2 hm
  go_enter Tryz.func29, Tryz.ntmps29
  go_wp2_with fail
  refine H1.out.mono ?_
  rintro _ w1 ⟨b1, d1, rfl, hb1⟩
  have HB1 := Lib.hid hb1
  have H3 := Lib.hid (H2.out w1 hb1)
  clear hb1 H2
  go_wp2_with fail
  refine H3.out.mono ?_
  rintro _ w2 ⟨b2, d2, rfl, hb2⟩
  have HB2 := Lib.hid (below_keep HB1.out hb2)
  clear hb2
  go_wp2_with fail
  refine bodyPost_ret (v := .tuple #[.slice b1 0 d1, .slice b2 0 d2]) (by simp [results, Tryz.results29, go_sem]) rfl ⟨_, _, _, _, rfl, HB2.out⟩
end Go.Proofs.YtngigmpaabmngaaGreatDoor

namespace Go.Proofs.YtngigmpaabmngaaGreatDoor
open Go.RowKit Go.Lib

set_option maxHeartbeats 8000000 in
set_option maxRecDepth 100000 in
theorem sself_walk (v : Value) (xs : List U5) (t : Nat) (w : World) (hv : Sl u5E w free v xs) (hok : ∀ x ∈ xs, x.ok) (ht : t < 65536) (hT : Pow w) :
    Calls Tryz.prog 9 #[v, .int .u16 (t : Int)] w fun e w' => e = .returned (.bool true) ∧ Below w.heap.size w w' := by
  have HT := Lib.hid hT
  have HTA := Lib.hid (tuples_any v xs 10 (by decide) w hv hok)
  have hla := tupsOf_length xs 10
  have hka := mem_two (tups_keyable xs 10) (tups_keyable xs 10)
  have hqa := mem_two (tups_lin1 xs 10) (tups_lin1 xs 10)
  have hsa := tups_small xs 10
  obtain ⟨a, ha⟩ : ∃ l, l = tupsOf xs 10 := ⟨_, rfl⟩
  rw [← ha] at HTA hla hka hqa hsa
  have HKA := Lib.hid hka
  have HQA := Lib.hid hqa
  have HSA := Lib.hid hsa
  obtain ⟨day, hday⟩ : ∃ d : Int, d = (t : Int) % 60 := ⟨_, rfl⟩
  have hd1 : (t : Int) % 60 = day := hday.symm
  have hd2 : 0 ≤ day ∧ day < 60 := by omega
  have hd3 : IntKind.i64.wrap day = day := IntWalk.i64_in _ (by omega)
  have HPl : Hid ((sortR (atDay a day)).length ≤ 10) := Lib.hid (by rw [sortR_length]; exact Nat.le_trans (atDay_len _ _) hla)
  have HPs : Hid (∀ r ∈ sortR (atDay a day), r.vals.length ≤ 1000 ∧ r.lin.length ≤ 1000) := Lib.hid (fun r hr => atDay_small hsa day r ((sortR_perm _).mem_iff.1 hr))
  have HMS : Hid (∀ M, NFS fInt a a M → ∀ vs, multL (sortR (atDay a day)) vs = multL (sortR (atDay M day)) vs) := Lib.hid (fun M h vs => by rw [sort_mult, sort_mult]; exact (nfs_int_self h day vs).symm)
  clear hv hok hT ha hka hqa hsa hday
  go_enter Tryz.func9, Tryz.ntmps9
  have HC1 := Lib.hid (HTA.out)
  go_wp2_with fail
  refine HC1.out.mono ?_
  rintro _ w1 ⟨vA, rfl, hOA, hb1⟩
  obtain ⟨aA, cA, rfl⟩ := hOA.shape
  have HB_1 := Lib.hid hb1
  have A_1 := Lib.hid (hOA.sl)
  clear hb1 HC1  hOA HTA
  have HC2 := Lib.hid (timeslice_any _ a day w1 A_1.out (by omega) HSA.out)
  go_wp2_with fail
  refine HC2.out.mono ?_
  rintro _ w2 ⟨vP, rfl, hOP, hb2⟩
  obtain ⟨aP, cP, rfl⟩ := hOP.shape
  have A_2 := Lib.hid (A_1.out.below hb2)
  have HB_2 := Lib.hid (below_keep HB_1.out hb2)
  have P_2 := Lib.hid (hOP.sl)
  clear hb2 HC2 A_1 HB_1 hOP
  have HC3 := Lib.hid (intersect_any _ _ a a 1 w2 A_2.out A_2.out HKA.out HQA.out (by omega) (sop_small (by omega)) (HT.out.below HB_2.out))
  go_wp2_with fail
  refine HC3.out.mono ?_
  rintro _ w3 ⟨M, hM, hlM, vM, rfl, hOM, hb3⟩
  obtain ⟨aM, cM, rfl⟩ := hOM.shape
  have NM := Lib.hid hM
  have ZM := Lib.hid hlM
  have A_3 := Lib.hid (A_2.out.below hb3)
  have P_3 := Lib.hid (P_2.out.below hb3)
  have HB_3 := Lib.hid (below_keep HB_2.out hb3)
  have FM_3 := Lib.hid (hOM.sl)
  clear hb3 HC3 A_2 P_2 HB_2 hOM hM hlM
  have HC4 := Lib.hid (timeslice_any _ M day w3 FM_3.out ZM.out (NFS.small (q := 1) fInt_zero NM.out HKA.out HQA.out (by omega)))
  go_wp2_with fail
  refine HC4.out.mono ?_
  rintro _ w4 ⟨vR, rfl, hOR, hb4⟩
  obtain ⟨aR, cR, rfl⟩ := hOR.shape
  have A_4 := Lib.hid (A_3.out.below hb4)
  have P_4 := Lib.hid (P_3.out.below hb4)
  have FM_4 := Lib.hid (FM_3.out.below hb4)
  have HB_4 := Lib.hid (below_keep HB_3.out hb4)
  have R_4 := Lib.hid (hOR.sl)
  clear hb4 HC4 A_3 P_3 FM_3 HB_3 hOR
  have hmm := HMS.out M NM.out
  have hps := HPs.out
  have hpl := HPl.out
  have hrs : ∀ r ∈ sortR (atDay M day), r.vals.length ≤ 1000 ∧ r.lin.length ≤ 1000 := fun r hr => atDay_small (NFS.small (q := 1) fInt_zero NM.out HKA.out HQA.out (by omega)) day r ((sortR_perm _).mem_iff.1 hr)
  have hrl : (sortR (atDay M day)).length ≤ 10 := Nat.le_trans (len_mult_le fun vs => Nat.le_of_eq (hmm vs).symm) hpl
  obtain ⟨rp, hrp⟩ : ∃ r, r = sortR (atDay a day) := ⟨_, rfl⟩
  obtain ⟨rm, hrm⟩ : ∃ r, r = sortR (atDay M day) := ⟨_, rfl⟩
  rw [← hrp] at P_4 hmm hps hpl ⊢
  rw [← hrm] at R_4 hmm hrs hrl ⊢
  have HDI := Lib.hid (diff_any _ _ rp rm w4 P_4.out R_4.out (by omega) (by omega) hps hrs hmm)
  clear hrp hrm hmm hps hpl hrs hrl HPl HPs HMS NM ZM
  generalize rp.length = np at HDI ⊢
  generalize rm.length = nm at HDI ⊢
  have HC5 := Lib.hid (HDI.out)
  go_wp2_with fail
  refine HC5.out.mono ?_
  rintro _ w5 ⟨al, cl, ag, cg, rfl, hb5⟩
  have A_5 := Lib.hid (A_4.out.below hb5)
  have HB_5 := Lib.hid (below_keep HB_4.out hb5)
  clear hb5 HC5 A_4 HB_4 HDI P_4 R_4
  have HC6 := Lib.hid (awake15_any w5 (HT.out.below HB_5.out))
  go_wp2_with fail
  refine HC6.out.mono ?_
  rintro _ w6 ⟨rfl, hb6⟩
  have A_6 := Lib.hid (A_5.out.below hb6)
  have HB_6 := Lib.hid (below_keep HB_5.out hb6)
  clear hb6 HC6 A_5 HB_5 
  have HC7 := Lib.hid (except_any _ _ a a 1 w6 A_6.out A_6.out HKA.out HQA.out (by omega) (sop_small (by omega)) (HT.out.below HB_6.out))
  go_wp2_with fail
  refine HC7.out.mono ?_
  rintro _ w7 ⟨Z, hZ, _, vZ, rfl, hOZ, hb7⟩
  obtain ⟨aZ, cZ, rfl⟩ := hOZ.shape
  obtain rfl : Z = [] := nfs_self hZ
  have A_7 := Lib.hid (A_6.out.below hb7)
  have HB_7 := Lib.hid (below_keep HB_6.out hb7)
  clear hb7 HC7 A_6 HB_6 hOZ hZ
  go_wp2_with fail
  go_ret
  exact ⟨rfl, HB_7.out⟩
end Go.Proofs.YtngigmpaabmngaaGreatDoor

namespace Go.Proofs.YtngigmpaabmngaaGreatDoor
open Go.ChangeShapes Go.WideShapes Go.ChangeAt Go.RowKit
open Go.ChangeMaps (open_string)

set_option maxRecDepth 100000 in
theorem sslf_contract (H : Type) (enc : TypeId × Value → H) (W : World) (base : Nat) (args : Array Value) (ds gs : List (DataW H)) (before : List MemPlace)
    (hval : ∀ (j : Nat) t v, Tryz.f9.params[j]? = some t → args[j]? = some v → Value.okWide Tryz.prog W .any base t v)
    (hW : DataW.Whole enc Tryz.prog Tryz.f9.params.toList Rows.setopSelfSpec.vars false W args.toList ds gs before) (hT : Pow W) :
    Calls Tryz.prog 9 args W fun e W' => ∃ v, e = .returned v ∧ Rows.setopSelfSpec.post enc Tryz.prog Tryz.f9 false true false false W args v W' := by
  have hW' := hW
  obtain ⟨p, q, hA0, hV, rfl, hfz, hnd⟩ := hW
  have hA : DataW.TrodAll enc Tryz.prog W 0 (fun _ => true) true Tryz.f9.params.toList args.toList ds p := hA0
  rw [Tryz.params9] at hA hval
  obtain ⟨v0, vs0, d0, ds0, p0, q0, hargs, rfl, rfl, h0, r0⟩ := trodAll_cons hA
  obtain ⟨v1, vs1, d1, ds1, p1, q1, rfl, rfl, rfl, h1, r1⟩ := trodAll_cons r0
  obtain ⟨rfl, rfl, rfl⟩ := trodAll_nil r1
  obtain rfl : args = #[v0, v1] := by cases args; simp_all
  obtain ⟨rfl, rfl⟩ := trodVars_none hV
  obtain ⟨l0, hl0, hp0⟩ := open_sl u5E U5.ok Tryz.underlying22 cells_u5 (hval 0 22 v0 rfl rfl) open_u5_el h0
  obtain ⟨z1, rfl, rfl, rfl, wz1⟩ := open_int Tryz.underlying34 (hval 1 34 v1 rfl rfl) h1; obtain ⟨x1, rfl, b1⟩ := u16_of wz1
  refine (sself_walk v0 l0 x1 W hl0 hp0 b1 hT).mono fun e W' ⟨he, hb⟩ => ⟨_, he, ?_⟩
  refine law_post rfl rfl (by intro t ht; rw [Tryz.params9] at ht; simp at ht; rcases ht with rfl | rfl <;> exact ⟨by kernel_rfl, of_decide_eq_true (by kernel_rfl)⟩) rfl hW' hb

theorem sslf_reads (os : Os) {H : Type} (enc : TypeId × Value → H) : ∃ places, DataW.whole enc Tryz.prog ((laidWorld os).forCall (fun _ _ => 0) ⟨#[], #[.slice none 0 0, .int .u16 0], []⟩).memory Tryz.f9.params.toList Rows.setopSelfSpec.vars false (#[.slice none 0 0, .int .u16 0] : Array Value).toList 8 = some ([.nil, .lit (.int .u16 0)], [], places) :=
  ⟨[], by kernel_rfl⟩

set_option maxRecDepth 100000 in
theorem sslf_lifted (os : Os) (started : os.Started) (H : Type) (enc : TypeId × Value → H) (F : Stop.Interp) :
    ReturnsInHanded {} Tryz.checked os 9 .any ((OpenSpec.ofChange Rows.setopSelfSpec).preRow enc Tryz.prog Tryz.f9 Rows.setopSelfRow.domain false Rows.setopSelfRow.laid) (((OpenSpec.ofChange Rows.setopSelfSpec).at F).post enc Tryz.prog Tryz.f9 false true false false) := by
  obtain ⟨places, hx⟩ := sslf_reads os enc
  refine returnsInHanded_of_row (C := Tryz.checked) (s := OpenSpec.ofChange Rows.setopSelfSpec) own started (by kernel_rfl) Tryz.func9
    (witness_row_at (enc := enc) (C := Tryz.checked) false (laidWorld os) #[.slice none 0 0, .int .u16 0] rfl (by kernel_rfl) (by kernel_rfl) (by kernel_rfl)
      (OpenSpec.preRow_of_cond 8 hx (by kernel_rfl) (fun k hk => by cases hk) (by kernel_rfl) (laid_met os _))) ?_
  intro W base args ds gs before hval hW _ hcond _ hlaid hsh _
  exact sslf_contract H enc W base args ds gs before hval hW (pow_of_laid hlaid)

theorem sslf_said : Rows.SetopSelfSaid :=
  OpenClaim.holds_of_cond 9 Tryz.f9 rfl rfl rfl rfl rfl rfl rfl ⟨rfl, rfl, rfl, rfl, rfl⟩ rfl rfl rfl rfl rfl (by kernel_rfl) Tryz.func9 (by kernel_rfl)
    (of_decide_eq_true (by kernel_rfl)) (by unfold Func.isWrapper; first | (rw [if_pos (by decide +kernel)]; kernel_rfl) | (rw [if_neg (by decide +kernel)]; exact ⟨rfl, rfl⟩))
    (fun os started H enc _ F => by rw [OpenClaim.pre_eq_preRow]; exact sslf_lifted os started H enc F)

/-- No parameter wants a stand-in; the program's own looks are off. -/
theorem sslf_plain (f : FuncId) (fn : Func) (hf : Tryz.pinned.checked.prog.funcNamed "annalist/annalistlaw15.SetopSelf" = some f) (hfn : Tryz.pinned.checked.prog.funcs[f]? = some fn) :
    false = Tryz.pinned.checked.prog.looks [] ∧ ∀ (j : Nat) t, fn.params[j]? = some t → Tryz.pinned.checked.prog.wantsStandIn t = false := by
  obtain rfl : f = 9 := Option.some.inj ((show Tryz.prog.funcNamed "annalist/annalistlaw15.SetopSelf" = some 9 by kernel_rfl).symm.trans hf) |>.symm
  obtain rfl : fn = Tryz.f9 := (Option.some.inj (Tryz.func9.symm.trans hfn)).symm
  refine ⟨by kernel_rfl, fun j t ht => ?_⟩
  rw [Tryz.params9] at ht
  have hm := Array.mem_of_getElem? ht
  simp at hm
  rcases hm with rfl | rfl
  · exact (show Tryz.prog.wantsStandIn 22 = false by kernel_rfl)
  · exact (show Tryz.prog.wantsStandIn 34 = false by kernel_rfl)

/-- The card. -/
theorem sslf_card : Rows.SetopSelfCardSaid :=
  Claim7.holds_tied_plain_at .later [] _ _ _ _ sslf_said (fun _ h => by cases h) (by kernel_rfl) (fun _ h => by cases h) setopSelf_row_tie rfl ⟨rfl, rfl⟩ (by kernel_rfl) rfl sslf_plain (by kernel_rfl)
end Go.Proofs.YtngigmpaabmngaaGreatDoor
