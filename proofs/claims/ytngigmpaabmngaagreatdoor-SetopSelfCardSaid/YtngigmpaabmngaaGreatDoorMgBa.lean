/- A part of the proofs: Run, Rso, Avr, Rst, Rrn, Rcb, Rcc, BinP, Rlp. No condition beside sizes and tables that read as laid. -/
import Derived.Test.YtngigmpaabmngaaGreatDoorMgAd
import Derived.Test.YtngigmpaabmngaaGreatDoorMgAb
import Derived.Test.YtngigmpaabmngaaGreatDoorMgAe
import Derived.Test.YtngigmpaabmngaaGreatDoorMgAa
import Derived.Deep.CutRange
import Derived.Deep.DeepCutAuto
import Derived.Test.YtngigmpaabmngaaGreatDoorMgAc
namespace Go.Proofs.YtngigmpaabmngaaGreatDoor
open Go.RowKit Go.Lib

theorem run_info : (Tryz.prog.info? 124).map (fun i => (i.zero, i.size, i.bytes)) = some (some (.agg #[.slice none 0 0, .slice none 0 0, .slice none 0 0]), 3, 72) := by kernel_rfl
/-- A run: its values, how many rows, its lineage. -/
def runE : El Tryz.prog GRun where
  ty := 124
  size := 3
  bytes := 72
  pos := by decide
  info := info_mk run_info rfl
  is := fun w G t cs => ∃ v ra rc u, cs = [v, .slice ra t.n rc, u] ∧ (t.n = 0 → ra = none ∧ rc = 0) ∧ Sl valE w G v t.vals ∧ Sl intE w G u t.lin
  len := by rintro w G t cs ⟨v, ra, rc, u, rfl, _⟩; rfl
  one := by
    rintro w G t cs ⟨v, ra, rc, u, rfl, _, h1, h2⟩ x hx
    simp at hx
    rcases hx with rfl | rfl | rfl
    · exact h1.one
    · rfl
    · exact h2.one
  mono := by rintro w G G' t cs ⟨v, ra, rc, u, rfl, h0, h1, h2⟩ hm; exact ⟨v, ra, rc, u, rfl, h0, h1.mono hm, h2.mono hm⟩
  kept := by rintro w w' G t cs ⟨v, ra, rc, u, rfl, h0, h1, h2⟩ hk; exact ⟨v, ra, rc, u, rfl, h0, h1.kept hk, h2.kept hk⟩
/-- Rows of which only the number is told. -/
def rowX : El Tryz.prog Unit where
  ty := 39
  size := 2
  bytes := 48
  pos := by decide
  info := info_mk row_info rfl
  is := fun _ _ _ cs => ∃ v u, cs = [v, u] ∧ v.oneCell' = true ∧ u.oneCell' = true
  len := by rintro w G t cs ⟨v, u, rfl, _⟩; rfl
  one := by
    rintro w G t cs ⟨v, u, rfl, h1, h2⟩ x hx
    simp at hx
    rcases hx with rfl | rfl
    · exact h1
    · exact h2
  mono := fun h _ => h
  kept := fun h _ => h
theorem rowX_flat : rowX.Flat (P := Tryz.prog) := fun h => h
section
variable {D0 D : Nat → Prop} {w : World} {B g n c k : Nat} {l : List GRun} {x : GRun}
theorem run_at (h : Own ((runE.avoid D0).avoid D) w B (.slice (some ⟨g, 0, none⟩) n c) l) (hk : l[k]? = some x) :
    ∃ v ra rc u, (x.n = 0 → ra = none ∧ rc = 0) ∧ Sl valE w (fun m => (some m = some g ∨ D m) ∨ D0 m) v x.vals ∧ Sl intE w (fun m => (some m = some g ∨ D m) ∨ D0 m) u x.lin ∧
      w.cell? ⟨g, k * 3, none⟩ = some v ∧ w.cell? ⟨g, k * 3 + 1, none⟩ = some (.slice ra x.n rc) ∧ w.cell? ⟨g, k * 3 + 2, none⟩ = some u := by
  obtain ⟨cs, ⟨v, ra, rc, u, rfl, h0, h1, h2⟩, hc⟩ := h.at hk
  exact ⟨v, ra, rc, u, h0, h1, h2, hc 0 _ rfl, hc 1 _ rfl, hc 2 _ rfl⟩
theorem run_put1 (h : Own ((runE.avoid D0).avoid D) w B (.slice (some ⟨g, 0, none⟩) n c) l) (hn : l.length = n) (hx : l[k]? = some x) (ra : Option Addr) (rc m : Nat) (hm : m ≠ 0) :
    Own ((runE.avoid D0).avoid D) (w.setCell ⟨g, k * 3 + 1, none⟩ (.slice ra m rc)) B (.slice (some ⟨g, 0, none⟩) n c) (l.set k ⟨x.vals, m, x.lin⟩) := by
  have hk : k < n := by rw [← hn]; exact (List.getElem?_eq_some_iff.1 hx).1
  refine (h.put_at (y := ⟨x.vals, m, x.lin⟩) (us := [.slice ra m rc]) (j := 1) hn hk (by show 1 + 1 ≤ 3; decide) fun z cs hz his => ?_).1
  rw [hx] at hz
  cases hz
  obtain ⟨v, ra', rc', u, rfl, h0, h1, h2⟩ := his
  exact ⟨v, ra, rc, u, rfl, fun e => absurd e hm, h1, h2⟩
theorem run_put2 (h : Own ((runE.avoid D0).avoid D) w B (.slice (some ⟨g, 0, none⟩) n c) l) (hn : l.length = n) (hx : l[k]? = some x) (u : Value) (lin : List Int) (hu : Sl intE w (fun m => (some m = some g ∨ D m) ∨ D0 m) u lin) :
    Own ((runE.avoid D0).avoid D) (w.setCell ⟨g, k * 3 + 2, none⟩ u) B (.slice (some ⟨g, 0, none⟩) n c) (l.set k ⟨x.vals, x.n, lin⟩) := by
  have hk : k < n := by rw [← hn]; exact (List.getElem?_eq_some_iff.1 hx).1
  refine (h.put_at (y := ⟨x.vals, x.n, lin⟩) (us := [u]) (j := 2) hn hk (by show 2 + 1 ≤ 3; decide) fun z cs hz his => ?_).1
  rw [hx] at hz
  cases hz
  obtain ⟨v, ra', rc', u', rfl, h0, h1, h2⟩ := his
  exact ⟨v, ra', rc', u, rfl, h0, h1, hu⟩
end
/-- What lies elsewhere than in D changes not; another D. -/
theorem Own.move {P : Program} {α : Type} {E : El P α} {D D' K : Nat → Prop} {w w' : World} {B : Nat} {v : Value} {l : List α} (h : Own (E.avoid D) w B v l) (hk : Kept K w w') (hs : ∀ k, k < w.heap.size → K k → D k) (hD : ∀ k, v.ownBlock = some k → ¬ K k) (hd : ∀ k, k < w.heap.size → D' k → D k ∨ some k = v.ownBlock) : Own (E.avoid D') w' B v l := by
  obtain ⟨xs, h1, h2⟩ := h
  refine ⟨xs, ⟨h1.1, h1.2.imp id ?_⟩, fun i x hx => ?_⟩
  · rintro ⟨g, cap, cur, rfl, hg, hh, r⟩
    exact ⟨g, cap, cur, rfl, hg, (hk.2 g (Array.getElem?_eq_some_iff.1 hh).1 (hD g rfl)).trans hh, r⟩
  · have h3 : E.is w (fun k => (some k = v.ownBlock ∨ D k) ∨ D' k) x ((xs.drop (i * E.size)).take E.size) := E.mono (h2 i x hx) (fun k hk h => by
      rcases h with h | h
      · exact h
      · exact (hd k hk h).symm)
    have h4 := E.kept h3 ⟨hk.1, fun k h5 h6 => hk.2 k h5 (fun h7 => h6 (.inl (.inr (hs k h5 h7))))⟩
    exact E.mono h4 (fun k _ h => h.imp .inl id)
/-- The last run's rows: a row of the call's own. -/
def LastR (w : World) (B : Nat) (o lv : Value) (rs : List GRun) : Prop :=
  ∀ rs0 g, rs = rs0 ++ [g] → ∃ (gb cap : Nat) (ra : Option Addr) (rc : Nat) (rows : List Unit), lv = .slice ra g.n rc ∧ o = .slice (some ⟨gb, 0, none⟩) (rs0.length + 1) cap ∧ w.cell? ⟨gb, rs0.length * 3 + 1, none⟩ = some (.slice ra g.n rc) ∧ Own rowX w B (.slice ra g.n rc) rows ∧ rows.length = g.n ∧ Apart o lv
theorem LastR.below {w w' : World} {B : Nat} {o lv : Value} {rs : List GRun} (h : LastR w B o lv rs) (hb : Below w.heap.size w w') : LastR w' B o lv rs := fun rs0 g e => by
  obtain ⟨gb, cap, ra, rc, rows, h1, h2, h3, h4, h5, h6⟩ := h rs0 g e
  exact ⟨gb, cap, ra, rc, rows, h1, h2, cell_keep hb h3, h4.below hb, h5, h6⟩
theorem snoc_inj {α : Type} {a b : List α} {x y : α} (h : a ++ [x] = b ++ [y]) : a = b ∧ x = y := by
  have h1 := List.append_inj' h rfl
  exact ⟨h1.1, by have := h1.2; simpa using this⟩
theorem set_last {α : Type} (l : List α) (x y : α) : (l ++ [x]).set l.length y = l ++ [y] := by
  rw [List.set_append_right _ _ (Nat.le_refl _), Nat.sub_self]; rfl
end Go.Proofs.YtngigmpaabmngaaGreatDoor

namespace Go.Proofs.YtngigmpaabmngaaGreatDoor
open Go.RowKit Go.Lib

set_option maxHeartbeats 2000000 in
theorem less_any (a b : GRow) (v u v2 u2 : Value) (w : World) (hv : Sl valE w free v a.vals) (hu : Sl intE w free u a.lin) (hv2 : Sl valE w free v2 b.vals) (hu2 : Sl intE w free u2 b.lin) :
    Calls Tryz.prog 128 #[.agg #[v, u], .agg #[v2, u2]] w fun e w' => e = .returned (.bool (decide (cmpRow a b < 0))) ∧ Below w.heap.size w w' := by
  obtain ⟨r1, hr1⟩ : ∃ r, r = cmpRows a.vals b.vals := ⟨_, rfl⟩
  obtain ⟨r2, hr2⟩ : ∃ r, r = cmpInts a.lin b.lin := ⟨_, rfl⟩
  have CR : ∀ W, Below w.heap.size w W → Hid (Calls Tryz.prog 26 #[v, v2] W fun e w' => e = .returned (.int .i64 r1) ∧ Below W.heap.size W w') := fun W h => hr1 ▸ cmpRows_any v v2 a.vals b.vals W (hv.below h).vals (hv2.below h).vals
  have CI : ∀ W, Below w.heap.size w W → Hid (Calls Tryz.prog 28 #[u, u2] W fun e w' => e = .returned (.int .i64 r2) ∧ Below W.heap.size W w') := fun W h => hr2 ▸ cmpInts_any u u2 a.lin b.lin W (hu.below h).ints (hu2.below h).ints
  have HR : Hid (cmpRow a b = if r1 = 0 then r2 else r1) := by show _ = _; rw [hr1, hr2]; rfl
  obtain ⟨a1, c1, rfl⟩ := hv.shape
  obtain ⟨a2, c2, rfl⟩ := hu.shape
  obtain ⟨a3, c3, rfl⟩ := hv2.shape
  obtain ⟨a4, c4, rfl⟩ := hu2.shape
  generalize a.vals.length = n1 at CR ⊢
  generalize a.lin.length = n2 at CI ⊢
  generalize b.vals.length = n3 at CR ⊢
  generalize b.lin.length = n4 at CI ⊢
  generalize cmpRow a b = z at HR ⊢
  have hb0 := below_alloc_two w (.cells #[.slice a1 n1 c1, .slice a2 n2 c2] 39) (.cells #[.slice a3 n3 c3, .slice a4 n4 c4] 39)
  have g0 := heap_alloc_old' w (.cells #[.slice a1 n1 c1, .slice a2 n2 c2] 39) (.cells #[.slice a3 n3 c3, .slice a4 n4 c4] 39)
  have g1 := heap_alloc_new' w (.cells #[.slice a1 n1 c1, .slice a2 n2 c2] 39) (.cells #[.slice a3 n3 c3, .slice a4 n4 c4] 39)
  have CR1 := Lib.hid (CR _ hb0).out
  have HB0 := Lib.hid hb0
  have G0 := Lib.hid g0
  have G1 := Lib.hid g1
  obtain ⟨d0, d1, _, _⟩ := box_two g0
  obtain ⟨e0, e1, _, _⟩ := box_two g1
  have CI' := Lib.hid CI
  clear hv hu hv2 hu2 hr1 hr2 CR CI hb0 g0 g1
  go_enter Tryz.func128, Tryz.ntmps128
  go_wp2_with fail
  refine CR1.out.mono ?_
  rintro _ w2 ⟨rfl, hb⟩
  obtain ⟨d0, d1, _, _⟩ := box_two (box_kept G0.out hb)
  obtain ⟨e0, e1, _, _⟩ := box_two (box_kept G1.out hb)
  have HB2 := Lib.hid (below_keep HB0.out hb)
  have CI2 := Lib.hid (CI'.out _ HB2.out).out
  clear hb CI' CR1 G0 G1 HB0
  by_cases h1 : r1 < 0
  · go_wp2_with fail
    go_ret
    exact ⟨ret_bool (by rw [HR.out, if_neg (by omega)]; simp [h1]), HB2.out⟩
  · by_cases h2 : r1 = 0
    · have h2' : (r1 == 0) = true := by simpa using h2
      go_wp2_with fail
      refine CI2.out.mono ?_
      rintro _ w3 ⟨rfl, hb3⟩
      have HB3 := Lib.hid (below_keep HB2.out hb3)
      clear hb3
      go_wp2_with fail
      go_ret
      exact ⟨ret_bool (by rw [HR.out, if_pos h2]), HB3.out⟩
    · have h2' : (r1 == 0) = false := by simpa using h2
      go_wp2_with fail
      go_ret
      exact ⟨ret_bool (by rw [HR.out, if_neg h2]), HB2.out⟩
/-- Two sorted lists merged. -/
def mrg : List GRow → List GRow → List GRow
  | [], b => b
  | x :: a, [] => x :: a
  | x :: a, y :: b => if cmpRow y x < 0 then y :: mrg (x :: a) b else x :: mrg a (y :: b)
termination_by a b => a.length + b.length
theorem mrg_nil (a : List GRow) : mrg a [] = a := by cases a <;> simp [mrg]
theorem mrg_nil' (b : List GRow) : mrg [] b = b := by simp [mrg]
theorem mrg_lt {x y : GRow} (a b : List GRow) (h : cmpRow y x < 0) : mrg (x :: a) (y :: b) = y :: mrg (x :: a) b := by rw [mrg, if_pos h]
theorem mrg_ge {x y : GRow} (a b : List GRow) (h : ¬ cmpRow y x < 0) : mrg (x :: a) (y :: b) = x :: mrg a (y :: b) := by rw [mrg, if_neg h]
theorem mrg_perm (a b : List GRow) : (mrg a b).Perm (a ++ b) := by
  induction a, b using mrg.induct with
  | case1 b => rw [mrg_nil']; exact List.Perm.refl _
  | case2 x a => rw [mrg_nil, List.append_nil]
  | case3 x a y b h ih => rw [mrg_lt _ _ h]; exact (ih.cons y).trans List.perm_middle.symm
  | case4 x a y b h ih => rw [mrg_ge _ _ h]; exact ih.cons x
theorem cmpRow_trans {a b c : GRow} (h1 : cmpRow a b ≤ 0) (h2 : cmpRow b c ≤ 0) : cmpRow a c ≤ 0 := by
  have h := sgn_row a b c
  unfold Sgn3 at h
  omega
theorem mrg_sorted (a b : List GRow) (ha : a.Pairwise fun x y => cmpRow x y ≤ 0) (hb : b.Pairwise fun x y => cmpRow x y ≤ 0) : (mrg a b).Pairwise fun x y => cmpRow x y ≤ 0 := by
  induction a, b using mrg.induct with
  | case1 b => rw [mrg_nil']; exact hb
  | case2 x a => rw [mrg_nil]; exact ha
  | case3 x a y b h ih =>
    rw [mrg_lt _ _ h, List.pairwise_cons]
    refine ⟨fun z hz => ?_, ih ha (List.pairwise_cons.1 hb).2⟩
    rcases List.mem_append.1 ((mrg_perm _ _).mem_iff.1 hz) with hz | hz
    · rcases List.mem_cons.1 hz with rfl | hz
      · omega
      · exact cmpRow_trans (by omega) ((List.pairwise_cons.1 ha).1 z hz)
    · exact (List.pairwise_cons.1 hb).1 z hz
  | case4 x a y b h ih =>
    have hxy : cmpRow x y ≤ 0 := by have := cmpRow_swap x y; omega
    rw [mrg_ge _ _ h, List.pairwise_cons]
    refine ⟨fun z hz => ?_, ih (List.pairwise_cons.1 ha).2 hb⟩
    rcases List.mem_append.1 ((mrg_perm _ _).mem_iff.1 hz) with hz | hz
    · exact (List.pairwise_cons.1 ha).1 z hz
    · rcases List.mem_cons.1 hz with rfl | hz
      · exact hxy
      · exact cmpRow_trans hxy ((List.pairwise_cons.1 hb).1 z hz)
theorem mrg_sort (l : List GRow) (k : Nat) : mrg (sortR (l.take k)) (sortR (l.drop k)) = sortR l := by
  refine sortR_unique ((mrg_perm _ _).trans ?_) ((mrg_sorted _ _ (sortR_pairwise _) (sortR_pairwise _)).imp (by intro a b h; have := cmpRow_swap a b; omega))
  exact ((sortR_perm _).append (sortR_perm _)).trans (by rw [List.take_append_drop])
theorem sortR_short {l : List GRow} (h : l.length < 2) : sortR l = l := by
  refine (sortR_unique (List.Perm.refl _) ?_).symm
  match l, h with
  | [], _ => exact List.Pairwise.nil
  | [x], _ => exact List.pairwise_singleton _ _
theorem mrg_length (a b : List GRow) : (mrg a b).length = a.length + b.length := by rw [(mrg_perm a b).length_eq, List.length_append]
end Go.Proofs.YtngigmpaabmngaaGreatDoor

namespace Go.Proofs.YtngigmpaabmngaaGreatDoor
open Go.RowKit Go.Lib

section
variable {P : Program} {α : Type}
theorem Sl.toD {E : El P α} {D : Nat → Prop} {w : World} {v : Value} {l : List α} (h : Sl E w D v l) : Sl (E.avoid D) w Go.Proofs.YtngigmpaabmngaaGreatDoor.free v l := by
  obtain ⟨h1, a, c, h2, h3, h4⟩ := h
  refine ⟨h1, a, c, h2, h3, fun hn => ?_⟩
  obtain ⟨b, o, h5, _, h6⟩ := h4 hn
  refine ⟨b, o, h5, id, fun i x hx => ?_⟩
  obtain ⟨cs, h7, h8⟩ := h6 i x hx
  exact ⟨cs, E.mono h7 (fun k _ hk => hk.resolve_left id), h8⟩
/-- A row of the call's own lies in no elder block. -/
theorem Own.slD {E : El P α} {D : Nat → Prop} {w : World} {B : Nat} {v : Value} {l : List α} (h : Own (E.avoid D) w B v l) (hD : ∀ k, D k → k < B) : Sl E w D v l := by
  have hlt := h.lt
  obtain ⟨h1, a, c, rfl, h3, h4⟩ := h.sl
  refine ⟨h1, a, c, rfl, h3, fun hn => ?_⟩
  obtain ⟨b, o, rfl, _, h6⟩ := h4 hn
  refine ⟨b, o, rfl, fun hd => ?_, fun i x hx => ?_⟩
  · have := (hlt b rfl).1
    have := hD b hd
    omega
  · obtain ⟨cs, h7, h8⟩ := h6 i x hx
    exact ⟨cs, E.mono h7 (fun k _ hk => .inr hk), h8⟩
theorem Sl.forget {E : El P α} {D G : Nat → Prop} {w : World} {v : Value} {l : List α} (h : Sl (E.avoid D) w G v l) : Sl E w G v l := by
  obtain ⟨h1, a, c, h2, h3, h4⟩ := h
  refine ⟨h1, a, c, h2, h3, fun hn => ?_⟩
  obtain ⟨b, o, h5, hg, h6⟩ := h4 hn
  refine ⟨b, o, h5, hg, fun i x hx => ?_⟩
  obtain ⟨cs, h7, h8⟩ := h6 i x hx
  exact ⟨cs, E.mono h7 (fun k _ hk => .inl hk), h8⟩
theorem RetOwn.forget {E : El P α} {D : Nat → Prop} {w : World} {l : List α} {e : Ending} {w' : World} (h : RetOwn (E.avoid D) w l e w') : RetOwn E w l e w' := by
  obtain ⟨v, rfl, ho, hb⟩ := h
  exact ⟨v, rfl, ho.forget, hb⟩
end
theorem rowsD_at {D : Nat → Prop} {w : World} {G : Nat → Prop} {a : Option Addr} {n c k : Nat} {l : List GRow} {x : GRow} (h : Sl (rowE.avoid D) w G (.slice a n c) l) (hk : l[k]? = some x) :
    ∃ b o a1 n1 e1 m1, a = some ⟨b, o, none⟩ ∧ Sl valE w (fun k => G k ∨ D k) (.slice a1 x.vals.length n1) x.vals ∧ Sl intE w (fun k => G k ∨ D k) (.slice e1 x.lin.length m1) x.lin ∧
      w.cell? ⟨b, o + k * 2, none⟩ = some (.slice a1 x.vals.length n1) ∧ w.cell? ⟨b, o + k * 2 + 1, none⟩ = some (.slice e1 x.lin.length m1) := by
  obtain ⟨b, o, cs, ha, ⟨v, u, rfl, hv, hu⟩, hc⟩ := Sl.at h hk
  obtain ⟨a1, n1, rfl⟩ := hv.shape
  obtain ⟨e1, m1, rfl⟩ := hu.shape
  exact ⟨b, o, a1, n1, e1, m1, ha, hv, hu, hc 0 _ rfl, hc 1 _ rfl⟩
theorem tupsD_at {D : Nat → Prop} {w : World} {G : Nat → Prop} {a : Option Addr} {n c k : Nat} {l : List Tup} {x : Tup} (h : Sl (tupE.avoid D) w G (.slice a n c) l) (hk : l[k]? = some x) :
    ∃ b o a1 n1 e1 m1, a = some ⟨b, o, none⟩ ∧ Sl valE w (fun k => G k ∨ D k) (.slice a1 x.vals.length n1) x.vals ∧ Sl intE w (fun k => G k ∨ D k) (.slice e1 x.lin.length m1) x.lin ∧
      w.cell? ⟨b, o + k * 4, none⟩ = some (.slice a1 x.vals.length n1) ∧ w.cell? ⟨b, o + k * 4 + 1, none⟩ = some (.int .i64 x.lo) ∧ w.cell? ⟨b, o + k * 4 + 2, none⟩ = some (.int .i64 x.hi) ∧ w.cell? ⟨b, o + k * 4 + 3, none⟩ = some (.slice e1 x.lin.length m1) := by
  obtain ⟨b, o, cs, ha, ⟨v, u, rfl, hv, hu⟩, hc⟩ := Sl.at h hk
  obtain ⟨a1, n1, rfl⟩ := hv.shape
  obtain ⟨e1, m1, rfl⟩ := hu.shape
  exact ⟨b, o, a1, n1, e1, m1, ha, hv, hu, hc 0 _ rfl, hc 1 _ rfl, hc 2 _ rfl, hc 3 _ rfl⟩
end Go.Proofs.YtngigmpaabmngaaGreatDoor

namespace Go.Proofs.YtngigmpaabmngaaGreatDoor
open Go.RowKit Go.Lib

set_option maxHeartbeats 8000000 in
set_option maxRecDepth 100000 in
theorem refSort_g {D : Nat → Prop} (n : Nat) : n ≤ 100000 → ∀ (v : Value) (l : List GRow) (w : World), l.length = n → Sl (rowE.avoid D) w free v l → Calls Tryz.prog 92 #[v] w (RetOwn (rowE.avoid D) w (sortR l)) := by
  induction n using Nat.strongRecOn with
  | ind n ih =>
    intro hn v l w hl hv
    obtain ⟨a, c, rfl⟩ := hv.shape
    rw [hl] at hv ⊢
    have HV := Lib.hid hv
    have HN := Lib.hid hl
    by_cases h2 : n < 2
    · have HS : Hid (sortR l = l) := Lib.hid (sortR_short (by omega))
      have g2 : (n : Int) < 2 := by omega
      clear hv hl ih
      go_enter Tryz.func92, Tryz.ntmps92
      go_wp2_with (at_builtin; refine wpList_join rfl (.const (.slice none 0 0)) (.tmp 11) 35 rfl (rowE.avoid D) Tryz.underlying35 w.heap.size (.slice none 0 0) (.slice a n c) [] l rfl rfl (Own.nil _ _ _) (HV.out.mono (fun _ _ h => by simp [Value.ownBlock] at h)) (by have := HN.out; unfold maxLen; simp; omega) (by have := HN.out; show _ * 48 ≤ _; simp; omega) (Nat.le_refl _) n (by have := HN.out; simp; omega) ?_; intro a' c' w' hJ)
      go_ret
      exact ⟨_, rfl, by rw [HS.out]; simpa using hJ.own, hJ.below⟩
    · obtain ⟨k, hk⟩ : ∃ k, k = n / 2 := ⟨_, rfl⟩
      have hcap := hv.cap
      obtain ⟨b, o, rfl⟩ : ∃ b o, a = some ⟨b, o, none⟩ := by
        obtain ⟨b, o, cs, e, _⟩ := Sl.at hv (List.getElem?_eq_getElem (show 0 < l.length by omega))
        exact ⟨b, o, e⟩
      have CA : ∀ W, Below w.heap.size w W → Hid (Calls Tryz.prog 92 #[.slice (some ⟨b, o, none⟩) k c] W (RetOwn (rowE.avoid D) W (sortR (l.take k)))) := fun W hW => ih k (by omega) (by omega) _ _ W (by rw [List.length_take]; omega) ((hv.below hW).takeS (by omega))
      have CB : ∀ W, Below w.heap.size w W → Hid (Calls Tryz.prog 92 #[.slice (some ⟨b, o + k * 2, none⟩) (n - k) (c - k)] W (RetOwn (rowE.avoid D) W (sortR (l.drop k)))) := fun W hW => by
        have h := (hv.below hW).dropS (k := k) (by omega)
        rw [show k * (rowE.avoid D).size = k * 2 from rfl, Option.map_some, Addr.add_lit] at h
        exact ih (n - k) (by omega) (by omega) _ _ W (by rw [List.length_drop]; omega) h
      have HM : Hid (mrg (sortR (l.take k)) (sortR (l.drop k)) = sortR l) := Lib.hid (mrg_sort l k)
      have hA : (sortR (l.take k)).length = k := by rw [sortR_length, List.length_take]; omega
      have hB : (sortR (l.drop k)).length = n - k := by rw [sortR_length, List.length_drop]; omega
      generalize sortR (l.take k) = A at CA HM hA
      generalize sortR (l.drop k) = B at CB HM hB
      generalize sortR l = R at HM ⊢
      obtain ⟨m, hm⟩ : ∃ m, m = n - k := ⟨_, rfl⟩
      rw [← hm] at hB
      have HA := Lib.hid hA
      have HB := Lib.hid hB
      have g2 : ¬ (n : Int) < 2 := by omega
      have gk : (n : Int) / 2 = k := by omega
      have gk2 : Int.tdiv (n : Int) 2 = k := by rw [Int.tdiv_eq_ediv_of_nonneg (by omega)]; omega
      have gk3 : (n : Int) - k = m := by omega
      have gc1 : (k : Int) ≤ c := by omega
      have gc2 : (n : Int) ≤ c := by omega
      have gc3 : (k : Int) ≤ n := by omega
      have gc4 : (0 : Int) ≤ (k : Int) := by omega
      have gk0 : n / 2 = k := hk.symm
      have gn1 : k ≤ c := by omega
      have gw : IntKind.i64.wrap (k : Int) = k := IntWalk.i64_in _ (by omega)
      have gn2 : k ≤ n := by omega
      have gck : ¬ c = k := by omega
      have CA' := Lib.hid CA
      have CB' := Lib.hid CB
      have hbb : Below w.heap.size w w := .refl _ _
      have HMK : Hid (n = k + m) := by show _ = _; omega
      clear hv hl ih CA CB hA hB hk hm
      go_enter Tryz.func92, Tryz.ntmps92
      go_wp2_with fail
      go_region_held3 (fun W => Below w.heap.size w W)
        (first | with_reducible assumption | with_reducible exact Below.drew (by assumption) | with_reducible exact below_keep (by assumption) (by assumption))
        (first
          | (go_at_call 92; (with_reducible refine (CA'.out _ (by first | assumption | exact Below.drew (by assumption))).out.mono ?_); rintro e' wA ⟨va, rfl, hOa, hbA⟩; have hSa := hOa.sl)
          | (go_at_call 92; (with_reducible refine (CB'.out _ (by first | assumption | exact Below.drew (by assumption))).out.mono ?_); rintro e' wB ⟨vb, rfl, hOb, hbB⟩; have hSb := hOb.sl; have hSa' := hSa.below hbB))
      all_goals (
        have HBB : Hid (Below w.heap.size w wB) := Lib.hid (by assumption)
        obtain ⟨aa, ca, rfl⟩ := hOa.shape
        obtain ⟨ab, cb, rfl⟩ := hOb.shape
        rw [HA.out] at hSa' ⊢
        rw [HB.out] at hSb ⊢
        have HSA := Lib.hid hSa'
        have HSB := Lib.hid hSb
        clear hOa hbA hSa hOb hbB hSb hSa' CA' CB' hbb gk gk0 gk2 gk3 gc1 gc2 gc3 gc4 gn1 gn2 gw gck g2 hcap
        go_wp2_with fail
        go_loopw [5, 6, 7] (fun s5 s6 s7 wr => ∃ (i j : Nat) (acc : List GRow), i ≤ k ∧ j ≤ m ∧ s6 = .int .i64 i ∧ s7 = .int .i64 j ∧ Own (rowE.avoid D) wr wB.heap.size s5 acc ∧ Hid (acc ++ mrg (A.drop i) (B.drop j) = R) ∧ Hid (Below wB.heap.size wB wr)) (fun _ s6 s7 _ => (k + m) - ((intOf s6).toNat + (intOf s7).toNat))
        case atStart => exact ⟨0, 0, [], Nat.zero_le _, Nat.zero_le _, rfl, rfl, Own.nil _ _ _, Lib.hid (by rw [List.drop_zero, List.drop_zero, List.nil_append]; exact HM.out), Lib.hid (.refl _ _)⟩
        case round =>
          obtain ⟨i, j, acc, hi, hj, rfl, rfl, hO, HACC, HB2⟩ := hrel
          obtain ⟨wo, rfl⟩ : ∃ wo : World, wo = wr := ⟨_, rfl⟩
          obtain ⟨ao, co, rfl⟩ := hO.shape
          have hal : acc.length + (k - i) + (m - j) = n := by
            have h1 := congrArg List.length HACC.out
            have h2 := congrArg List.length HM.out
            rw [List.length_append, mrg_length, List.length_drop, List.length_drop, HA.out, HB.out] at h1
            rw [mrg_length, HA.out, HB.out, ← h1] at h2
            have := HMK.out
            omega
          have hij1 : i ≤ 100000 := by have := HMK.out; omega
          have hij2 : j ≤ 100000 := by have := HMK.out; omega
          have HO := Lib.hid hO
          clear hO
          by_cases hik : i < k
          · obtain ⟨x, hx⟩ := lget_some A i (by rw [HA.out]; exact hik)
            obtain ⟨bx, ox, a1, n1, e1, m1, rfl, hv1, hu1, p0, p1⟩ := rowsD_at (HSA.out.old (Nat.le_refl _)) hx
            replace p0 := cell_keep HB2.out p0
            replace p1 := cell_keep HB2.out p1
            have HV1 := Lib.hid hv1
            have HU1 := Lib.hid hu1
            have HX := Lib.hid hx
            clear hv1 hu1
            obtain ⟨T, hT⟩ : ∃ T : Bool → Prop, T = fun q => if q = true then (acc ++ [x]) ++ mrg (A.drop (i + 1)) (B.drop j) = R else ∃ y, B[j]? = some y ∧ (acc ++ [y]) ++ mrg (A.drop i) (B.drop (j + 1)) = R := ⟨_, rfl⟩
            have HT := Lib.hid hT
            clear hT
            go_upto_region 7 with fail
            go_cut [56] from 35 to 56 (fun s56 wx => ∃ q : Bool, s56 = .bool q ∧ Hid (T q) ∧ Hid (Below wo.heap.size wo wx))
            case first =>
              by_cases hjm : j < m
              · obtain ⟨y, hy⟩ := lget_some B j (by rw [HB.out]; exact hjm)
                obtain ⟨yb, oy, a2, n2, e2, m2, rfl, hv2, hu2, q0, q1⟩ := rowsD_at (HSB.out.below HB2.out) hy
                have hv1 := HV1.out.below HB2.out
                have hu1 := HU1.out.below HB2.out
                have HLS := fun W (h : Below wo.heap.size wo W) => Lib.hid (less_any y x _ _ _ _ W (hv2.below h).free (hu2.below h).free (hv1.below h).free (hu1.below h).free)
                have HQ : Hid (T (!decide (cmpRow y x < 0))) := by
                  show T _
                  rw [HT.out]
                  by_cases hc : cmpRow y x < 0
                  · simp only [hc, decide_true, Bool.not_true, Bool.false_eq_true, if_false]
                    refine ⟨y, hy, ?_⟩
                    rw [← HACC.out, drop_get hx, drop_get hy, mrg_lt _ _ hc, List.append_assoc]
                    rfl
                  · simp only [hc, decide_false, Bool.not_false, if_true]
                    rw [← HACC.out, drop_get hx, drop_get hy, mrg_ge _ _ hc, List.append_assoc]
                    rfl
                obtain ⟨z, hz⟩ : ∃ z, z = decide (cmpRow y x < 0) := ⟨_, rfl⟩
                rw [← hz] at HLS HQ
                have hne : ((j : Int) == (m : Int)) = false := by rw [beq_eq_false_iff_ne]; omega
                have hbo : Below wo.heap.size wo wo := .refl _ _
                have hik' : (i : Int) < k := by omega
                have hjm' : (j : Int) < m := by omega
                clear hx hy hv1 hu1 hv2 hu2 hz
                go_region_held3 (fun W => Below wo.heap.size wo W ∧ W.cell? ⟨bx, ox + i * 2, none⟩ = some (.slice a1 x.vals.length n1) ∧ W.cell? ⟨bx, ox + i * 2 + 1, none⟩ = some (.slice e1 x.lin.length m1) ∧ W.cell? ⟨yb, oy + j * 2, none⟩ = some (.slice a2 y.vals.length n2) ∧ W.cell? ⟨yb, oy + j * 2 + 1, none⟩ = some (.slice e2 y.lin.length m2))
                  ((go_split_ands; refine ⟨?_, ?_, ?_, ?_, ?_⟩ <;> (first | with_reducible assumption | with_reducible exact Below.drew (by assumption) | with_reducible exact cell_drew (by assumption) | with_reducible exact cell_keep (by assumption) (by assumption) | with_reducible exact below_keep (by assumption) (by assumption))))
                  (first | (go_at_call 128; go_split_ands; refine (HLS _ (by first | assumption | exact Below.drew (by assumption))).out.mono ?_; rintro e' wS ⟨rfl, hbS⟩))
                all_goals (
                  go_split_ands
                  go_wp2_with fail
                  go_meet
                  exact ⟨_, rfl, HQ, Lib.hid (by assumption)⟩)
              · have hjm' : j = m := by omega
                subst hjm'
                have HQ : Hid (T true) := by
                  show T _
                  rw [HT.out]
                  show (if true = true then _ else _)
                  rw [if_pos rfl, ← HACC.out, List.drop_of_length_le (l := B) (by rw [HB.out]; exact Nat.le_refl _), mrg_nil, mrg_nil, drop_get hx, List.append_assoc]
                  rfl
                go_region
                all_goals (
                  go_wp2_with fail
                  go_meet
                  first
                    | exact ⟨_, rfl, HQ, Lib.hid (.refl _ _)⟩
                    | exact ⟨_, rfl, HQ, Lib.hid (Below.refl _ _).drew⟩
                    | exact ⟨_, rfl, HQ, Lib.hid (below_drewN (Below.refl _ _) _)⟩)
            case rest =>
              obtain ⟨q, rfl, HTQ, HBW⟩ := hcut
              have HOX := Lib.hid (HO.out.below HBW.out)
              have HBX : Hid (Below wB.heap.size wB wc) := Lib.hid (HB2.out.trans (HBW.out.mono HB2.out.size))
              cases q
              · have hT := HTQ.out
                rw [HT.out] at hT
                replace hT : ∃ y, B[j]? = some y ∧ (acc ++ [y]) ++ mrg (A.drop i) (B.drop (j + 1)) = R := hT
                obtain ⟨y, hy, hnx⟩ := hT
                have HNX := Lib.hid hnx
                clear hnx hx p0 p1 HV1 HU1 HX HTQ HT
                obtain ⟨yb, oy, a2, n2, e2, m2, rfl, hv2, hu2, q0, q1⟩ := rowsD_at (HSB.out.old (Nat.le_refl _)) hy
                replace q0 := cell_keep HBX.out q0
                replace q1 := cell_keep HBX.out q1
                have hjm : (j : Int) < m := by have := (List.getElem?_eq_some_iff.1 hy).1; rw [HB.out] at this; omega
                have hjm2 : j < m := by omega
                have HIS : Hid (Els (rowE.avoid D) wc (fun jj => some jj = (Value.slice ao acc.length co).ownBlock) [y] [.slice a2 y.vals.length n2, .slice e2 y.lin.length m2]) := Lib.hid (Els.one ⟨_, _, rfl, (hv2.below HBX.out).mono (fun jj _ hh => hh.imp (fun hh => (HOX.out.lt jj hh.symm).1) id), (hu2.below HBX.out).mono (fun jj _ hh => hh.imp (fun hh => (HOX.out.lt jj hh.symm).1) id)⟩)
                clear hv2 hu2 hy
                go_wp2_with (at_builtin; refine wpList_push rfl (.tmp 66) (.tmp 71) 35 rfl (rowE.avoid D) Tryz.underlying35 wB.heap.size (.slice ao acc.length co) acc rfl HOX.out [y] #[.slice a2 y.vals.length n2, .slice e2 y.lin.length m2] HIS.out 1 1 rfl rfl (by decide) (by unfold maxLen; omega) (by show _ * 48 ≤ _; omega) HBX.out.size ?_; intro g cap w5 hP hPa)
                go_roundw
                case rel => exact ⟨i, j + 1, acc ++ [y], by omega, by omega, rfl, by go_num, hP.own' (by simp), HNX, Lib.hid (HBX.out.trans hP.below)⟩
                case measure => simp [intOf]; omega
              · have hT := HTQ.out
                rw [HT.out] at hT
                replace hT : (acc ++ [x]) ++ mrg (A.drop (i + 1)) (B.drop j) = R := hT
                have HNX := Lib.hid hT
                replace p0 := cell_keep HBW.out p0
                replace p1 := cell_keep HBW.out p1
                have hik' : (i : Int) < k := by omega
                have HIS : Hid (Els (rowE.avoid D) wc (fun jj => some jj = (Value.slice ao acc.length co).ownBlock) [x] [.slice a1 x.vals.length n1, .slice e1 x.lin.length m1]) := Lib.hid (Els.one ⟨_, _, rfl, (HV1.out.below HBX.out).mono (fun jj _ hh => hh.imp (fun hh => (HOX.out.lt jj hh.symm).1) id), (HU1.out.below HBX.out).mono (fun jj _ hh => hh.imp (fun hh => (HOX.out.lt jj hh.symm).1) id)⟩)
                clear hT hx HX HTQ HT
                go_wp2_with (at_builtin; refine wpList_push rfl (.tmp 57) (.tmp 62) 35 rfl (rowE.avoid D) Tryz.underlying35 wB.heap.size (.slice ao acc.length co) acc rfl HOX.out [x] #[.slice a1 x.vals.length n1, .slice e1 x.lin.length m1] HIS.out 1 1 rfl rfl (by decide) (by unfold maxLen; omega) (by show _ * 48 ≤ _; omega) HBX.out.size ?_; intro g cap w5 hP hPa)
                go_roundw
                case rel => exact ⟨i + 1, j, acc ++ [x], by omega, hj, by go_num, rfl, hP.own' (by simp), HNX, Lib.hid (HBX.out.trans hP.below)⟩
                case measure => simp [intOf]; omega
          · have hik0 : i = k := by omega
            subst hik0
            by_cases hjm0 : j < m
            · obtain ⟨y, hy⟩ := lget_some B j (by rw [HB.out]; exact hjm0)
              have HNX : Hid ((acc ++ [y]) ++ mrg (A.drop i) (B.drop (j + 1)) = R) := by
                show _ = _
                rw [← HACC.out, List.drop_of_length_le (l := A) (by rw [HA.out]; exact Nat.le_refl _), mrg_nil', mrg_nil', drop_get hy, List.append_assoc]
                rfl
              have hne : ((j : Int) == (m : Int)) = false := by rw [beq_eq_false_iff_ne]; omega
              have hjm1 : (j : Int) < m := by omega
              go_upto_region 7 with fail
              go_cut [56] from 35 to 56 (fun s56 wx => s56 = .bool false ∧ Hid (Below wo.heap.size wo wx))
              case first =>
                go_region
                all_goals (
                  go_wp2_with fail
                  go_meet
                  first
                    | exact ⟨rfl, Lib.hid (.refl _ _)⟩
                    | exact ⟨rfl, Lib.hid (Below.refl _ _).drew⟩
                    | exact ⟨rfl, Lib.hid (below_drewN (Below.refl _ _) _)⟩)
              case rest =>
                obtain ⟨rfl, HBW⟩ := hcut
                have HOX := Lib.hid (HO.out.below HBW.out)
                have HBX : Hid (Below wB.heap.size wB wc) := Lib.hid (HB2.out.trans (HBW.out.mono HB2.out.size))
                obtain ⟨yb, oy, a2, n2, e2, m2, rfl, hv2, hu2, q0, q1⟩ := rowsD_at (HSB.out.old (Nat.le_refl _)) hy
                replace q0 := cell_keep HBX.out q0
                replace q1 := cell_keep HBX.out q1
                have hjm : (j : Int) < m := by have := (List.getElem?_eq_some_iff.1 hy).1; rw [HB.out] at this; omega
                have hjm2 : j < m := by omega
                have HIS : Hid (Els (rowE.avoid D) wc (fun jj => some jj = (Value.slice ao acc.length co).ownBlock) [y] [.slice a2 y.vals.length n2, .slice e2 y.lin.length m2]) := Lib.hid (Els.one ⟨_, _, rfl, (hv2.below HBX.out).mono (fun jj _ hh => hh.imp (fun hh => (HOX.out.lt jj hh.symm).1) id), (hu2.below HBX.out).mono (fun jj _ hh => hh.imp (fun hh => (HOX.out.lt jj hh.symm).1) id)⟩)
                clear hv2 hu2 hy
                go_wp2_with (at_builtin; refine wpList_push rfl (.tmp 66) (.tmp 71) 35 rfl (rowE.avoid D) Tryz.underlying35 wB.heap.size (.slice ao acc.length co) acc rfl HOX.out [y] #[.slice a2 y.vals.length n2, .slice e2 y.lin.length m2] HIS.out 1 1 rfl rfl (by decide) (by unfold maxLen; omega) (by show _ * 48 ≤ _; omega) HBX.out.size ?_; intro g cap w5 hP hPa)
                go_roundw
                case rel => exact ⟨i, j + 1, acc ++ [y], by omega, by omega, rfl, by go_num, hP.own' (by simp), HNX, Lib.hid (HBX.out.trans hP.below)⟩
                case measure => simp [intOf]; omega
            · have hjm1 : j = m := by omega
              subst hjm1
              have HE : Hid (acc = R) := by
                show _ = _
                rw [← HACC.out, List.drop_of_length_le (l := A) (by rw [HA.out]; exact Nat.le_refl _), List.drop_of_length_le (l := B) (by rw [HB.out]; exact Nat.le_refl _), mrg_nil', List.append_nil]
              go_wp2_with fail
              go_ret
              exact ⟨_, rfl, HE.out ▸ HO.out.mono HBB.out.size, HBB.out.trans (HB2.out.mono HBB.out.size)⟩)
theorem refSort_all (n : Nat) (hn : n ≤ 100000) (v : Value) (l : List GRow) (w : World) (hl : l.length = n) (hv : Sl rowE w free v l) : Calls Tryz.prog 92 #[v] w (RetOwn rowE w (sortR l)) :=
  (refSort_g n hn v l w hl hv.toD).mono fun _ _ h => h.forget
end Go.Proofs.YtngigmpaabmngaaGreatDoor

namespace Go.Proofs.YtngigmpaabmngaaGreatDoor
open Go.RowKit Go.Lib

theorem runStep_bound {out : List GRun} {r : GRow} {c : Nat} (h : ∀ g ∈ out, g.n ≤ c ∧ g.lin.length ≤ c * 1000) (hr : r.lin.length ≤ 1000) : ∀ g ∈ runStep out r, g.n ≤ c + 1 ∧ g.lin.length ≤ (c + 1) * 1000 := by
  intro g hg
  unfold runStep at hg
  cases e : out.getLast? with
  | none =>
    rw [e] at hg
    dsimp only at hg
    rcases List.mem_append.1 hg with hg | hg
    · have := h g hg; omega
    · simp at hg
      subst hg
      have := mergeL_length [] r.lin
      simp only [List.length_nil] at this
      exact ⟨by dsimp only; omega, by dsimp only; omega⟩
  | some z =>
    rw [e] at hg
    dsimp only at hg
    have hz := h z (List.mem_of_getLast? e)
    split at hg
    · rcases List.mem_append.1 hg with hg | hg
      · have := h g ((List.dropLast_sublist _).subset hg); omega
      · simp at hg
        subst hg
        have := mergeL_length z.lin r.lin
        exact ⟨by dsimp only; omega, by dsimp only; omega⟩
    · rcases List.mem_append.1 hg with hg | hg
      · have := h g hg; omega
      · simp at hg
        subst hg
        have := mergeL_length [] r.lin
        simp only [List.length_nil] at this
        exact ⟨by dsimp only; omega, by dsimp only; omega⟩
theorem runStep_len (out : List GRun) (r : GRow) : (runStep out r).length ≤ out.length + 1 := by
  unfold runStep
  split
  · split
    · rw [List.length_append, List.length_dropLast, List.length_singleton]; omega
    · rw [List.length_append]; exact Nat.le_refl _
  · rw [List.length_append]; exact Nat.le_refl _
theorem runs_bound : ∀ (l : List GRow) (out : List GRun) (c : Nat), (∀ x ∈ l, x.lin.length ≤ 1000) → (∀ g ∈ out, g.n ≤ c ∧ g.lin.length ≤ c * 1000) → out.length ≤ c →
    (∀ g ∈ l.foldl runStep out, g.n ≤ c + l.length ∧ g.lin.length ≤ (c + l.length) * 1000) ∧ (l.foldl runStep out).length ≤ c + l.length
  | [], out, c, _, h, hc => ⟨h, hc⟩
  | r :: l, out, c, hl, h, hc => by
    have := runs_bound l (runStep out r) (c + 1) (fun x hx => hl x (List.mem_cons_of_mem _ hx)) (runStep_bound h (hl r (List.mem_cons_self ..))) (Nat.le_trans (runStep_len out r) (Nat.succ_le_succ hc))
    rw [List.foldl_cons, List.length_cons]
    rw [show c + (l.length + 1) = c + 1 + l.length by omega]
    exact this
theorem reg_below {o : Option Nat} {p i : Nat} {w W W' : World} (h : Reg o p i w W) (hb : Below W.heap.size W W') : Reg o p i w W' := ⟨h.kept.trans (.of_below hb), vAt_keep hb h.cell, frozen_keep hb h.cell h.frz⟩
/-- Whether a new run begins. -/
def newQ (rs : List GRun) (xv : List GVal) : Bool :=
  match rs.getLast? with
  | some g => cmpRows g.vals xv != 0
  | none => true
theorem newQ_snoc (rs : List GRun) (g : GRun) (xv : List GVal) : newQ (rs ++ [g]) xv = (cmpRows g.vals xv != 0) := by
  unfold newQ
  rw [List.getLast?_append, List.getLast?_singleton]
  rfl
theorem runStep_newQ {rs : List GRun} {x : GRow} (h : newQ rs x.vals = true) : runStep rs x = rs ++ [⟨x.vals, 1, mergeL [] x.lin⟩] :=
  runStep_new fun g hg => by
    unfold newQ at h
    rw [hg] at h
    simpa using h
set_option maxHeartbeats 16000000 in
set_option maxRecDepth 100000 in
theorem rruns_any {D : Nat → Prop} (v : Value) (l : List GRow) (w : World) (hD : ∀ k, D k → k < w.heap.size) (hv : Sl (rowE.avoid D) w free v l) (hl : l.length ≤ 1000) (hs : ∀ x ∈ l, x.lin.length ≤ 1000) :
    Calls Tryz.prog 94 #[v] w (RetOwn (runE.avoid D) w (runsL (sortR l))) := by
  have HSR := Lib.hid (refSort_g l.length (by omega) v l w rfl hv)
  have HDW := Lib.hid hD
  obtain ⟨a, c, rfl⟩ := hv.shape
  have hsl := sortR_length l
  have hrl : ∀ x ∈ sortR l, x.lin.length ≤ 1000 := fun x hx => hs x ((sortR_perm _).mem_iff.1 hx)
  obtain ⟨S, hS⟩ : ∃ S, S = sortR l := ⟨_, rfl⟩
  rw [← hS] at HSR hsl hrl ⊢
  have HRL := Lib.hid hrl
  generalize l.length = n0 at HSR hsl hl ⊢
  obtain ⟨n, hn⟩ : ∃ n, n = S.length := ⟨_, rfl⟩
  have HN := Lib.hid hn
  have hn1 : n ≤ 1000 := by omega
  clear hv hs hS hrl hn hsl hD
  go_enter Tryz.func94, Tryz.ntmps94
  go_wp2_with fail
  refine HSR.out.mono ?_
  rintro _ w1 ⟨vS, rfl, hOS, hb1⟩
  obtain ⟨aS, cS, rfl⟩ := hOS.shape
  have hS1 := hOS.sl.old (Nat.le_refl w1.heap.size)
  rw [← HN.out] at hS1 ⊢
  have HS1 := Lib.hid hS1
  have HB1 := Lib.hid hb1
  clear hOS hb1 hS1 HSR
  go_wp2_with fail
  go_loopw [10, 3] (fun i o wr => ∃ (j : Nat) (lv : Value), j ≤ n ∧ i = .int .i64 j ∧ Own ((runE.avoid D).avoid fun k => lv.ownBlock = some k) wr w1.heap.size o (runsL (S.take j)) ∧ Hid (LastR wr w1.heap.size o lv (runsL (S.take j))) ∧ Hid (∀ k, lv.ownBlock = some k → w1.heap.size ≤ k ∧ k < wr.heap.size) ∧ Hid (Below w1.heap.size w1 wr)) (fun i _ _ => n - (RowKit.intOf i).toNat)
  case atStart => exact ⟨0, .slice none 0 0, Nat.zero_le _, rfl, Own.nil _ _ _, Lib.hid (fun rs0 g e => by have := congrArg List.length e; simp [runsL] at this), Lib.hid (fun k e => by cases e), Lib.hid (.refl _ _)⟩
  case round =>
    obtain ⟨j, lv, hj, rfl, hO, HLA, HLV, HB⟩ := hrel
    obtain ⟨wo, rfl⟩ : ∃ wo : World, wo = wr := ⟨_, rfl⟩
    by_cases hlt : j < n
    · obtain ⟨x, hx⟩ := lget_some S j (by rw [← HN.out]; exact hlt)
      have hxl := HRL.out x (List.mem_of_getElem? hx)
      obtain ⟨b, o, a1, n1, e1, m1, rfl, hvv, hll, p0, p1⟩ := rowsD_at (HS1.out.below HB.out) hx
      have HSTEP := Lib.hid (runsL_snoc hx)
      obtain ⟨hbd, hrl⟩ := runs_bound (S.take j) [] 0 (fun x hx => HRL.out x (List.mem_of_mem_take hx)) (by simp) (Nat.le_refl _)
      have hjl : (S.take j).length ≤ 1000 := by rw [List.length_take]; omega
      obtain ⟨rs, hrs⟩ : ∃ rs, rs = runsL (S.take j) := ⟨_, rfl⟩
      have hbd' : ∀ g ∈ rs, g.n ≤ 1000 ∧ g.lin.length ≤ 1000000 := fun g hg => by
        have := hbd g (by rw [hrs] at hg; exact hg)
        rw [Nat.zero_add] at this
        exact ⟨by omega, Nat.le_trans this.2 (Nat.mul_le_mul_right 1000 hjl)⟩
      have hrl' : rs.length ≤ 1000 := by rw [hrs]; exact Nat.le_trans hrl (by omega)
      rw [← hrs] at hO HLA HSTEP
      have HBD := Lib.hid hbd'
      obtain ⟨xv, xl⟩ := x
      dsimp only at hxl hvv hll p0 p1
      obtain ⟨oa, oc, rfl⟩ := hO.shape
      obtain ⟨ml, hml⟩ : ∃ m, m = rs.length := ⟨_, rfl⟩
      have HML := Lib.hid hml
      rw [← hml] at hO HLA hrl' ⊢
      obtain ⟨wA, hwA⟩ : ∃ wA, wA = wo.alloc (.cells #[.slice a1 xv.length n1, .slice e1 xl.length m1] 39) := ⟨_, rfl⟩
      have hbA : Below wo.heap.size wo wA := by rw [hwA]; exact below_alloc _ _
      have hgA : wA.heap[wo.heap.size]? = some (.cells #[.slice a1 xv.length n1, .slice e1 xl.length m1] 39 (0, 0)) := by rw [hwA]; exact World.alloc_heap_new _ _
      have HVV := Lib.hid (hvv.below hbA)
      have HLL := Lib.hid (hll.below hbA)
      have HOA := Lib.hid (hO.below hbA)
      have HLAA := Lib.hid (HLA.out.below hbA)
      have HBA := Lib.hid (below_keep HB.out hbA)
      have HVO := Lib.hid (fun k (e : (Value.slice oa ml oc).ownBlock = some k) => hO.lt k e)
      have HWA := Lib.hid hwA
      have HGA := Lib.hid hgA
      generalize hnx : xv.length = nx at p0 HVV HGA HWA ⊢
      generalize hny : xl.length = ny at p1 HLL HGA HWA hxl ⊢
      have HZA : Hid (wA.heap.size = wo.heap.size + 1) := Lib.hid (by rw [HWA.out, World.size_alloc])
      clear hx hvv hll hbd hrl hjl hrs hbd' hwA hbA hgA hO HLA hnx hny hml
      go_upto_region 6 with fail
      rw [← HWA.out]
      obtain ⟨K, hK⟩ : ∃ K : Int, K = (ml : Int) - 1 := ⟨_, rfl⟩
      rw [← hK]
      have HKK := Lib.hid hK
      clear hK p0 p1
      go_cut [29] (fun s wx => s = .bool (newQ rs xv) ∧ Hid (Below wA.heap.size wA wx))
      case first =>
        rcases List.eq_nil_or_concat rs with h0 | ⟨rs0, g, h0⟩
        · subst h0
          have hk1 := HKK.out
          have hk2 := HML.out
          rw [List.length_nil] at hk2
          obtain rfl : K = -1 := by omega
          clear hk1 hk2
          have hbb : Below wA.heap.size wA wA := .refl _ _
          refine wp_region_held_drew (S := (fun W => Below wA.heap.size wA W)) (by kernel_rfl) ?_ (fun hHeld => ?_)
          · (try dsimp only)
            (first | with_reducible assumption | with_reducible exact Below.drew (by assumption))
          refine take_y (i := 0) (d := some 17) (v := ?_) rfl rfl (by kernel_rfl) (by kernel_rfl) (by kernel_rfl) (fun _ _ _ h => h) (by assumption) ?_ ?_
          rotate_left
          · intro oi ho
            simp only [List.getElem?_toArray, List.getElem?_cons_zero, Option.some.injEq] at ho
            subst ho
            intro w hSw
            (try dsimp only at hSw)
            go_simp
            (try with_reducible rfl)
          (try simp only [Act.put, List.setIfInBounds_toArray, List.set_cons_zero, List.set_cons_succ])
          refine take_y (i := 1) (d := some 18) (v := ?_) rfl rfl (by kernel_rfl) (by kernel_rfl) (by kernel_rfl) (fun _ _ _ h => h) (by assumption) ?_ ?_
          rotate_left
          · intro oi ho
            simp only [List.getElem?_toArray, List.getElem?_cons_succ, List.getElem?_cons_zero, Option.some.injEq] at ho
            subst ho
            intro w hSw
            (try dsimp only at hSw)
            go_simp
            (try with_reducible rfl)
          (try simp only [Act.put, List.setIfInBounds_toArray, List.set_cons_zero, List.set_cons_succ])
          refine take_y (i := 2) (d := some 19) (v := ?_) rfl rfl (by kernel_rfl) (by kernel_rfl) (by kernel_rfl) (fun _ _ _ h => h) (by assumption) ?_ ?_
          rotate_left
          · intro oi ho
            simp only [List.getElem?_toArray, List.getElem?_cons_succ, List.getElem?_cons_zero, Option.some.injEq] at ho
            subst ho
            intro w hSw
            (try dsimp only at hSw)
            go_simp
            (try with_reducible rfl)
          (try simp only [Act.put, List.setIfInBounds_toArray, List.set_cons_zero, List.set_cons_succ])
          refine take_n (i := 3) (d := some 20) rfl rfl (by kernel_rfl) (by kernel_rfl) (by kernel_rfl) (fun _ _ _ h => h) (by assumption) ?_
          (try simp only [Act.put, List.setIfInBounds_toArray, List.set_cons_zero, List.set_cons_succ])
          refine take_n (i := 4) (d := some 21) rfl rfl (by kernel_rfl) (by kernel_rfl) (by kernel_rfl) (fun _ _ _ h => h) (by assumption) ?_
          (try simp only [Act.put, List.setIfInBounds_toArray, List.set_cons_zero, List.set_cons_succ])
          refine take_n (i := 5) (d := some 22) rfl rfl (by kernel_rfl) (by kernel_rfl) (by kernel_rfl) (fun _ _ _ h => h) (by assumption) ?_
          (try simp only [Act.put, List.setIfInBounds_toArray, List.set_cons_zero, List.set_cons_succ])
          refine take_n (i := 6) (d := some 23) rfl rfl (by kernel_rfl) (by kernel_rfl) (by kernel_rfl) (fun _ _ _ h => h) (by assumption) ?_
          (try simp only [Act.put, List.setIfInBounds_toArray, List.set_cons_zero, List.set_cons_succ])
          refine take_n (i := 7) (d := some 24) rfl rfl (by kernel_rfl) (by kernel_rfl) (by kernel_rfl) (fun _ _ _ h => h) (by assumption) ?_
          (try simp only [Act.put, List.setIfInBounds_toArray, List.set_cons_zero, List.set_cons_succ])
          refine take_n (i := 8) (d := some 25) rfl rfl (by kernel_rfl) (by kernel_rfl) (by kernel_rfl) (fun _ _ _ h => h) (by assumption) ?_
          (try simp only [Act.put, List.setIfInBounds_toArray, List.set_cons_zero, List.set_cons_succ])
          refine take_n (i := 9) (d := some 26) rfl rfl (by kernel_rfl) (by kernel_rfl) (by kernel_rfl) (fun _ _ _ h => h) (by assumption) ?_
          (try simp only [Act.put, List.setIfInBounds_toArray, List.set_cons_zero, List.set_cons_succ])
          refine take_n (i := 10) (d := some 27) rfl rfl (by kernel_rfl) (by kernel_rfl) (by kernel_rfl) (fun _ _ _ h => h) (by assumption) ?_
          (try simp only [Act.put, List.setIfInBounds_toArray, List.set_cons_zero, List.set_cons_succ])
          refine take_n (i := 11) (d := some 28) rfl rfl (by kernel_rfl) (by kernel_rfl) (by kernel_rfl) (fun _ _ _ h => h) (by assumption) ?_
          (try simp only [Act.put, List.setIfInBounds_toArray, List.set_cons_zero, List.set_cons_succ])
          refine take_y (i := 12) (d := some 29) (v := ?_) rfl rfl (by kernel_rfl) (by kernel_rfl) (by kernel_rfl) (fun _ _ _ h => h) (by assumption) ?_ ?_
          rotate_left
          · intro oi ho
            simp only [List.getElem?_toArray, List.getElem?_cons_succ, List.getElem?_cons_zero, Option.some.injEq] at ho
            subst ho
            intro w hSw
            (try dsimp only at hSw)
            go_simp
            (try with_reducible rfl)
          (try simp only [Act.put, List.setIfInBounds_toArray, List.set_cons_zero, List.set_cons_succ])
          refine wpAnyH_done (by kernel_rfl) ?_ _
          go_wp2_with fail
          go_meet
          exact ⟨rfl, Lib.hid (Below.refl _ _).drew⟩
        · rw [List.concat_eq_append] at h0
          subst h0
          have hk1 := HKK.out
          have hk2 := HML.out
          rw [List.length_append, List.length_singleton] at hk2
          obtain ⟨m0, hm0⟩ : ∃ m, m = rs0.length := ⟨_, rfl⟩
          obtain rfl : K = (m0 : Int) := by omega
          obtain ⟨gb, cap, ra, rc, rows, _, hoe, _, _, _, _⟩ := HLAA.out rs0 g rfl
          obtain ⟨e1', e2', e3'⟩ := Value.slice.inj hoe
          subst e1'
          subst e3'
          have hOg := HOA.out
          have hgl : (rs0 ++ [g])[m0]? = some g := by rw [hm0, List.getElem?_append_right (Nat.le_refl _), Nat.sub_self]; rfl
          obtain ⟨gv, ga, gc, gu, _, hgv, _, c0, _, _⟩ := run_at hOg hgl
          obtain ⟨va, vc, rfl⟩ := hgv.shape
          have HCM := Lib.hid (fun W (h : Below wA.heap.size wA W) => cmpRows_any _ (.slice a1 nx n1) g.vals xv W (hgv.below h).free.vals (HVV.out.below h).free.vals)
          have hml : m0 < ml := by omega
          have hmi : (m0 : Int) < (ml : Int) := by omega
          obtain ⟨d0, d1, _, _⟩ := box_two HGA.out
          generalize g.vals.length = ngv at c0 HCM ⊢
          generalize hz : cmpRows g.vals xv = z at HCM
          have HZ := Lib.hid hz
          clear hz
          have hm00 : ¬ (m0 : Int) < 0 := by omega
          have hbb : Below wA.heap.size wA wA := .refl _ _
          have HCM2 := Lib.hid (HCM.out wA.drew (Below.refl _ _).drew)
          clear hk1 hk2 hm0 hoe hOg hgl hgv HCM e2'
          go_region_held3 (fun W => Below wA.heap.size wA W ∧ W.cell? ⟨gb, m0 * 3, none⟩ = some (.slice va ngv vc) ∧ W.cell? ⟨wo.heap.size, 0, none⟩ = some (.slice a1 nx n1))
            ((go_split_ands; refine (fun hBB => ⟨hBB, cell_keep hBB c0, cell_keep hBB d0⟩) ?_; first | with_reducible assumption | with_reducible exact Below.drew (by assumption)))
            (first | (go_at_call 26; (with_reducible refine HCM2.out.mono ?_); rintro e' wK ⟨rfl, hbK⟩; have hBK : Below wA.heap.size wA wK := (Below.refl wA.heap.size wA).drew.trans hbK))
          all_goals (go_wp2_with fail; go_meet; exact ⟨by rw [newQ_snoc, HZ.out], Lib.hid hBK⟩)
      case rest =>
        obtain ⟨hs29, HBX⟩ := hcut
        obtain ⟨q, hq⟩ : ∃ q, q = newQ rs xv := ⟨_, rfl⟩
        rw [← hq] at hs29
        subst hs29
        have HQ := Lib.hid hq
        have HOC := Lib.hid (HOA.out.below HBX.out)
        have HLC := Lib.hid (HLAA.out.below HBX.out)
        have HVC := Lib.hid (HVV.out.below HBX.out)
        have HGC := Lib.hid (box_kept HGA.out HBX.out)
        have HBC : Hid (Below w1.heap.size wA wc) := Lib.hid (HBX.out.mono HBA.out.size)
        have hzw : w1.heap.size ≤ wc.heap.size := Nat.le_trans HBA.out.size HBX.out.size
        have hzc : wo.heap.size < wc.heap.size := by have := HZA.out; have := HBX.out.size; omega
        have hKb : -1 ≤ K ∧ K ≤ 1000 := by have := HKK.out; omega
        clear hq HOA HLAA HGA
        go_upto_if 29 with fail
        go_cut [3, 6] (fun o k wx => ∃ (rs0 : List GRun) (gv : List GVal) (nn : Nat) (gl : List Int) (gb cap : Nat) (ra : Option Addr) (rc : Nat) (rows : List Unit), k = .int .i64 (rs0.length : Nat) ∧ o = .slice (some ⟨gb, 0, none⟩) (rs0.length + 1) cap ∧ rs0.length ≤ 1000 ∧ nn ≤ 1000 ∧ gl.length ≤ 1000000 ∧ Hid (Own ((runE.avoid D).avoid fun k => (Value.slice ra nn rc).ownBlock = some k) wx w1.heap.size (.slice (some ⟨gb, 0, none⟩) (rs0.length + 1) cap) (rs0 ++ [⟨gv, nn, gl⟩])) ∧ wx.cell? ⟨gb, rs0.length * 3 + 1, none⟩ = some (.slice ra nn rc) ∧ Hid (Own rowX wx w1.heap.size (.slice ra nn rc) rows) ∧ Hid (rows.length = nn) ∧ Hid (Apart (.slice (some ⟨gb, 0, none⟩) (rs0.length + 1) cap) (.slice ra nn rc)) ∧ Hid (wx.heap[wo.heap.size]? = some (.cells #[.slice a1 nx n1, .slice e1 ny m1] 39 (0, 0))) ∧ Hid (Below w1.heap.size wA wx) ∧ Hid (gb ≠ wo.heap.size) ∧ Hid ((Value.slice ra nn rc).ownBlock ≠ some wo.heap.size) ∧ Hid (runsL (S.take (j + 1)) = rs0 ++ [⟨gv, nn + 1, mergeL gl xl⟩]))
        case first =>
          cases q
          · rcases List.eq_nil_or_concat rs with h0 | ⟨rs0, g, h0⟩
            · subst h0
              exact Bool.noConfusion (show false = true from HQ.out)
            · rw [List.concat_eq_append] at h0
              subst h0
              obtain ⟨gb, cap, ra, rc, rows, hlv, hoe, hce, hrw, hrl, hap⟩ := HLC.out rs0 g rfl
              obtain ⟨e1', e2', e3'⟩ := Value.slice.inj hoe
              subst e1'
              subst e2'
              subst e3'
              subst hlv
              have hg := HBD.out g (by simp)
              have hcmp : cmpRows g.vals xv = 0 := by
                have := HQ.out
                rw [newQ_snoc] at this
                simpa using this.symm
              have hFI : runsL (S.take (j + 1)) = rs0 ++ [⟨g.vals, g.n + 1, mergeL g.lin xl⟩] := by rw [HSTEP.out, runStep_same hcmp]
              have HK2 : Hid (Value.int .i64 K = .int .i64 (rs0.length : Nat)) := Lib.hid (by
                have := HKK.out
                congr 1
                omega)
              have hl0 : rs0.length ≤ 1000 := by omega
              have hb1 : gb ≠ wo.heap.size := fun e => by have := (HVO.out gb rfl).2; omega
              have hb2 : (Value.slice ra g.n rc).ownBlock ≠ some wo.heap.size := fun e => by have := (HLV.out _ e).2; omega
              have HOC2 := Lib.hid HOC.out
              clear hoe HML HKK
              go_wp2_with fail
              go_meet
              exact ⟨rs0, g.vals, g.n, g.lin, gb, oc, ra, rc, rows, HK2.out, rfl, hl0, hg.1, hg.2, HOC2, hce, Lib.hid hrw, Lib.hid hrl, Lib.hid hap, HGC, HBC, Lib.hid hb1, Lib.hid hb2, Lib.hid hFI⟩
          · obtain ⟨d0, d1, _, _⟩ := box_two HGC.out
            have HELS : Hid (Els ((runE.avoid D).avoid fun k => lv.ownBlock = some k) wc (fun k => some k = (Value.slice oa ml oc).ownBlock) [⟨xv, 0, []⟩] [.slice a1 nx n1, .slice none 0 0, .slice none 0 0]) := Lib.hid (Els.one ⟨_, none, 0, _, rfl, fun _ => ⟨rfl, rfl⟩, HVC.out.mono (fun k _ hk => by
              rcases hk with (hk | hk) | hk
              · exact .inl (HVO.out k hk.symm).1
              · exact .inl (HLV.out k hk).1
              · exact .inr hk), Sl.nil _ _ _ _ _⟩)
            have hml2 : rs.length ≤ 1000 := by have := HML.out; omega
            have hK2 : ∀ W : World, True := fun _ => trivial
            have hKK : K + 1 = (rs.length : Int) := by have := HKK.out; have := HML.out; omega
            have HKP := Lib.hid hKK
            clear hK2 hKK
            go_wp2_with (at_builtin; refine wpList_push rfl (.tmp 30) (.tmp 34) 121 rfl ((runE.avoid D).avoid fun k => lv.ownBlock = some k) Tryz.underlying121 w1.heap.size (.slice oa ml oc) rs rfl HOC.out [⟨xv, 0, []⟩] #[.slice a1 nx n1, .slice none 0 0, .slice none 0 0] HELS.out 1 1 rfl rfl (by decide) (by unfold maxLen; omega) (by show _ * 72 ≤ _; omega) hzw ?_; intro g cap w5 hP hPa)
            have hO5 := hP.own' (n := rs.length + 1) (by simp)
            have hO6 : Own ((runE.avoid D).avoid fun k => (Value.slice none 0 0).ownBlock = some k) w5 w1.heap.size (.slice (some ⟨g, 0, none⟩) (rs.length + 1) cap) (rs ++ [⟨xv, 0, []⟩]) := hO5.move (K := fun _ => False) ⟨Nat.le_refl _, fun _ _ _ => rfl⟩ (fun _ _ h => h.elim) (fun _ _ h => h) (fun k _ h => by cases h)
            obtain ⟨_, ra, rc, _, hr0, _, _, _, hcl, _⟩ := run_at hO6 (k := rs.length) (x := ⟨xv, 0, []⟩) (by rw [List.getElem?_append_right (Nat.le_refl _), Nat.sub_self]; rfl)
            obtain ⟨rfl, rfl⟩ := hr0 rfl
            have hnb : some wo.heap.size ≠ (Value.slice oa ml oc).ownBlock := fun e => by have := (HVO.out _ e.symm).2; omega
            have hFI : runsL (S.take (j + 1)) = rs ++ [⟨xv, 0 + 1, mergeL [] xl⟩] := by rw [HSTEP.out, runStep_newQ HQ.out.symm]
            have hK3 : Value.int .i64 (K + 1) = .int .i64 (rs.length : Nat) := by rw [HKP.out]
            go_meet
            exact ⟨rs, xv, 0, [], g, cap, none, 0, [], hK3, rfl, hml2, by omega, by simp, Lib.hid hO6, hcl, Lib.hid (Own.nil _ _ _), Lib.hid rfl, Lib.hid (apart_none _).symm, Lib.hid (hP.block hnb HGC.out), Lib.hid (HBC.out.trans hP.below), Lib.hid (hP.ne hnb hzc).symm, Lib.hid (fun e => by cases e), Lib.hid hFI⟩
        case rest =>
          obtain ⟨rs0, gv, nn, gl, gb, cap, ra, rc, rows, rfl, rfl, hl0, hnn, hgl, HOM, hcM, HRW, HRL, HAP, HGM, HBM, HGB, HRB, HFI⟩ := hcut
          have hnr := HRL.out
          subst hnr
          obtain ⟨m0, hm0⟩ : ∃ m, m = rs0.length := ⟨_, rfl⟩
          have HM0 := Lib.hid hm0
          rw [← hm0] at hcM hl0 HOM HAP ⊢
          obtain ⟨nn, hnn2⟩ : ∃ m, m = rows.length := ⟨_, rfl⟩
          have HNN := Lib.hid hnn2
          rw [← hnn2] at hcM hnn HOM HRW HAP HRB HFI
          have HNC : Hid ((Value.slice ra nn rc).ownBlock ≠ some gb) := Lib.hid (HAP.out gb rfl)
          have hfe : wc.frozen? ⟨gb, m0 * 3 + 1, none⟩ = false := HOM.out.frozen (by rw [List.length_append, HM0.out]; rfl) _
          have HKB : Hid (∀ W, Kept (fun m => some m = (Value.slice ra nn rc).ownBlock ∨ m = gb) wc W → W.cell? ⟨wo.heap.size, 0, none⟩ = some (.slice a1 nx n1) ∧ W.cell? ⟨wo.heap.size, 1, none⟩ = some (.slice e1 ny m1)) := Lib.hid (fun W hW => by
            obtain ⟨e0, e1', _, _⟩ := box_two HGM.out
            have hbx : ¬ (some wo.heap.size = (Value.slice ra nn rc).ownBlock ∨ wo.heap.size = gb) := fun e => e.elim (fun e => HRB.out e.symm) (fun e => HGB.out e.symm)
            exact ⟨hW.cell hbx e0, hW.cell hbx e1'⟩)
          obtain ⟨d0, d1⟩ := HKB.out wc (Reg.refl hcM hfe).kept
          have hbb : Reg (Value.slice ra nn rc).ownBlock gb (m0 * 3 + 1) wc wc := Reg.refl hcM hfe
          have f9 := cell_alloc (o := .cells #[.slice a1 nx n1, .slice e1 ny m1] 39) hcM
          have hzw2 : w1.heap.size ≤ wc.heap.size := Nat.le_trans HBA.out.size HBM.out.size
          have hm1 : (m0 : Int) < ((m0 + 1 : Nat) : Int) := by omega
          have hm2 : m0 < m0 + 1 := Nat.lt_succ_self _
          have hm3 : (m0 : Int) < (m0 : Int) + 1 := by omega
          clear hm0 hnn2 HAP
          go_upto_region 9 with fail
          go_cut [3] (fun o wx => o = .slice (some ⟨gb, 0, none⟩) (m0 + 1) cap ∧ ∃ (gg cap2 : Nat), Hid (Own ((runE.avoid D).avoid fun k => some gg = some k) wx w1.heap.size (.slice (some ⟨gb, 0, none⟩) (m0 + 1) cap) (rs0 ++ [⟨gv, nn + 1, gl⟩])) ∧ wx.cell? ⟨gb, m0 * 3 + 1, none⟩ = some (.slice (some ⟨gg, 0, none⟩) (nn + 1) cap2) ∧ Hid (Own rowX wx w1.heap.size (.slice (some ⟨gg, 0, none⟩) (nn + 1) cap2) (rows ++ [()])) ∧ Hid (gb ≠ gg) ∧ Hid (wx.heap[wo.heap.size]? = some (.cells #[.slice a1 nx n1, .slice e1 ny m1] 39 (0, 0))) ∧ Hid (Below w1.heap.size wA wx))
          case first =>
            refine wp_region_held_drew (S := (fun W => Reg (Value.slice ra nn rc).ownBlock gb (m0 * 3 + 1) wc W ∧ W.cell? ⟨wo.heap.size, 0, none⟩ = some (.slice a1 nx n1) ∧ W.cell? ⟨wo.heap.size, 1, none⟩ = some (.slice e1 ny m1))) (by kernel_rfl) ?_ (fun hHeld => ?_)
            · (try dsimp only)
              (go_split_ands; refine (fun hR => ⟨hR, HKB.out _ hR.kept⟩) ?_; first | with_reducible assumption | with_reducible exact reg_drew (by assumption) | with_reducible exact reg_alloc (by assumption) | with_reducible exact reg_drew (reg_alloc (by assumption)) | with_reducible exact reg_alloc (reg_drew (by assumption)) | with_reducible exact reg_set (by assumption))
            refine take_y (i := 0) (d := some 38) (v := ?_) rfl rfl (by kernel_rfl) (by kernel_rfl) (by kernel_rfl) (fun _ _ _ h => h) (by assumption) ?_ ?_
            rotate_left
            · intro oi ho
              simp only [List.getElem?_toArray, List.getElem?_cons_zero, Option.some.injEq] at ho
              subst ho
              intro w hSw
              (try dsimp only at hSw)
              go_simp
              (try with_reducible rfl)
            (try simp only [Act.put, List.setIfInBounds_toArray, List.set_cons_zero, List.set_cons_succ])
            refine take_y (i := 1) (d := some 39) (v := ?_) rfl rfl (by kernel_rfl) (by kernel_rfl) (by kernel_rfl) (fun _ _ _ h => h) (by assumption) ?_ ?_
            rotate_left
            · intro oi ho
              simp only [List.getElem?_toArray, List.getElem?_cons_succ, List.getElem?_cons_zero, Option.some.injEq] at ho
              subst ho
              intro w hSw
              (try dsimp only at hSw)
              go_simp
              (try with_reducible rfl)
            (try simp only [Act.put, List.setIfInBounds_toArray, List.set_cons_zero, List.set_cons_succ])
            refine take_y (i := 2) (d := some 40) (v := ?_) rfl rfl (by kernel_rfl) (by kernel_rfl) (by kernel_rfl) (fun _ _ _ h => h) (by assumption) ?_ ?_
            rotate_left
            · intro oi ho
              simp only [List.getElem?_toArray, List.getElem?_cons_succ, List.getElem?_cons_zero, Option.some.injEq] at ho
              subst ho
              intro w hSw
              (try dsimp only at hSw)
              go_simp
              (try with_reducible rfl)
            (try simp only [Act.put, List.setIfInBounds_toArray, List.set_cons_zero, List.set_cons_succ])
            refine take_y (i := 3) (d := some 41) (v := ?_) rfl rfl (by kernel_rfl) (by kernel_rfl) (by kernel_rfl) (fun _ _ _ h => h) (by assumption) ?_ ?_
            rotate_left
            · intro oi ho
              simp only [List.getElem?_toArray, List.getElem?_cons_succ, List.getElem?_cons_zero, Option.some.injEq] at ho
              subst ho
              intro w hSw
              (try dsimp only at hSw)
              go_simp
              (try with_reducible rfl)
            (try simp only [Act.put, List.setIfInBounds_toArray, List.set_cons_zero, List.set_cons_succ])
            refine take_y (i := 4) (d := some 42) (v := ?_) rfl rfl (by kernel_rfl) (by kernel_rfl) (by kernel_rfl) (fun _ _ _ h => h) (by assumption) ?_ ?_
            rotate_left
            · intro oi ho
              simp only [List.getElem?_toArray, List.getElem?_cons_succ, List.getElem?_cons_zero, Option.some.injEq] at ho
              subst ho
              intro w hSw
              (try dsimp only at hSw)
              go_simp
              (try with_reducible rfl)
            (try simp only [Act.put, List.setIfInBounds_toArray, List.set_cons_zero, List.set_cons_succ])
            refine take_y (i := 5) (d := some 43) (v := ?_) rfl rfl (by kernel_rfl) (by kernel_rfl) (by kernel_rfl) (fun _ _ _ h => h) (by assumption) ?_ ?_
            rotate_left
            · intro oi ho
              simp only [List.getElem?_toArray, List.getElem?_cons_succ, List.getElem?_cons_zero, Option.some.injEq] at ho
              subst ho
              intro w hSw
              (try dsimp only at hSw)
              go_simp
              (try with_reducible rfl)
            (try simp only [Act.put, List.setIfInBounds_toArray, List.set_cons_zero, List.set_cons_succ])
            refine take_y (i := 7) (d := some 45) (v := ?_) rfl rfl (by kernel_rfl) (by kernel_rfl) (by kernel_rfl) (fun _ _ _ h => h) (by assumption) ?_ ?_
            rotate_left
            · intro oi ho
              simp only [List.getElem?_toArray, List.getElem?_cons_succ, List.getElem?_cons_zero, Option.some.injEq] at ho
              subst ho
              intro w hSw
              (try dsimp only at hSw)
              go_simp
              (try with_reducible rfl)
            (try simp only [Act.put, List.setIfInBounds_toArray, List.set_cons_zero, List.set_cons_succ])
            refine wpAnyH_ready (rs := [6, 8]) (by kernel_rfl) (by simp) ?_
            refine AllReadyH.cons rfl (fun K hK => ?_) (AllReadyH.cons rfl (fun K hK => ?_) AllReadyH.nil)
            · go_simp
              refine hK.out _ _ ?_ (fun hHeld => ?_)
              · (try dsimp only)
                (go_split_ands; refine (fun hR => ⟨hR, HKB.out _ hR.kept⟩) ?_; first | with_reducible assumption | with_reducible exact reg_drew (by assumption) | with_reducible exact reg_alloc (by assumption) | with_reducible exact reg_drew (reg_alloc (by assumption)) | with_reducible exact reg_alloc (reg_drew (by assumption)) | with_reducible exact reg_set (by assumption))
              clear hK K
              (try simp only [Act.put, List.setIfInBounds_toArray, List.set_cons_zero, List.set_cons_succ])
              refine wpAnyH_ready (rs := [8]) (by kernel_rfl) (by simp) ?_
              refine AllReadyH.cons rfl (fun K hK => ?_) AllReadyH.nil
              go_simp
              refine hK.out _ _ ?_ (fun hHeld => ?_)
              · (try dsimp only)
                (go_split_ands; refine (fun hR => ⟨hR, HKB.out _ hR.kept⟩) ?_; first | with_reducible assumption | with_reducible exact reg_drew (by assumption) | with_reducible exact reg_alloc (by assumption) | with_reducible exact reg_drew (reg_alloc (by assumption)) | with_reducible exact reg_alloc (reg_drew (by assumption)) | with_reducible exact reg_set (by assumption))
              clear hK K
              (try simp only [Act.put, List.setIfInBounds_toArray, List.set_cons_zero, List.set_cons_succ])
              refine wpAnyH_ready (rs := [9]) (by kernel_rfl) (by simp) ?_
              refine AllReadyH.cons rfl (fun K hK => ?_) AllReadyH.nil
              (refine step_push rfl (.tmp 44) (.tmp 46) 35 rfl rowX Tryz.underlying35 w1.heap.size (.slice ra nn rc) rows rfl HRW.out.drew [()] #[.slice a1 nx n1, .slice e1 ny m1] (Els.one ⟨_, _, rfl, rfl, rfl⟩) 1 1 rfl rfl (by decide) (by have := HNN.out; unfold maxLen; omega) (by have := HNN.out; show _ * 48 ≤ _; omega) hzw2 ?_; intro g2 cap2 w7 hP hPa; have f12 := reg_push (reg_drew hbb) HNC.out hP; have f10 := f12.cell; have f11 := f12.frz)
              refine hK.out _ _ ?_ (fun hHeld => ?_)
              · (try dsimp only)
                (go_split_ands; refine (fun hR => ⟨hR, HKB.out _ hR.kept⟩) ?_; first | with_reducible assumption | with_reducible exact reg_drew (by assumption) | with_reducible exact reg_alloc (by assumption) | with_reducible exact reg_drew (reg_alloc (by assumption)) | with_reducible exact reg_alloc (reg_drew (by assumption)) | with_reducible exact reg_set (by assumption))
              clear hK K
              (try simp only [Act.put, List.setIfInBounds_toArray])
              refine take_y (i := 10) (d := some 48) (v := ?_) rfl rfl (by kernel_rfl) (by kernel_rfl) (by kernel_rfl) (fun _ _ _ h => h) (by assumption) ?_ ?_
              rotate_left
              · intro oi ho
                simp only [List.getElem?_toArray, List.getElem?_cons_succ, List.getElem?_cons_zero, Option.some.injEq] at ho
                subst ho
                intro w hSw
                (try dsimp only at hSw)
                go_simp
                (try with_reducible rfl)
              (try simp only [Act.put])
              refine take_y (i := 11) (d := some 49) (v := ?_) rfl rfl (by kernel_rfl) (by kernel_rfl) (by kernel_rfl) (fun _ _ _ h => h) (by assumption) ?_ ?_
              rotate_left
              · intro oi ho
                simp only [List.getElem?_toArray, List.getElem?_cons_succ, List.getElem?_cons_zero, Option.some.injEq] at ho
                subst ho
                intro w hSw
                (try dsimp only at hSw)
                go_simp
                (try with_reducible rfl)
              (try simp only [Act.put])
              refine wpAnyH_ready (rs := [12]) (by kernel_rfl) (by simp) ?_
              refine AllReadyH.cons rfl (fun K hK => ?_) AllReadyH.nil
              go_simp
              refine hK.out _ _ ?_ (fun hHeld => ?_)
              · (try dsimp only)
                (go_split_ands; refine (fun hR => ⟨hR, HKB.out _ hR.kept⟩) ?_; first | with_reducible assumption | with_reducible exact reg_drew (by assumption) | with_reducible exact reg_alloc (by assumption) | with_reducible exact reg_drew (reg_alloc (by assumption)) | with_reducible exact reg_alloc (reg_drew (by assumption)) | with_reducible exact reg_set (by assumption))
              clear hK K
              (try simp only [Act.put, List.setIfInBounds_toArray, List.set_cons_zero, List.set_cons_succ])
              refine wpAnyH_done (by kernel_rfl) ?_ _
              have hK7 : Kept (fun m => some m = (Value.slice ra nn rc).ownBlock) wc w7 := hP.kept
              have hO7 : Own ((runE.avoid D).avoid fun k => some g2 = some k) w7 w1.heap.size (.slice (some ⟨gb, 0, none⟩) (m0 + 1) cap) (rs0 ++ [⟨gv, nn, gl⟩]) := HOM.out.move hK7 (fun k _ h => h.symm) (fun k hk h => HNC.out (by cases hk; exact h.symm)) (fun k hk h => by
                cases h
                rcases hP.place with h | h
                · exact .inl h
                · have h2 : wc.heap.size ≤ g2 := h
                  omega)
              have hgl2 : (rs0 ++ [(⟨gv, nn, gl⟩ : GRun)])[m0]? = some ⟨gv, nn, gl⟩ := by rw [HM0.out, List.getElem?_append_right (Nat.le_refl _), Nat.sub_self]; rfl
              have hO8 := run_put1 hO7 (by rw [List.length_append, HM0.out]; rfl) hgl2 (some ⟨g2, 0, none⟩) cap2 (nn + 1) (by omega)
              rw [HM0.out, set_last, ← HM0.out] at hO8
              have hne : gb ≠ g2 := hP.ne (fun e => HNC.out e.symm) (by have := (HOM.out.lt gb rfl).2; exact this)
              have hR7 := hP.own' (n := nn + 1) (by rw [List.length_append, ← HNN.out]; rfl)
              have hR8 : Own rowX (w7.setCell ⟨gb, m0 * 3 + 1, none⟩ (.slice (some ⟨g2, 0, none⟩) (nn + 1) cap2)) w1.heap.size (.slice (some ⟨g2, 0, none⟩) (nn + 1) cap2) (rows ++ [()]) := hR7.kept_flat rowX_flat (kept_set (G := fun m => m = gb) (q := ⟨gb, m0 * 3 + 1, none⟩) rfl) (fun k hk e => by
                have h1 : some g2 = some k := hk
                cases h1
                exact hne e.symm)
              have hG8 : (w7.setCell ⟨gb, m0 * 3 + 1, none⟩ (.slice (some ⟨g2, 0, none⟩) (nn + 1) cap2)).heap[wo.heap.size]? = some (.cells #[.slice a1 nx n1, .slice e1 ny m1] 39 (0, 0)) := (Go.Deep.blk_setCell_other _ _ _ _ (fun e => HGB.out e.symm)).trans (hP.block (fun e => HRB.out e.symm) HGM.out)
              have hB8 : Below w1.heap.size wA (w7.setCell ⟨gb, m0 * 3 + 1, none⟩ (.slice (some ⟨g2, 0, none⟩) (nn + 1) cap2)) := (HBM.out.drew.trans hP.below).setCell (HOM.out.lt gb rfl).1 _
              have hc8 := World.cell?_setCell_same' w7 ⟨gb, m0 * 3 + 1, none⟩ (.slice (some ⟨g2, 0, none⟩) (nn + 1) cap2) (by rw [f10]; rfl)
              have hnn3 : rows.length + 1 = nn + 1 := by rw [← HNN.out]
              rw [hnn3]
              go_wp2_with fail
              go_meet
              exact ⟨rfl, g2, cap2, Lib.hid hO8, hc8, Lib.hid hR8, Lib.hid hne, Lib.hid hG8, Lib.hid hB8⟩
            · go_simp
              refine hK.out _ _ ?_ (fun hHeld => ?_)
              · (try dsimp only)
                (go_split_ands; refine (fun hR => ⟨hR, HKB.out _ hR.kept⟩) ?_; first | with_reducible assumption | with_reducible exact reg_drew (by assumption) | with_reducible exact reg_alloc (by assumption) | with_reducible exact reg_drew (reg_alloc (by assumption)) | with_reducible exact reg_alloc (reg_drew (by assumption)) | with_reducible exact reg_set (by assumption))
              clear hK K
              (try simp only [Act.put, List.setIfInBounds_toArray, List.set_cons_zero, List.set_cons_succ])
              refine wpAnyH_ready (rs := [6]) (by kernel_rfl) (by simp) ?_
              refine AllReadyH.cons rfl (fun K hK => ?_) AllReadyH.nil
              go_simp
              refine hK.out _ _ ?_ (fun hHeld => ?_)
              · (try dsimp only)
                (go_split_ands; refine (fun hR => ⟨hR, HKB.out _ hR.kept⟩) ?_; first | with_reducible assumption | with_reducible exact reg_drew (by assumption) | with_reducible exact reg_alloc (by assumption) | with_reducible exact reg_drew (reg_alloc (by assumption)) | with_reducible exact reg_alloc (reg_drew (by assumption)) | with_reducible exact reg_set (by assumption))
              clear hK K
              (try simp only [Act.put, List.setIfInBounds_toArray, List.set_cons_zero, List.set_cons_succ])
              refine wpAnyH_ready (rs := [9]) (by kernel_rfl) (by simp) ?_
              refine AllReadyH.cons rfl (fun K hK => ?_) AllReadyH.nil
              (refine step_push rfl (.tmp 44) (.tmp 46) 35 rfl rowX Tryz.underlying35 w1.heap.size (.slice ra nn rc) rows rfl HRW.out.drew [()] #[.slice a1 nx n1, .slice e1 ny m1] (Els.one ⟨_, _, rfl, rfl, rfl⟩) 1 1 rfl rfl (by decide) (by have := HNN.out; unfold maxLen; omega) (by have := HNN.out; show _ * 48 ≤ _; omega) hzw2 ?_; intro g2 cap2 w7 hP hPa; have f12 := reg_push (reg_drew hbb) HNC.out hP; have f10 := f12.cell; have f11 := f12.frz)
              refine hK.out _ _ ?_ (fun hHeld => ?_)
              · (try dsimp only)
                (go_split_ands; refine (fun hR => ⟨hR, HKB.out _ hR.kept⟩) ?_; first | with_reducible assumption | with_reducible exact reg_drew (by assumption) | with_reducible exact reg_alloc (by assumption) | with_reducible exact reg_drew (reg_alloc (by assumption)) | with_reducible exact reg_alloc (reg_drew (by assumption)) | with_reducible exact reg_set (by assumption))
              clear hK K
              (try simp only [Act.put, List.setIfInBounds_toArray])
              refine take_y (i := 10) (d := some 48) (v := ?_) rfl rfl (by kernel_rfl) (by kernel_rfl) (by kernel_rfl) (fun _ _ _ h => h) (by assumption) ?_ ?_
              rotate_left
              · intro oi ho
                simp only [List.getElem?_toArray, List.getElem?_cons_succ, List.getElem?_cons_zero, Option.some.injEq] at ho
                subst ho
                intro w hSw
                (try dsimp only at hSw)
                go_simp
                (try with_reducible rfl)
              (try simp only [Act.put])
              refine take_y (i := 11) (d := some 49) (v := ?_) rfl rfl (by kernel_rfl) (by kernel_rfl) (by kernel_rfl) (fun _ _ _ h => h) (by assumption) ?_ ?_
              rotate_left
              · intro oi ho
                simp only [List.getElem?_toArray, List.getElem?_cons_succ, List.getElem?_cons_zero, Option.some.injEq] at ho
                subst ho
                intro w hSw
                (try dsimp only at hSw)
                go_simp
                (try with_reducible rfl)
              (try simp only [Act.put])
              refine wpAnyH_ready (rs := [12]) (by kernel_rfl) (by simp) ?_
              refine AllReadyH.cons rfl (fun K hK => ?_) AllReadyH.nil
              go_simp
              refine hK.out _ _ ?_ (fun hHeld => ?_)
              · (try dsimp only)
                (go_split_ands; refine (fun hR => ⟨hR, HKB.out _ hR.kept⟩) ?_; first | with_reducible assumption | with_reducible exact reg_drew (by assumption) | with_reducible exact reg_alloc (by assumption) | with_reducible exact reg_drew (reg_alloc (by assumption)) | with_reducible exact reg_alloc (reg_drew (by assumption)) | with_reducible exact reg_set (by assumption))
              clear hK K
              (try simp only [Act.put, List.setIfInBounds_toArray, List.set_cons_zero, List.set_cons_succ])
              refine wpAnyH_done (by kernel_rfl) ?_ _
              have hK7 : Kept (fun m => some m = (Value.slice ra nn rc).ownBlock) wc w7 := hP.kept
              have hO7 : Own ((runE.avoid D).avoid fun k => some g2 = some k) w7 w1.heap.size (.slice (some ⟨gb, 0, none⟩) (m0 + 1) cap) (rs0 ++ [⟨gv, nn, gl⟩]) := HOM.out.move hK7 (fun k _ h => h.symm) (fun k hk h => HNC.out (by cases hk; exact h.symm)) (fun k hk h => by
                cases h
                rcases hP.place with h | h
                · exact .inl h
                · have h2 : wc.heap.size ≤ g2 := h
                  omega)
              have hgl2 : (rs0 ++ [(⟨gv, nn, gl⟩ : GRun)])[m0]? = some ⟨gv, nn, gl⟩ := by rw [HM0.out, List.getElem?_append_right (Nat.le_refl _), Nat.sub_self]; rfl
              have hO8 := run_put1 hO7 (by rw [List.length_append, HM0.out]; rfl) hgl2 (some ⟨g2, 0, none⟩) cap2 (nn + 1) (by omega)
              rw [HM0.out, set_last, ← HM0.out] at hO8
              have hne : gb ≠ g2 := hP.ne (fun e => HNC.out e.symm) (by have := (HOM.out.lt gb rfl).2; exact this)
              have hR7 := hP.own' (n := nn + 1) (by rw [List.length_append, ← HNN.out]; rfl)
              have hR8 : Own rowX (w7.setCell ⟨gb, m0 * 3 + 1, none⟩ (.slice (some ⟨g2, 0, none⟩) (nn + 1) cap2)) w1.heap.size (.slice (some ⟨g2, 0, none⟩) (nn + 1) cap2) (rows ++ [()]) := hR7.kept_flat rowX_flat (kept_set (G := fun m => m = gb) (q := ⟨gb, m0 * 3 + 1, none⟩) rfl) (fun k hk e => by
                have h1 : some g2 = some k := hk
                cases h1
                exact hne e.symm)
              have hG8 : (w7.setCell ⟨gb, m0 * 3 + 1, none⟩ (.slice (some ⟨g2, 0, none⟩) (nn + 1) cap2)).heap[wo.heap.size]? = some (.cells #[.slice a1 nx n1, .slice e1 ny m1] 39 (0, 0)) := (Go.Deep.blk_setCell_other _ _ _ _ (fun e => HGB.out e.symm)).trans (hP.block (fun e => HRB.out e.symm) HGM.out)
              have hB8 : Below w1.heap.size wA (w7.setCell ⟨gb, m0 * 3 + 1, none⟩ (.slice (some ⟨g2, 0, none⟩) (nn + 1) cap2)) := (HBM.out.drew.trans hP.below).setCell (HOM.out.lt gb rfl).1 _
              have hc8 := World.cell?_setCell_same' w7 ⟨gb, m0 * 3 + 1, none⟩ (.slice (some ⟨g2, 0, none⟩) (nn + 1) cap2) (by rw [f10]; rfl)
              have hnn3 : rows.length + 1 = nn + 1 := by rw [← HNN.out]
              rw [hnn3]
              go_wp2_with fail
              go_meet
              exact ⟨rfl, g2, cap2, Lib.hid hO8, hc8, Lib.hid hR8, Lib.hid hne, Lib.hid hG8, Lib.hid hB8⟩
          case rest =>
            obtain ⟨rfl, gg, cap2, HOD, hcD, HRD, HGG, HGD, HBD2⟩ := hcut
            have hgl3 : (rs0 ++ [(⟨gv, nn + 1, gl⟩ : GRun)])[m0]? = some ⟨gv, nn + 1, gl⟩ := by rw [HM0.out, List.getElem?_append_right (Nat.le_refl _), Nat.sub_self]; rfl
            obtain ⟨v3, ra3, rc3, u3, _, _, hul, _, _, hcu⟩ := run_at HOD.out hgl3
            dsimp only at hul hcu
            obtain ⟨ua, uc, rfl⟩ := hul.shape
            have hld : Sl intE wc (fun k => w1.heap.size ≤ k) (.slice e1 ny m1) xl := (HLL.out.mono (fun _ _ h => .inl h)).kept ⟨HBD2.out.size, fun k hk hn => HBD2.out.block k (by omega)⟩
            have HMG := Lib.hid (merge_any (.slice ua gl.length uc) (.slice e1 ny m1) gl xl wc.drew (hul.free.below (Below.refl _ _).drew) (hld.free.below (Below.refl _ _).drew) (by have := hld.len; omega))
            generalize gl.length = ngl at HMG hcu hgl
            have hfe2 : wc.frozen? ⟨gb, m0 * 3 + 2, none⟩ = false := HOD.out.frozen (by rw [List.length_append, HM0.out]; rfl) _
            have HKD : Hid (∀ W, Kept (fun m => some m = (none : Option Nat) ∨ m = gb) wc W → W.cell? ⟨wo.heap.size, 0, none⟩ = some (.slice a1 nx n1) ∧ W.cell? ⟨wo.heap.size, 1, none⟩ = some (.slice e1 ny m1)) := Lib.hid (fun W hW => by
              obtain ⟨e0, e1', _, _⟩ := box_two HGD.out
              have hbx : ¬ (some wo.heap.size = (none : Option Nat) ∨ wo.heap.size = gb) := fun e => e.elim (fun e => by cases e) (fun e => HGB.out e.symm)
              exact ⟨hW.cell hbx e0, hW.cell hbx e1'⟩)
            obtain ⟨k0, k1⟩ := HKD.out wc (Reg.refl hcu hfe2).kept
            have hbd : Reg none gb (m0 * 3 + 2) wc wc := Reg.refl hcu hfe2
            have HCD := Lib.hid hcD
            have HG3 := Lib.hid hgl3
            clear hul hld d0 d1 f9 hbb hcM hfe hcD hgl3
            go_upto_region 10 with fail
            refine wp_region_held_drew (S := (fun W => Reg none gb (m0 * 3 + 2) wc W ∧ W.cell? ⟨wo.heap.size, 0, none⟩ = some (.slice a1 nx n1) ∧ W.cell? ⟨wo.heap.size, 1, none⟩ = some (.slice e1 ny m1))) (by kernel_rfl) ?_ (fun hHeld => ?_)
            · (try dsimp only)
              (go_split_ands; refine (fun hR => ⟨hR, HKD.out _ hR.kept⟩) ?_; first | with_reducible assumption | with_reducible exact reg_drew (by assumption) | with_reducible exact reg_set (by assumption))
            refine take_y (i := 0) (d := some 50) (v := ?_) rfl rfl (by kernel_rfl) (by kernel_rfl) (by kernel_rfl) (fun _ _ _ h => h) (by assumption) ?_ ?_
            rotate_left
            · intro oi ho
              simp only [List.getElem?_toArray, List.getElem?_cons_zero, Option.some.injEq] at ho
              subst ho
              intro w hSw
              (try dsimp only at hSw)
              go_simp
              (try with_reducible rfl)
            (try simp only [Act.put, List.setIfInBounds_toArray, List.set_cons_zero, List.set_cons_succ])
            refine take_y (i := 1) (d := some 51) (v := ?_) rfl rfl (by kernel_rfl) (by kernel_rfl) (by kernel_rfl) (fun _ _ _ h => h) (by assumption) ?_ ?_
            rotate_left
            · intro oi ho
              simp only [List.getElem?_toArray, List.getElem?_cons_succ, List.getElem?_cons_zero, Option.some.injEq] at ho
              subst ho
              intro w hSw
              (try dsimp only at hSw)
              go_simp
              (try with_reducible rfl)
            (try simp only [Act.put, List.setIfInBounds_toArray, List.set_cons_zero, List.set_cons_succ])
            refine take_y (i := 2) (d := some 52) (v := ?_) rfl rfl (by kernel_rfl) (by kernel_rfl) (by kernel_rfl) (fun _ _ _ h => h) (by assumption) ?_ ?_
            rotate_left
            · intro oi ho
              simp only [List.getElem?_toArray, List.getElem?_cons_succ, List.getElem?_cons_zero, Option.some.injEq] at ho
              subst ho
              intro w hSw
              (try dsimp only at hSw)
              go_simp
              (try with_reducible rfl)
            (try simp only [Act.put, List.setIfInBounds_toArray, List.set_cons_zero, List.set_cons_succ])
            refine take_y (i := 3) (d := some 53) (v := ?_) rfl rfl (by kernel_rfl) (by kernel_rfl) (by kernel_rfl) (fun _ _ _ h => h) (by assumption) ?_ ?_
            rotate_left
            · intro oi ho
              simp only [List.getElem?_toArray, List.getElem?_cons_succ, List.getElem?_cons_zero, Option.some.injEq] at ho
              subst ho
              intro w hSw
              (try dsimp only at hSw)
              go_simp
              (try with_reducible rfl)
            (try simp only [Act.put, List.setIfInBounds_toArray, List.set_cons_zero, List.set_cons_succ])
            refine take_y (i := 4) (d := some 54) (v := ?_) rfl rfl (by kernel_rfl) (by kernel_rfl) (by kernel_rfl) (fun _ _ _ h => h) (by assumption) ?_ ?_
            rotate_left
            · intro oi ho
              simp only [List.getElem?_toArray, List.getElem?_cons_succ, List.getElem?_cons_zero, Option.some.injEq] at ho
              subst ho
              intro w hSw
              (try dsimp only at hSw)
              go_simp
              (try with_reducible rfl)
            (try simp only [Act.put, List.setIfInBounds_toArray, List.set_cons_zero, List.set_cons_succ])
            refine take_y (i := 5) (d := some 55) (v := ?_) rfl rfl (by kernel_rfl) (by kernel_rfl) (by kernel_rfl) (fun _ _ _ h => h) (by assumption) ?_ ?_
            rotate_left
            · intro oi ho
              simp only [List.getElem?_toArray, List.getElem?_cons_succ, List.getElem?_cons_zero, Option.some.injEq] at ho
              subst ho
              intro w hSw
              (try dsimp only at hSw)
              go_simp
              (try with_reducible rfl)
            (try simp only [Act.put, List.setIfInBounds_toArray, List.set_cons_zero, List.set_cons_succ])
            refine take_y (i := 7) (d := some 57) (v := ?_) rfl rfl (by kernel_rfl) (by kernel_rfl) (by kernel_rfl) (fun _ _ _ h => h) (by assumption) ?_ ?_
            rotate_left
            · intro oi ho
              simp only [List.getElem?_toArray, List.getElem?_cons_succ, List.getElem?_cons_zero, Option.some.injEq] at ho
              subst ho
              intro w hSw
              (try dsimp only at hSw)
              go_simp
              (try with_reducible rfl)
            (try simp only [Act.put, List.setIfInBounds_toArray, List.set_cons_zero, List.set_cons_succ])
            refine take_y (i := 8) (d := some 58) (v := ?_) rfl rfl (by kernel_rfl) (by kernel_rfl) (by kernel_rfl) (fun _ _ _ h => h) (by assumption) ?_ ?_
            rotate_left
            · intro oi ho
              simp only [List.getElem?_toArray, List.getElem?_cons_succ, List.getElem?_cons_zero, Option.some.injEq] at ho
              subst ho
              intro w hSw
              (try dsimp only at hSw)
              go_simp
              (try with_reducible rfl)
            (try simp only [Act.put, List.setIfInBounds_toArray, List.set_cons_zero, List.set_cons_succ])
            refine wpAnyH_ready (rs := [6]) (by kernel_rfl) (by simp) ?_
            refine AllReadyH.cons rfl (fun K hK => ?_) AllReadyH.nil
            go_simp
            refine hK.out _ _ ?_ (fun hHeld => ?_)
            · (try dsimp only)
              (go_split_ands; refine (fun hR => ⟨hR, HKD.out _ hR.kept⟩) ?_; first | with_reducible assumption | with_reducible exact reg_drew (by assumption) | with_reducible exact reg_set (by assumption))
            clear hK K
            (try simp only [Act.put, List.setIfInBounds_toArray, List.set_cons_zero, List.set_cons_succ])
            refine wpAnyH_ready (rs := [9]) (by kernel_rfl) (by simp) ?_
            refine AllReadyH.cons rfl (fun K hK => ?_) AllReadyH.nil
            go_simp
            (go_at_call 90; refine HMG.out.mono ?_; rintro _ wM ⟨vM, rfl, hOM, hbM⟩; have f14 := reg_below (reg_drew hbd) hbM; have f10 := f14.cell; have f11 := f14.frz; obtain ⟨aM, cM, rfl⟩ := hOM.shape)
            refine hK.out _ _ ?_ (fun hHeld => ?_)
            · (try dsimp only)
              (go_split_ands; refine (fun hR => ⟨hR, HKD.out _ hR.kept⟩) ?_; first | with_reducible assumption | with_reducible exact reg_drew (by assumption) | with_reducible exact reg_set (by assumption))
            clear hK K
            (try simp only [Act.put, List.setIfInBounds_toArray, List.set_cons_zero, List.set_cons_succ])
            refine take_y (i := 10) (d := some 60) (v := ?_) rfl rfl (by kernel_rfl) (by kernel_rfl) (by kernel_rfl) (fun _ _ _ h => h) (by assumption) ?_ ?_
            rotate_left
            · intro oi ho
              simp only [List.getElem?_toArray, List.getElem?_cons_succ, List.getElem?_cons_zero, Option.some.injEq] at ho
              subst ho
              intro w hSw
              (try dsimp only at hSw)
              go_simp
              (try with_reducible rfl)
            (try simp only [Act.put, List.setIfInBounds_toArray, List.set_cons_zero, List.set_cons_succ])
            refine take_y (i := 11) (d := some 61) (v := ?_) rfl rfl (by kernel_rfl) (by kernel_rfl) (by kernel_rfl) (fun _ _ _ h => h) (by assumption) ?_ ?_
            rotate_left
            · intro oi ho
              simp only [List.getElem?_toArray, List.getElem?_cons_succ, List.getElem?_cons_zero, Option.some.injEq] at ho
              subst ho
              intro w hSw
              (try dsimp only at hSw)
              go_simp
              (try with_reducible rfl)
            (try simp only [Act.put, List.setIfInBounds_toArray, List.set_cons_zero, List.set_cons_succ])
            refine wpAnyH_ready (rs := [12]) (by kernel_rfl) (by simp) ?_
            refine AllReadyH.cons rfl (fun K hK => ?_) AllReadyH.nil
            go_simp
            refine hK.out _ _ ?_ (fun hHeld => ?_)
            · (try dsimp only)
              (go_split_ands; refine (fun hR => ⟨hR, HKD.out _ hR.kept⟩) ?_; first | with_reducible assumption | with_reducible exact reg_drew (by assumption) | with_reducible exact reg_set (by assumption))
            clear hK K
            (try simp only [Act.put, List.setIfInBounds_toArray, List.set_cons_zero, List.set_cons_succ])
            refine wpAnyH_done (by kernel_rfl) ?_ _
            have hb0 : Below wc.heap.size wc wM := (Below.refl wc.heap.size wc).drew.trans hbM
            have hO1 := run_put2 (HOD.out.below hb0) (by rw [List.length_append, HM0.out]; rfl) HG3.out (.slice aM (mergeL gl xl).length cM) (mergeL gl xl) (hOM.slG (fun k hk => by
              rcases hk with (hk | hk) | hk
              · cases hk; exact (HOD.out.lt gb rfl).2
              · cases hk; exact (HRD.out.lt gg rfl).2
              · have h1 := HDW.out k hk
                have h2 := HB1.out.size
                have h3 := HBA.out.size
                have h4 := HBD2.out.size
                show k < wc.heap.size
                omega))
            rw [HM0.out, set_last, ← HM0.out] at hO1
            have hR1 : Own rowX (wM.setCell ⟨gb, m0 * 3 + 2, none⟩ (.slice aM (mergeL gl xl).length cM)) w1.heap.size (.slice (some ⟨gg, 0, none⟩) (nn + 1) cap2) (rows ++ [()]) := (HRD.out.below hb0).kept_flat rowX_flat (kept_set (G := fun m => m = gb) (q := ⟨gb, m0 * 3 + 2, none⟩) rfl) (fun k hk e => by
              have h1 : some gg = some k := hk
              cases h1
              exact HGG.out e.symm)
            have hc1 : (wM.setCell ⟨gb, m0 * 3 + 2, none⟩ (.slice aM (mergeL gl xl).length cM)).cell? ⟨gb, m0 * 3 + 1, none⟩ = some (.slice (some ⟨gg, 0, none⟩) (nn + 1) cap2) := (World.cell?_setCell_other _ _ _ _ (by intro e; injection e with _ e _; omega)).trans (cell_keep hb0 HCD.out)
            have hB1 : Below w1.heap.size w1 (wM.setCell ⟨gb, m0 * 3 + 2, none⟩ (.slice aM (mergeL gl xl).length cM)) := (HBA.out.trans (HBD2.out.trans (hb0.mono (Nat.le_trans HBA.out.size HBD2.out.size)))).setCell (HOD.out.lt gb rfl).1 _
            have hL1 : LastR (wM.setCell ⟨gb, m0 * 3 + 2, none⟩ (.slice aM (mergeL gl xl).length cM)) w1.heap.size (.slice (some ⟨gb, 0, none⟩) (m0 + 1) cap) (.slice (some ⟨gg, 0, none⟩) (nn + 1) cap2) (rs0 ++ [⟨gv, nn + 1, mergeL gl xl⟩]) := fun rs0' g' e => by
              obtain ⟨rfl, rfl⟩ := snoc_inj e
              exact ⟨gb, cap, some ⟨gg, 0, none⟩, cap2, rows ++ [()], rfl, by rw [HM0.out], by rw [← HM0.out]; exact hc1, hR1, by rw [List.length_append, ← HNN.out]; rfl, fun k hk e => by
                have h1 : some gb = some k := hk
                have h2 : some gg = some k := e
                cases h1
                cases h2
                exact HGG.out rfl⟩
            have hV1 : ∀ k, (Value.slice (some ⟨gg, 0, none⟩) (nn + 1) cap2).ownBlock = some k → w1.heap.size ≤ k ∧ k < (wM.setCell ⟨gb, m0 * 3 + 2, none⟩ (.slice aM (mergeL gl xl).length cM)).heap.size := fun k hk => by
              have h1 : some gg = some k := hk
              cases h1
              exact hR1.lt gg rfl
            have HO1 := Lib.hid hO1
            have HL1 := Lib.hid hL1
            have HV1 := Lib.hid hV1
            have HBE := Lib.hid hB1
            clear hO1 hR1 hc1 hB1 hL1 hV1 hHeld f14 f10 f11 hOM hbM hb0
            go_wp2_with fail
            go_roundw
            case rel => exact ⟨j + 1, .slice (some ⟨gg, 0, none⟩) (nn + 1) cap2, by omega, by go_num, by rw [HFI.out]; exact HO1.out, by rw [HFI.out]; exact HL1, HV1, HBE⟩
            case measure => simp [RowKit.intOf]; omega
    · have hkk : S.take j = S := List.take_of_length_le (by rw [← HN.out]; omega)
      rw [hkk] at hO
      obtain ⟨oa, oc, rfl⟩ := hO.shape
      have HOE := Lib.hid (hO.forget.mono (B' := w.heap.size) HB1.out.size)
      have HBE := Lib.hid (below_keep HB1.out HB.out)
      clear hO HLA hkk
      generalize (runsL S).length = nr at HOE ⊢
      go_wp2_with fail
      go_ret
      exact ⟨_, rfl, HOE.out, HBE.out⟩
end Go.Proofs.YtngigmpaabmngaaGreatDoor

namespace Go.Proofs.YtngigmpaabmngaaGreatDoor
open Go.RowKit Go.Lib

theorem loL_lenq {y : List GRow} {q : Nat} (h : ∀ r ∈ y, r.lin.length ≤ q) (vs : List GVal) : (loL y vs).length ≤ y.length * q := by
  have key : ∀ (l : List GRow) (a : List Int), (∀ r ∈ l, r.lin.length ≤ q) → (l.foldl (fun a r => mergeL a r.lin) a).length ≤ a.length + l.length * q := by
    intro l
    induction l with
    | nil => intro a _; simp
    | cons r l ih =>
      intro a h
      have h1 := ih (mergeL a r.lin) fun z hz => h z (List.mem_cons_of_mem _ hz)
      have h2 := mergeL_length a r.lin
      have h3 := h r (List.mem_cons_self ..)
      rw [List.foldl_cons, List.length_cons, Nat.add_mul, Nat.one_mul]
      omega
  have h1 := key (y.filter fun r => decide (cmpRows r.vals vs = 0)) [] fun r hr => h r (List.mem_filter.1 hr).1
  have h2 : (y.filter fun r => decide (cmpRows r.vals vs = 0)).length ≤ y.length := List.length_filter_le _ _
  refine Nat.le_trans h1 ?_
  rw [List.length_nil, Nat.zero_add]
  exact Nat.mul_le_mul_right _ h2
set_option maxHeartbeats 4000000 in
set_option maxRecDepth 100000 in
theorem rlo_any (v u : Value) (l : List GRow) (vs : List GVal) (w : World) (hv : Sl rowE w free v l) (hu : Sl valE w free u vs) (hl : l.length ≤ 1000) (hs : ∀ x ∈ l, x.lin.length ≤ 1000) :
    Calls Tryz.prog 130 #[v, u] w (RetOwn intE w (loL l vs)) := by
  obtain ⟨a, c, rfl⟩ := hv.shape
  obtain ⟨a2, c2, rfl⟩ := hu.shape
  have HV := Lib.hid hv
  have HU := Lib.hid hu
  have HS := Lib.hid hs
  obtain ⟨n, hn⟩ : ∃ n, n = l.length := ⟨_, rfl⟩
  have HN := Lib.hid hn
  rw [← hn] at HV hl ⊢
  generalize vs.length = nv at HU ⊢
  clear hv hu hs hn
  go_enter Tryz.func130, Tryz.ntmps130
  go_wp2_with fail
  go_loopw [10, 5] (fun i o wr => ∃ j : Nat, j ≤ n ∧ i = .int .i64 j ∧ Own intE wr w.heap.size o (loL (l.take j) vs) ∧ Hid (Below w.heap.size w wr)) (fun i _ _ => n - (RowKit.intOf i).toNat)
  case atStart => exact ⟨0, Nat.zero_le _, rfl, Own.nil _ _ _, Lib.hid (.refl _ _)⟩
  case round =>
    obtain ⟨j, hj, rfl, hOj, HBj⟩ := hrel
    obtain ⟨wq, rfl⟩ : ∃ wq : World, wq = wr := ⟨_, rfl⟩
    have hlo : (loL (l.take j) vs).length ≤ 1000000 := Nat.le_trans (loL_lenq (fun r hr => HS.out r (List.mem_of_mem_take hr)) vs) (Nat.mul_le_mul_right 1000 (by rw [List.length_take]; omega : (l.take j).length ≤ 1000))
    by_cases hlt2 : j < n
    · obtain ⟨y, hy⟩ := lget_some l j (by rw [← HN.out]; exact hlt2)
      have hyl := HS.out y (List.mem_of_getElem? hy)
      obtain ⟨b2, o2, a3, n3, e3, m3, rfl, hv2, hl2, q0, q1⟩ := rows_at (HV.out.below HBj.out) hy
      have HSN : Hid (loL (l.take (j + 1)) vs = if cmpRows y.vals vs = 0 then mergeL (loL (l.take j) vs) y.lin else loL (l.take j) vs) := Lib.hid (loL_snoc hy vs)
      obtain ⟨yv, yl⟩ := y
      dsimp only at hyl hv2 hl2 q0 q1 HSN
      have hba2 := below_alloc wq (.cells #[.slice a3 yv.length n3, .slice e3 yl.length m3] 39)
      have HG2 := Lib.hid (World.alloc_heap_new wq (.cells #[.slice a3 yv.length n3, .slice e3 yl.length m3] 39))
      have hbB := below_keep HBj.out hba2
      have HCR := Lib.hid (cmpRows_any (.slice a3 yv.length n3) (.slice a2 nv c2) yv vs (wq.alloc (.cells #[.slice a3 yv.length n3, .slice e3 yl.length m3] 39)) (hv2.below hba2).vals (HU.out.below hbB).vals)
      have HBB := Lib.hid hbB
      have HL2 := Lib.hid (hl2.below hba2)
      obtain ⟨lo, hloe⟩ : ∃ lo, lo = loL (l.take j) vs := ⟨_, rfl⟩
      rw [← hloe] at hOj hlo HSN
      obtain ⟨ao, co, rfl⟩ := hOj.shape
      have HOA := Lib.hid (hOj.below hba2)
      obtain ⟨r, hr⟩ : ∃ r, r = cmpRows yv vs := ⟨_, rfl⟩
      rw [← hr] at HCR HSN
      clear hy hv2 hl2 hba2 hbB hloe hOj hr
      by_cases h0 : r = 0
      · have hrb : (r == 0) = true := by simpa using h0
        have HSN' : Hid (loL (l.take (j + 1)) vs = mergeL lo yl) := Lib.hid (by rw [HSN.out, if_pos h0])
        go_wp2_with fail
        refine HCR.out.mono ?_
        rintro _ w21 ⟨rfl, hb21⟩
        obtain ⟨e0, e1', _, _⟩ := box_two (box_kept HG2.out hb21)
        have HO21 := Lib.hid (HOA.out.below hb21)
        have HL21 := Lib.hid (HL2.out.below hb21)
        have HBM := Lib.hid (below_keep HBB.out hb21)
        have HMG := Lib.hid (merge_any _ _ lo yl w21 HO21.out.sl HL21.out (by omega))
        clear hb21 HCR HOA HL2
        go_wp2_with fail
        refine HMG.out.mono ?_
        rintro _ w22 ⟨vM, rfl, hOM, hb22⟩
        obtain ⟨aM, cM, rfl⟩ := hOM.shape
        have HOM : Hid (Own intE w22 w.heap.size (.slice aM (mergeL lo yl).length cM) (mergeL lo yl)) := Lib.hid (hOM.mono HBM.out.size)
        have HB22 := Lib.hid (below_keep HBM.out hb22)
        clear hOM hb22 HMG e0 e1'
        generalize (mergeL lo yl).length = nM at HOM ⊢
        go_wp2_with fail
        go_roundw
        case rel => exact ⟨j + 1, by omega, by go_num, by rw [HSN'.out]; exact HOM.out, HB22⟩
        case measure => simp [RowKit.intOf]; omega
      · have hrb : (r == 0) = false := by simpa using h0
        have HSN' : Hid (loL (l.take (j + 1)) vs = lo) := Lib.hid (by rw [HSN.out, if_neg h0])
        go_wp2_with fail
        refine HCR.out.mono ?_
        rintro _ w21 ⟨rfl, hb21⟩
        have HO21 := Lib.hid (HOA.out.below hb21)
        have HBM := Lib.hid (below_keep HBB.out hb21)
        clear hb21 HCR HOA HL2
        go_wp2_with fail
        go_roundw
        case rel => exact ⟨j + 1, by omega, by go_num, by rw [HSN'.out]; exact HO21.out, HBM⟩
        case measure => simp [RowKit.intOf]; omega
    · have hkk : l.take j = l := List.take_of_length_le (by rw [← HN.out]; omega)
      rw [hkk] at hOj
      obtain ⟨ao, co, rfl⟩ := hOj.shape
      have HOE := Lib.hid hOj
      clear hOj hkk hlo
      generalize (loL l vs).length = nr at HOE ⊢
      go_wp2_with fail
      go_ret
      exact ⟨_, rfl, HOE.out, HBj.out⟩
theorem runs_at {D : Nat → Prop} {w : World} {G : Nat → Prop} {a : Option Addr} {n c k : Nat} {l : List GRun} {x : GRun} (h : Sl (runE.avoid D) w G (.slice a n c) l) (hk : l[k]? = some x) :
    ∃ b o a1 n1 ra rc e1 m1, a = some ⟨b, o, none⟩ ∧ Sl valE w (fun k => G k ∨ D k) (.slice a1 x.vals.length n1) x.vals ∧ Sl intE w (fun k => G k ∨ D k) (.slice e1 x.lin.length m1) x.lin ∧
      w.cell? ⟨b, o + k * 3, none⟩ = some (.slice a1 x.vals.length n1) ∧ w.cell? ⟨b, o + k * 3 + 1, none⟩ = some (.slice ra x.n rc) ∧ w.cell? ⟨b, o + k * 3 + 2, none⟩ = some (.slice e1 x.lin.length m1) := by
  obtain ⟨b, o, cs, ha, ⟨v, ra, rc, u, rfl, _, hv, hu⟩, hc⟩ := Sl.at h hk
  obtain ⟨a1, n1, rfl⟩ := hv.shape
  obtain ⟨e1, m1, rfl⟩ := hu.shape
  exact ⟨b, o, a1, n1, ra, rc, e1, m1, ha, hv, hu, hc 0 _ rfl, hc 1 _ rfl, hc 2 _ rfl⟩
set_option maxHeartbeats 4000000 in
set_option maxRecDepth 100000 in
theorem rdist_any {D : Nat → Prop} (v : Value) (x : List GRow) (w : World) (hD : ∀ k, D k → k < w.heap.size) (hv : Sl (rowE.avoid D) w free v x) (hl : x.length ≤ 1000) (hs : ∀ r ∈ x, r.lin.length ≤ 1000) :
    Calls Tryz.prog 52 #[v] w (RetOwn (rowE.avoid D) w (disL (runsL (sortR x)))) := by
  have HRR := Lib.hid (rruns_any v x w hD hv hl hs)
  obtain ⟨hbd, hrl⟩ := runs_bound (sortR x) [] 0 (fun r hr => hs r ((sortR_perm _).mem_iff.1 hr)) (by simp) (Nat.le_refl _)
  rw [sortR_length, Nat.zero_add] at hrl
  obtain ⟨R, hR⟩ : ∃ R, R = runsL (sortR x) := ⟨_, rfl⟩
  have hrl2 : R.length ≤ 1000 := by rw [hR]; exact Nat.le_trans hrl hl
  rw [← hR] at HRR ⊢
  obtain ⟨a, c, rfl⟩ := hv.shape
  generalize x.length = n0 at HRR hl ⊢
  obtain ⟨n, hn⟩ : ∃ n, n = R.length := ⟨_, rfl⟩
  have HN := Lib.hid hn
  rw [← hn] at hrl2
  clear hv hs hbd hrl hR hn hD
  go_enter Tryz.func52, Tryz.ntmps52
  go_wp2_with fail
  refine HRR.out.mono ?_
  rintro _ w1 ⟨vR, rfl, hOR, hb1⟩
  obtain ⟨aR, cR, rfl⟩ := hOR.shape
  have hR1 := hOR.sl.old (Nat.le_refl w1.heap.size)
  rw [← HN.out] at hR1 ⊢
  have HR1 := Lib.hid hR1
  have HB1 := Lib.hid hb1
  clear hOR hb1 hR1 HRR
  go_wp2_with fail
  go_loopw [9, 3] (fun i o wr => ∃ j : Nat, j ≤ n ∧ i = .int .i64 j ∧ Own (rowE.avoid D) wr w1.heap.size o (disL (R.take j)) ∧ Hid (Below w1.heap.size w1 wr)) (fun i _ _ => n - (RowKit.intOf i).toNat)
  case atStart => exact ⟨0, Nat.zero_le _, rfl, Own.nil _ _ _, Lib.hid (.refl _ _)⟩
  case round =>
    obtain ⟨j, hj, rfl, hOj, HBj⟩ := hrel
    obtain ⟨wq, rfl⟩ : ∃ wq : World, wq = wr := ⟨_, rfl⟩
    by_cases hlt2 : j < n
    · obtain ⟨g, hg⟩ := lget_some R j (by rw [← HN.out]; exact hlt2)
      obtain ⟨b, o, a1, n1, ra, rc, e1, m1, rfl, hvv, hll, p0, p1, p2⟩ := runs_at (HR1.out.below HBj.out) hg
      have HSN : Hid (disL (R.take (j + 1)) = disL (R.take j) ++ [⟨g.vals, g.lin⟩]) := Lib.hid (by unfold disL; rw [take_get hg, List.map_append]; rfl)
      have hll2 : (disL (R.take j)).length = j := by unfold disL; rw [List.length_map, List.length_take]; have := HN.out; omega
      obtain ⟨lk, hlk⟩ : ∃ lk, lk = disL (R.take j) := ⟨_, rfl⟩
      rw [← hlk] at hOj HSN hll2
      have hlj : lk.length ≤ 1000 := by omega
      obtain ⟨ao, co, rfl⟩ := hOj.shape
      have hba := below_alloc wq (.cells #[.slice a1 g.vals.length n1, .slice ra g.n rc, .slice e1 g.lin.length m1] 124)
      obtain ⟨⟨d0, d1, d2⟩, _⟩ := box_three (World.alloc_heap_new wq (.cells #[.slice a1 g.vals.length n1, .slice ra g.n rc, .slice e1 g.lin.length m1] 124))
      have HOA := Lib.hid (hOj.below hba)
      have HBB := Lib.hid (HBj.out.alloc HBj.out.size (.cells #[.slice a1 g.vals.length n1, .slice ra g.n rc, .slice e1 g.lin.length m1] 124))
      have HELS : Hid (Els (rowE.avoid D) (wq.alloc (.cells #[.slice a1 g.vals.length n1, .slice ra g.n rc, .slice e1 g.lin.length m1] 124)) (fun k => some k = (Value.slice ao lk.length co).ownBlock) [⟨g.vals, g.lin⟩] [.slice a1 g.vals.length n1, .slice e1 g.lin.length m1]) := Lib.hid (Els.one ⟨_, _, rfl, (hvv.below hba).mono (fun k _ hk => hk.imp (fun hk => (hOj.lt k hk.symm).1) id), (hll.below hba).mono (fun k _ hk => hk.imp (fun hk => (hOj.lt k hk.symm).1) id)⟩)
      generalize g.vals.length = nx at HOA HBB HELS p0 d0 ⊢
      generalize g.lin.length = ny at HOA HBB HELS p2 d2 ⊢
      generalize g.n = nn at HOA HBB HELS p1 d1 ⊢
      clear hg hvv hll hlk hll2 hba hOj
      go_wp2_with (at_builtin; refine wpList_push rfl (.tmp 13) (.tmp 19) 35 rfl (rowE.avoid D) Tryz.underlying35 w1.heap.size (.slice ao lk.length co) lk rfl HOA.out [⟨g.vals, g.lin⟩] #[.slice a1 nx n1, .slice e1 ny m1] HELS.out 1 1 rfl (show Value.slice (some ⟨wq.heap.size + 1, 0, none⟩) 1 1 = .slice (some ⟨(wq.alloc (.cells #[.slice a1 nx n1, .slice ra nn rc, .slice e1 ny m1] 124)).heap.size, 0, none⟩) 1 1 by simp) (by decide) (by unfold maxLen; omega) (by show _ * 48 ≤ _; omega) HBB.out.size ?_; intro g2 cap w5 hP hPa)
      go_roundw
      case rel => exact ⟨j + 1, by omega, by go_num, by rw [HSN.out]; exact hP.own' (by simp), Lib.hid (HBB.out.trans hP.below)⟩
      case measure => simp [RowKit.intOf]; omega
    · have hkk : R.take j = R := List.take_of_length_le (by rw [← HN.out]; omega)
      rw [hkk] at hOj
      obtain ⟨ao, co, rfl⟩ := hOj.shape
      have HOE := Lib.hid (hOj.mono (B' := w.heap.size) HB1.out.size)
      have HBE := Lib.hid (below_keep HB1.out HBj.out)
      clear hOj hkk
      generalize (disL R).length = nr at HOE ⊢
      go_wp2_with fail
      go_ret
      exact ⟨_, rfl, HOE.out, HBE.out⟩
set_option maxHeartbeats 4000000 in
set_option maxRecDepth 100000 in
theorem runion_any {D : Nat → Prop} (v u : Value) (x y : List GRow) (w : World) (hv : Sl (rowE.avoid D) w free v x) (hu : Sl (rowE.avoid D) w free u y) (hl : x.length ≤ 1000) (hl2 : y.length ≤ 1000) :
    Calls Tryz.prog 49 #[v, u] w (RetOwn (rowE.avoid D) w (x ++ y)) := by
  obtain ⟨a, c, rfl⟩ := hv.shape
  obtain ⟨a2, c2, rfl⟩ := hu.shape
  have HV := Lib.hid (hv.mono (G' := fun j => some j = (Value.slice none 0 0).ownBlock) (fun k _ hk => by cases hk))
  have HU := Lib.hid (hu.old (Nat.le_refl _))
  have hy5 : ∀ (w5 : World) (v5 : Value), Below w.heap.size w w5 → Own (rowE.avoid D) w5 w.heap.size v5 ([] ++ x) → Sl (rowE.avoid D) w5 (fun k => some k = v5.ownBlock) (.slice a2 y.length c2) y := fun w5 v5 hb ho => ((hu.old (Nat.le_refl _)).below hb).mono fun k _ hk => (ho.lt k hk.symm).1
  have HY5 := Lib.hid hy5
  clear hv hu hy5
  obtain ⟨nx, hnx⟩ : ∃ n, n = x.length := ⟨_, rfl⟩
  obtain ⟨ny, hny⟩ : ∃ n, n = y.length := ⟨_, rfl⟩
  have HNX := Lib.hid hnx
  have HNY := Lib.hid hny
  rw [← hnx] at HV hl ⊢
  rw [← hny] at HY5 hl2 ⊢
  clear hnx hny HU
  go_enter Tryz.func49, Tryz.ntmps49
  go_wp2_with (at_builtin; first
    | (refine wpList_join rfl (.const (.slice none 0 0)) (.tmp 5) 35 rfl (rowE.avoid D) Tryz.underlying35 w.heap.size (.slice none 0 0) (.slice a nx c) [] x rfl rfl (Own.nil _ _ _) HV.out (by rw [← HNX.out]; unfold maxLen; simp; omega) (by rw [← HNX.out]; show _ * 48 ≤ _; simp; omega) (Nat.le_refl _) nx (by rw [← HNX.out]; exact Nat.zero_add _) ?_; intro a5 c5 w5 hJ)
    | (refine wpList_join rfl (.tmp 6) (.tmp 7) 35 rfl (rowE.avoid D) Tryz.underlying35 w.heap.size (.slice a5 nx c5) (.slice a2 ny c2) ([] ++ x) y rfl rfl hJ.own (HY5.out _ _ hJ.below hJ.own) (by rw [List.nil_append, ← HNX.out, ← HNY.out]; unfold maxLen; omega) (by rw [List.nil_append, ← HNX.out, ← HNY.out]; show _ * 48 ≤ _; omega) hJ.below.size (nx + ny) (by rw [List.nil_append, ← HNX.out, ← HNY.out]) ?_; intro a6 c6 w6 hK))
  go_ret
  exact ⟨_, rfl, hK.own, hJ.below.trans hK.below⟩
end Go.Proofs.YtngigmpaabmngaaGreatDoor

namespace Go.Proofs.YtngigmpaabmngaaGreatDoor
open Go.RowKit Go.Lib

theorem fExc_fst (m n : Nat) : fExc m n ≤ m := Nat.sub_le _ _
theorem fInt_fst (m n : Nat) : fInt m n ≤ m := Nat.min_le_left _ _
theorem comL_len {f : Nat → Nat → Nat} (hf : ∀ m n, f m n ≤ m) {rs : List GRun} {y : List GRow} {lo : List GVal → List Int} {c : Nat} (h : ∀ g ∈ rs, g.n ≤ c) : (comL f rs y lo).length ≤ rs.length * c := by
  unfold comL
  induction rs with
  | nil => simp
  | cons g rs ih =>
    have h1 := ih fun z hz => h z (List.mem_cons_of_mem _ hz)
    have h2 := h g (List.mem_cons_self ..)
    rw [List.flatMap_cons, List.length_append, List.length_replicate, List.length_cons, Nat.add_mul, Nat.one_mul]
    have := hf g.n (multL y g.vals)
    omega
theorem Sl.drew' {P : Program} {α : Type} {E : El P α} {w : World} {G : Nat → Prop} {v : Value} {l : List α} (h : Sl E w G v l) : Sl E w.drew G v l := h.below (Below.refl _ _).drew
set_option maxHeartbeats 8000000 in
set_option maxRecDepth 100000 in
theorem rcombE_any {D : Nat → Prop} (v u : Value) (x y : List GRow) (w : World) (hD : ∀ k, D k → k < w.heap.size) (hv : Sl (rowE.avoid D) w free v x) (hu : Sl rowE w free u y) (hl : x.length ≤ 1000) (hl2 : y.length ≤ 1000) (hs : ∀ r ∈ x, r.lin.length ≤ 1000) (hs2 : ∀ r ∈ y, r.lin.length ≤ 1000) :
    Calls Tryz.prog 93 #[v, u, .bool true] w (RetOwn (rowE.avoid D) w (comL fExc (runsL (sortR x)) y (loL y))) := by
  have HRR := Lib.hid (rruns_any v x w hD hv hl hs)
  have HDW := Lib.hid hD
  obtain ⟨hbd, hrl⟩ := runs_bound (sortR x) [] 0 (fun r hr => hs r ((sortR_perm _).mem_iff.1 hr)) (by simp) (Nat.le_refl _)
  rw [sortR_length, Nat.zero_add] at hrl
  have hbd2 : ∀ g ∈ runsL (sortR x), g.n ≤ 1000 ∧ g.lin.length ≤ 1000000 := fun g hg => by
    have := hbd g hg
    rw [sortR_length, Nat.zero_add] at this
    exact ⟨by omega, Nat.le_trans this.2 (Nat.mul_le_mul_right 1000 hl)⟩
  obtain ⟨R, hR⟩ : ∃ R, R = runsL (sortR x) := ⟨_, rfl⟩
  have hrl2 : R.length ≤ 1000 := by rw [hR]; exact Nat.le_trans hrl hl
  rw [← hR] at HRR hbd2 ⊢
  have HBD := Lib.hid hbd2
  obtain ⟨a, c, rfl⟩ := hv.shape
  obtain ⟨a2, c2, rfl⟩ := hu.shape
  have HU := Lib.hid hu
  have HS2 := Lib.hid hs2
  generalize x.length = n0 at HRR hl ⊢
  obtain ⟨n, hn⟩ : ∃ n, n = R.length := ⟨_, rfl⟩
  have HN := Lib.hid hn
  rw [← hn] at hrl2
  obtain ⟨yl, hyl⟩ : ∃ n, n = y.length := ⟨_, rfl⟩
  have HYL := Lib.hid hyl
  rw [← hyl] at HU hl2 ⊢
  clear hv hu hs hs2 hbd hbd2 hrl hR hn hyl hD
  go_enter Tryz.func93, Tryz.ntmps93
  go_wp2_with fail
  refine HRR.out.mono ?_
  rintro _ w1 ⟨vR, rfl, hOR, hb1⟩
  obtain ⟨aR, cR, rfl⟩ := hOR.shape
  have hR1 := hOR.sl.old (Nat.le_refl w1.heap.size)
  rw [← HN.out] at hR1 ⊢
  have HR1 := Lib.hid hR1
  have HB1 := Lib.hid hb1
  have HU1 := Lib.hid (HU.out.below hb1)
  clear hOR hb1 hR1 HRR HU
  go_wp2_with fail
  go_loopw [18, 7] (fun i o wr => ∃ j : Nat, j ≤ n ∧ i = .int .i64 j ∧ Own (rowE.avoid D) wr w1.heap.size o (comL fExc (R.take j) y (loL y)) ∧ Hid (Below w1.heap.size w1 wr)) (fun i _ _ => n - (RowKit.intOf i).toNat)
  case atStart => exact ⟨0, Nat.zero_le _, rfl, Own.nil _ _ _, Lib.hid (.refl _ _)⟩
  case round =>
    obtain ⟨j, hj, rfl, hOj, HBj⟩ := hrel
    obtain ⟨wq, rfl⟩ : ∃ wq : World, wq = wr := ⟨_, rfl⟩
    have hcl : (comL fExc (R.take j) y (loL y)).length ≤ 1000 * 1000 := Nat.le_trans (comL_len fExc_fst (fun g hg => (HBD.out g (List.mem_of_mem_take hg)).1)) (Nat.mul_le_mul_right 1000 (by rw [List.length_take]; omega))
    by_cases hlt2 : j < n
    · obtain ⟨g, hg⟩ := lget_some R j (by rw [← HN.out]; exact hlt2)
      obtain ⟨hgn, hgl⟩ := HBD.out g (List.mem_of_getElem? hg)
      obtain ⟨b, o, a1, n1, ra, rc, e1, m1, rfl, hvv, hll, p0, p1, p2⟩ := runs_at (HR1.out.below HBj.out) hg
      have HSN : Hid (comL fExc (R.take (j + 1)) y (loL y) = comL fExc (R.take j) y (loL y) ++ List.replicate (fExc g.n (multL y g.vals)) ⟨g.vals, mergeL g.lin (loL y g.vals)⟩) := Lib.hid (by unfold comL; rw [take_get hg, List.flatMap_append, List.flatMap_cons, List.flatMap_nil, List.append_nil])
      obtain ⟨lk, hlk⟩ : ∃ lk, lk = comL fExc (R.take j) y (loL y) := ⟨_, rfl⟩
      rw [← hlk] at hOj HSN hcl
      obtain ⟨ao, co, rfl⟩ := hOj.shape
      obtain ⟨gv, gn, gl⟩ := g
      dsimp only at hgn hgl hvv hll p0 p1 p2 HSN
      have hmu := multL_le y gv
      have HRM := Lib.hid (fun W (h : Below w1.heap.size w1 W) (v2 : Value) (h2 : Sl valE W free v2 gv) => rmult_any (.slice a2 yl c2) v2 y gv W (HU1.out.below h) h2 (by have := HYL.out; omega))
      have HRO := Lib.hid (fun W (h : Below w1.heap.size w1 W) (v2 : Value) (h2 : Sl valE W free v2 gv) => rlo_any (.slice a2 yl c2) v2 y gv W (HU1.out.below h) h2 (by have := HYL.out; omega) HS2.out)
      have hlo : (loL y gv).length ≤ 1000000 := Nat.le_trans (loL_lenq HS2.out gv) (Nat.mul_le_mul_right 1000 (show y.length ≤ 1000 by have := HYL.out; omega))
      obtain ⟨mu, hmue⟩ : ∃ m, m = multL y gv := ⟨_, rfl⟩
      obtain ⟨lo, hloe⟩ : ∃ m, m = loL y gv := ⟨_, rfl⟩
      rw [← hmue] at HRM HSN hmu
      rw [← hloe] at HRO HSN hlo
      have hmu2 : mu ≤ 1000 := by have := HYL.out; omega
      obtain ⟨z, hz⟩ : ∃ z, z = fExc gn mu := ⟨_, rfl⟩
      rw [← hz] at HSN
      have hkz : max 0 ((gn : Int) - (mu : Int)) = (z : Int) := by rw [hz]; unfold fExc; omega
      have hzn : z ≤ 1000 := by rw [hz]; exact Nat.le_trans (fExc_fst _ _) hgn
      obtain ⟨wB, hwB⟩ : ∃ wB, wB = wq.alloc (.cells #[.slice a1 gv.length n1, .slice ra gn rc, .slice e1 gl.length m1] 124) := ⟨_, rfl⟩
      have hbB : Below wq.heap.size wq wB := by rw [hwB]; exact below_alloc _ _
      have hgB : wB.heap[wq.heap.size]? = some (.cells #[.slice a1 gv.length n1, .slice ra gn rc, .slice e1 gl.length m1] 124 (0, 0)) := by rw [hwB]; exact World.alloc_heap_new _ _
      have hBB : Below w1.heap.size w1 wB := below_keep HBj.out hbB
      have HVV := Lib.hid (hvv.below hbB)
      have HLL := Lib.hid (hll.below hbB)
      have HOB := Lib.hid (hOj.below hbB)
      have HVO : Hid (∀ k, (Value.slice ao lk.length co).ownBlock = some k → w1.heap.size ≤ k ∧ k < wq.heap.size) := Lib.hid (fun k e => hOj.lt k e)
      have HWB := Lib.hid hwB
      have HZB : Hid (wB.heap.size = wq.heap.size + 1) := Lib.hid (by rw [hwB, World.size_alloc])
      have HRM5 := Lib.hid (HRM.out wB.drew hBB.drew _ (hvv.below hbB).free.drew')
      have HBB := Lib.hid hBB
      obtain ⟨⟨d0, d1, d2⟩, _⟩ := box_three hgB
      generalize hnx : gv.length = nx at p0 HVV HWB HRM5 d0 ⊢
      generalize hny : gl.length = ny at p2 HLL HWB d2 hgl ⊢
      have HNY := Lib.hid hny
      clear hg hvv hll hlk hmue hloe hz hwB hbB hgB hBB hOj hnx hny hmu
      go_upto_region 5 with fail
      rw [← HWB.out]
      clear p0 p1 p2
      have hbb : Below wB.heap.size wB wB := .refl _ _
      go_region_held3 (fun W => Below wB.heap.size wB W ∧ W.cell? ⟨wq.heap.size, 0, none⟩ = some (.slice a1 nx n1) ∧ W.cell? ⟨wq.heap.size, 1, none⟩ = some (.slice ra gn rc))
        ((go_split_ands; refine (fun hBB => ⟨hBB, cell_keep hBB d0, cell_keep hBB d1⟩) ?_; first | with_reducible assumption | with_reducible exact Below.drew (by assumption) | with_reducible exact below_keep (by assumption) (by assumption)))
        (first | (go_at_call 129; (with_reducible refine HRM5.out.mono ?_); rintro e' wK ⟨rfl, hbK⟩; have hBK : Below wB.heap.size wB wK := (Below.refl wB.heap.size wB).drew.trans hbK))
      have e0 := cell_keep hBK d0
      have e2 := cell_keep hBK d2
      have HBK := Lib.hid (below_keep HBB.out hBK)
      have HVK := Lib.hid (HVV.out.below hBK)
      have HLK := Lib.hid (HLL.out.below hBK)
      have HOK := Lib.hid (HOB.out.below hBK)
      have hzk : wq.heap.size < wK.heap.size := by have := hBK.size; have := HZB.out; omega
      have HROK := Lib.hid (HRO.out wK.drew HBK.out.drew _ HVK.out.free.drew')
      have HMG := Lib.hid (fun W (h : Below wK.heap.size wK W) (v2 : Value) (h2 : Sl intE W free v2 lo) => merge_any (.slice e1 ny m1) v2 gl lo W (HLK.out.below h).free h2 (by have := HNY.out; omega))
      have hbb2 : Below wK.heap.size wK wK := .refl _ _
      clear hbK hBK hbb HVV HLL HOB HRM5 d0 d1 d2 HRO HRM
      go_upto_region 9 with fail
      (try rw [hkz])
      go_region_held3 (fun W => Below wK.heap.size wK W ∧ W.cell? ⟨wq.heap.size, 0, none⟩ = some (.slice a1 nx n1) ∧ W.cell? ⟨wq.heap.size, 2, none⟩ = some (.slice e1 ny m1))
        ((go_split_ands; refine (fun hBB => ⟨hBB, cell_keep hBB e0, cell_keep hBB e2⟩) ?_; first | with_reducible assumption | with_reducible exact Below.drew (by assumption) | with_reducible exact below_keep (by assumption) (by assumption)))
        (first
          | (go_at_call 130; (with_reducible refine HROK.out.mono ?_); rintro e' wL ⟨vL, rfl, hOL, hbL⟩; have hBL : Below wK.heap.size wK wL := (Below.refl wK.heap.size wK).drew.trans hbL)
          | (go_at_call 90; (with_reducible refine (HMG.out wL hBL vL hOL.sl).mono ?_); rintro e' wM ⟨vM, rfl, hOM, hbM⟩; have hBM : Below wK.heap.size wK wM := below_keep hBL hbM; obtain ⟨aM, cM, rfl⟩ := hOM.shape))
      obtain ⟨ml, hml⟩ : ∃ ml, ml = mergeL gl lo := ⟨_, rfl⟩
      rw [← hml] at HSN hOM ⊢
      have f0 := cell_keep hBM e0
      have HBM := Lib.hid (below_keep HBK.out hBM)
      have HVM := Lib.hid (HVK.out.below hBM)
      have HOMM := Lib.hid (HOK.out.below hBM)
      have hLS : Sl intE wM (fun k => (some k = (Value.slice ao lk.length co).ownBlock ∨ wM.heap.size ≤ k) ∨ D k) (.slice aM ml.length cM) ml := (hOM.slG (G := fun k => some k = (Value.slice ao lk.length co).ownBlock ∨ D k) (fun k hk => by
        have h1 := hBL.size
        rcases hk with hk | hk
        · have := (HVO.out k hk.symm).2; omega
        · have h2 := HDW.out k hk
          have h3 := HB1.out.size
          have h4 := HBK.out.size
          omega)).mono (fun k hk h => h.imp (fun h => h.resolve_right (by omega)) id)
      have HLS := Lib.hid hLS
      have HNB : Hid (some wq.heap.size ≠ (Value.slice ao lk.length co).ownBlock) := Lib.hid (fun e => by have := (HVO.out _ e.symm).2; omega)
      clear hbL hBL hOL hbM hBM hOM hLS hml hbb2 HROK HMG e0 e2 HVK HLK HOK HBK
      generalize ml.length = nm at HLS ⊢
      go_wp2_with fail
      go_loopw [14, 7] (fun t o wr => ∃ q : Nat, q ≤ z ∧ t = .int .i64 q ∧ Own (rowE.avoid D) wr w1.heap.size o (lk ++ List.replicate q ⟨gv, ml⟩) ∧ Since (.slice ao lk.length co) wM o wr ∧ Hid (Below w1.heap.size wM wr)) (fun t _ _ => z - (RowKit.intOf t).toNat)
      case atStart => exact ⟨0, Nat.zero_le _, rfl, by show Own _ _ _ _ (lk ++ []); rw [List.append_nil]; exact HOMM.out, Since.refl _ _, Lib.hid (.refl _ _)⟩
      case round =>
        obtain ⟨q, hq, rfl, hOq, hSq, HBq⟩ := hrel
        obtain ⟨wp, rfl⟩ : ∃ wp : World, wp = wr := ⟨_, rfl⟩
        have hl3 : (lk ++ List.replicate q (⟨gv, ml⟩ : GRow)).length ≤ 1001000 := by rw [List.length_append, List.length_replicate]; omega
        by_cases hlt3 : q < z
        · have HS3 : Hid (lk ++ List.replicate (q + 1) (⟨gv, ml⟩ : GRow) = (lk ++ List.replicate q ⟨gv, ml⟩) ++ [⟨gv, ml⟩]) := Lib.hid (by rw [List.replicate_succ', List.append_assoc])
          obtain ⟨l3, hl3e⟩ : ∃ l3, l3 = lk ++ List.replicate q (⟨gv, ml⟩ : GRow) := ⟨_, rfl⟩
          rw [← hl3e] at hOq hl3 HS3
          obtain ⟨aq, cq, rfl⟩ := hOq.shape
          have hBp : Below w1.heap.size w1 wp := HBM.out.trans HBq.out
          have HELS : Hid (Els (rowE.avoid D) wp (fun k => some k = (Value.slice aq l3.length cq).ownBlock) [⟨gv, ml⟩] [.slice a1 nx n1, .slice aM nm cM]) := Lib.hid (Els.one ⟨_, _, rfl, (HVM.out.kept (Kept.or ⟨HBq.out.size, fun k hk hn => HBq.out.block k (by omega)⟩)).mono (fun k _ hk => hk.imp (fun hk => (hOq.lt k hk.symm).1) id), (HLS.out.kept (Kept.or (Kept.or hSq.kept))).mono (fun k _ hk => hk.imp (fun hk => by
            rcases hSq.place k hk.symm with h | h
            · exact .inl h.symm
            · exact .inr h) id)⟩)
          have f0p := hSq.cell HNB.out f0
          have HOQ := Lib.hid hOq
          have HSQ := Lib.hid hSq
          have hzp := hBp.size
          clear hOq hSq hl3e hBp f0
          go_wp2_with (at_builtin; refine wpList_push rfl (.tmp 49) (.tmp 54) 35 rfl (rowE.avoid D) Tryz.underlying35 w1.heap.size (.slice aq l3.length cq) l3 rfl HOQ.out [⟨gv, ml⟩] #[.slice a1 nx n1, .slice aM nm cM] HELS.out 1 1 rfl rfl (by decide) (by unfold maxLen; omega) (by show _ * 48 ≤ _; omega) hzp ?_; intro g2 cap w5 hP hPa)
          go_roundw
          case rel => exact ⟨q + 1, by omega, by go_num, by rw [HS3.out]; exact hP.own' (by simp), HSQ.out.push hP, Lib.hid (HBq.out.trans hP.below)⟩
          case measure => simp [RowKit.intOf]; omega
        · obtain rfl : q = z := by omega
          have HOE : Hid (Own (rowE.avoid D) wp w1.heap.size _ (comL fExc (R.take (j + 1)) y (loL y))) := Lib.hid (by rw [HSN.out]; exact hOq)
          have HBE := Lib.hid (HBM.out.trans HBq.out)
          clear hOq hSq
          go_wp2_with fail
          go_roundw
          case rel => exact ⟨j + 1, by omega, by go_num, HOE.out, HBE⟩
          case measure => simp [RowKit.intOf]; omega
    · have hkk : R.take j = R := List.take_of_length_le (by rw [← HN.out]; omega)
      rw [hkk] at hOj
      obtain ⟨ao, co, rfl⟩ := hOj.shape
      have HOE := Lib.hid (hOj.mono (B' := w.heap.size) HB1.out.size)
      have HBE := Lib.hid (below_keep HB1.out HBj.out)
      clear hOj hkk hcl
      generalize (comL fExc R y (loL y)).length = nr at HOE ⊢
      go_wp2_with fail
      go_ret
      exact ⟨_, rfl, HOE.out, HBE.out⟩
set_option maxHeartbeats 8000000 in
set_option maxRecDepth 100000 in
theorem rcombI_any {D : Nat → Prop} (v u : Value) (x y : List GRow) (w : World) (hD : ∀ k, D k → k < w.heap.size) (hv : Sl (rowE.avoid D) w free v x) (hu : Sl rowE w free u y) (hl : x.length ≤ 1000) (hl2 : y.length ≤ 1000) (hs : ∀ r ∈ x, r.lin.length ≤ 1000) (hs2 : ∀ r ∈ y, r.lin.length ≤ 1000) :
    Calls Tryz.prog 93 #[v, u, .bool false] w (RetOwn (rowE.avoid D) w (comL fInt (runsL (sortR x)) y (loL y))) := by
  have HRR := Lib.hid (rruns_any v x w hD hv hl hs)
  have HDW := Lib.hid hD
  obtain ⟨hbd, hrl⟩ := runs_bound (sortR x) [] 0 (fun r hr => hs r ((sortR_perm _).mem_iff.1 hr)) (by simp) (Nat.le_refl _)
  rw [sortR_length, Nat.zero_add] at hrl
  have hbd2 : ∀ g ∈ runsL (sortR x), g.n ≤ 1000 ∧ g.lin.length ≤ 1000000 := fun g hg => by
    have := hbd g hg
    rw [sortR_length, Nat.zero_add] at this
    exact ⟨by omega, Nat.le_trans this.2 (Nat.mul_le_mul_right 1000 hl)⟩
  obtain ⟨R, hR⟩ : ∃ R, R = runsL (sortR x) := ⟨_, rfl⟩
  have hrl2 : R.length ≤ 1000 := by rw [hR]; exact Nat.le_trans hrl hl
  rw [← hR] at HRR hbd2 ⊢
  have HBD := Lib.hid hbd2
  obtain ⟨a, c, rfl⟩ := hv.shape
  obtain ⟨a2, c2, rfl⟩ := hu.shape
  have HU := Lib.hid hu
  have HS2 := Lib.hid hs2
  generalize x.length = n0 at HRR hl ⊢
  obtain ⟨n, hn⟩ : ∃ n, n = R.length := ⟨_, rfl⟩
  have HN := Lib.hid hn
  rw [← hn] at hrl2
  obtain ⟨yl, hyl⟩ : ∃ n, n = y.length := ⟨_, rfl⟩
  have HYL := Lib.hid hyl
  rw [← hyl] at HU hl2 ⊢
  clear hv hu hs hs2 hbd hbd2 hrl hR hn hyl hD
  go_enter Tryz.func93, Tryz.ntmps93
  go_wp2_with fail
  refine HRR.out.mono ?_
  rintro _ w1 ⟨vR, rfl, hOR, hb1⟩
  obtain ⟨aR, cR, rfl⟩ := hOR.shape
  have hR1 := hOR.sl.old (Nat.le_refl w1.heap.size)
  rw [← HN.out] at hR1 ⊢
  have HR1 := Lib.hid hR1
  have HB1 := Lib.hid hb1
  have HU1 := Lib.hid (HU.out.below hb1)
  clear hOR hb1 hR1 HRR HU
  go_wp2_with fail
  go_loopw [18, 7] (fun i o wr => ∃ j : Nat, j ≤ n ∧ i = .int .i64 j ∧ Own (rowE.avoid D) wr w1.heap.size o (comL fInt (R.take j) y (loL y)) ∧ Hid (Below w1.heap.size w1 wr)) (fun i _ _ => n - (RowKit.intOf i).toNat)
  case atStart => exact ⟨0, Nat.zero_le _, rfl, Own.nil _ _ _, Lib.hid (.refl _ _)⟩
  case round =>
    obtain ⟨j, hj, rfl, hOj, HBj⟩ := hrel
    obtain ⟨wq, rfl⟩ : ∃ wq : World, wq = wr := ⟨_, rfl⟩
    have hcl : (comL fInt (R.take j) y (loL y)).length ≤ 1000 * 1000 := Nat.le_trans (comL_len fInt_fst (fun g hg => (HBD.out g (List.mem_of_mem_take hg)).1)) (Nat.mul_le_mul_right 1000 (by rw [List.length_take]; omega))
    by_cases hlt2 : j < n
    · obtain ⟨g, hg⟩ := lget_some R j (by rw [← HN.out]; exact hlt2)
      obtain ⟨hgn, hgl⟩ := HBD.out g (List.mem_of_getElem? hg)
      obtain ⟨b, o, a1, n1, ra, rc, e1, m1, rfl, hvv, hll, p0, p1, p2⟩ := runs_at (HR1.out.below HBj.out) hg
      have HSN : Hid (comL fInt (R.take (j + 1)) y (loL y) = comL fInt (R.take j) y (loL y) ++ List.replicate (fInt g.n (multL y g.vals)) ⟨g.vals, mergeL g.lin (loL y g.vals)⟩) := Lib.hid (by unfold comL; rw [take_get hg, List.flatMap_append, List.flatMap_cons, List.flatMap_nil, List.append_nil])
      obtain ⟨lk, hlk⟩ : ∃ lk, lk = comL fInt (R.take j) y (loL y) := ⟨_, rfl⟩
      rw [← hlk] at hOj HSN hcl
      obtain ⟨ao, co, rfl⟩ := hOj.shape
      obtain ⟨gv, gn, gl⟩ := g
      dsimp only at hgn hgl hvv hll p0 p1 p2 HSN
      have hmu := multL_le y gv
      have HRM := Lib.hid (fun W (h : Below w1.heap.size w1 W) (v2 : Value) (h2 : Sl valE W free v2 gv) => rmult_any (.slice a2 yl c2) v2 y gv W (HU1.out.below h) h2 (by have := HYL.out; omega))
      have HRO := Lib.hid (fun W (h : Below w1.heap.size w1 W) (v2 : Value) (h2 : Sl valE W free v2 gv) => rlo_any (.slice a2 yl c2) v2 y gv W (HU1.out.below h) h2 (by have := HYL.out; omega) HS2.out)
      have hlo : (loL y gv).length ≤ 1000000 := Nat.le_trans (loL_lenq HS2.out gv) (Nat.mul_le_mul_right 1000 (show y.length ≤ 1000 by have := HYL.out; omega))
      obtain ⟨mu, hmue⟩ : ∃ m, m = multL y gv := ⟨_, rfl⟩
      obtain ⟨lo, hloe⟩ : ∃ m, m = loL y gv := ⟨_, rfl⟩
      rw [← hmue] at HRM HSN hmu
      rw [← hloe] at HRO HSN hlo
      have hmu2 : mu ≤ 1000 := by have := HYL.out; omega
      obtain ⟨z, hz⟩ : ∃ z, z = fInt gn mu := ⟨_, rfl⟩
      rw [← hz] at HSN
      have hkz : min (gn : Int) (mu : Int) = (z : Int) := by rw [hz]; unfold fInt; omega
      have hzn : z ≤ 1000 := by rw [hz]; exact Nat.le_trans (fInt_fst _ _) hgn
      obtain ⟨wB, hwB⟩ : ∃ wB, wB = wq.alloc (.cells #[.slice a1 gv.length n1, .slice ra gn rc, .slice e1 gl.length m1] 124) := ⟨_, rfl⟩
      have hbB : Below wq.heap.size wq wB := by rw [hwB]; exact below_alloc _ _
      have hgB : wB.heap[wq.heap.size]? = some (.cells #[.slice a1 gv.length n1, .slice ra gn rc, .slice e1 gl.length m1] 124 (0, 0)) := by rw [hwB]; exact World.alloc_heap_new _ _
      have hBB : Below w1.heap.size w1 wB := below_keep HBj.out hbB
      have HVV := Lib.hid (hvv.below hbB)
      have HLL := Lib.hid (hll.below hbB)
      have HOB := Lib.hid (hOj.below hbB)
      have HVO : Hid (∀ k, (Value.slice ao lk.length co).ownBlock = some k → w1.heap.size ≤ k ∧ k < wq.heap.size) := Lib.hid (fun k e => hOj.lt k e)
      have HWB := Lib.hid hwB
      have HZB : Hid (wB.heap.size = wq.heap.size + 1) := Lib.hid (by rw [hwB, World.size_alloc])
      have HRM5 := Lib.hid (HRM.out wB.drew hBB.drew _ (hvv.below hbB).free.drew')
      have HBB := Lib.hid hBB
      obtain ⟨⟨d0, d1, d2⟩, _⟩ := box_three hgB
      generalize hnx : gv.length = nx at p0 HVV HWB HRM5 d0 ⊢
      generalize hny : gl.length = ny at p2 HLL HWB d2 hgl ⊢
      have HNY := Lib.hid hny
      clear hg hvv hll hlk hmue hloe hz hwB hbB hgB hBB hOj hnx hny hmu
      go_upto_region 5 with fail
      rw [← HWB.out]
      clear p0 p1 p2
      have hbb : Below wB.heap.size wB wB := .refl _ _
      go_region_held3 (fun W => Below wB.heap.size wB W ∧ W.cell? ⟨wq.heap.size, 0, none⟩ = some (.slice a1 nx n1) ∧ W.cell? ⟨wq.heap.size, 1, none⟩ = some (.slice ra gn rc))
        ((go_split_ands; refine (fun hBB => ⟨hBB, cell_keep hBB d0, cell_keep hBB d1⟩) ?_; first | with_reducible assumption | with_reducible exact Below.drew (by assumption) | with_reducible exact below_keep (by assumption) (by assumption)))
        (first | (go_at_call 129; (with_reducible refine HRM5.out.mono ?_); rintro e' wK ⟨rfl, hbK⟩; have hBK : Below wB.heap.size wB wK := (Below.refl wB.heap.size wB).drew.trans hbK))
      have e0 := cell_keep hBK d0
      have e2 := cell_keep hBK d2
      have HBK := Lib.hid (below_keep HBB.out hBK)
      have HVK := Lib.hid (HVV.out.below hBK)
      have HLK := Lib.hid (HLL.out.below hBK)
      have HOK := Lib.hid (HOB.out.below hBK)
      have hzk : wq.heap.size < wK.heap.size := by have := hBK.size; have := HZB.out; omega
      have HROK := Lib.hid (HRO.out wK.drew HBK.out.drew _ HVK.out.free.drew')
      have HMG := Lib.hid (fun W (h : Below wK.heap.size wK W) (v2 : Value) (h2 : Sl intE W free v2 lo) => merge_any (.slice e1 ny m1) v2 gl lo W (HLK.out.below h).free h2 (by have := HNY.out; omega))
      have hbb2 : Below wK.heap.size wK wK := .refl _ _
      clear hbK hBK hbb HVV HLL HOB HRM5 d0 d1 d2 HRO HRM
      go_upto_region 9 with fail
      (try rw [hkz])
      go_region_held3 (fun W => Below wK.heap.size wK W ∧ W.cell? ⟨wq.heap.size, 0, none⟩ = some (.slice a1 nx n1) ∧ W.cell? ⟨wq.heap.size, 2, none⟩ = some (.slice e1 ny m1))
        ((go_split_ands; refine (fun hBB => ⟨hBB, cell_keep hBB e0, cell_keep hBB e2⟩) ?_; first | with_reducible assumption | with_reducible exact Below.drew (by assumption) | with_reducible exact below_keep (by assumption) (by assumption)))
        (first
          | (go_at_call 130; (with_reducible refine HROK.out.mono ?_); rintro e' wL ⟨vL, rfl, hOL, hbL⟩; have hBL : Below wK.heap.size wK wL := (Below.refl wK.heap.size wK).drew.trans hbL)
          | (go_at_call 90; (with_reducible refine (HMG.out wL hBL vL hOL.sl).mono ?_); rintro e' wM ⟨vM, rfl, hOM, hbM⟩; have hBM : Below wK.heap.size wK wM := below_keep hBL hbM; obtain ⟨aM, cM, rfl⟩ := hOM.shape))
      obtain ⟨ml, hml⟩ : ∃ ml, ml = mergeL gl lo := ⟨_, rfl⟩
      rw [← hml] at HSN hOM ⊢
      have f0 := cell_keep hBM e0
      have HBM := Lib.hid (below_keep HBK.out hBM)
      have HVM := Lib.hid (HVK.out.below hBM)
      have HOMM := Lib.hid (HOK.out.below hBM)
      have hLS : Sl intE wM (fun k => (some k = (Value.slice ao lk.length co).ownBlock ∨ wM.heap.size ≤ k) ∨ D k) (.slice aM ml.length cM) ml := (hOM.slG (G := fun k => some k = (Value.slice ao lk.length co).ownBlock ∨ D k) (fun k hk => by
        have h1 := hBL.size
        rcases hk with hk | hk
        · have := (HVO.out k hk.symm).2; omega
        · have h2 := HDW.out k hk
          have h3 := HB1.out.size
          have h4 := HBK.out.size
          omega)).mono (fun k hk h => h.imp (fun h => h.resolve_right (by omega)) id)
      have HLS := Lib.hid hLS
      have HNB : Hid (some wq.heap.size ≠ (Value.slice ao lk.length co).ownBlock) := Lib.hid (fun e => by have := (HVO.out _ e.symm).2; omega)
      clear hbL hBL hOL hbM hBM hOM hLS hml hbb2 HROK HMG e0 e2 HVK HLK HOK HBK
      generalize ml.length = nm at HLS ⊢
      go_wp2_with fail
      go_loopw [14, 7] (fun t o wr => ∃ q : Nat, q ≤ z ∧ t = .int .i64 q ∧ Own (rowE.avoid D) wr w1.heap.size o (lk ++ List.replicate q ⟨gv, ml⟩) ∧ Since (.slice ao lk.length co) wM o wr ∧ Hid (Below w1.heap.size wM wr)) (fun t _ _ => z - (RowKit.intOf t).toNat)
      case atStart => exact ⟨0, Nat.zero_le _, rfl, by show Own _ _ _ _ (lk ++ []); rw [List.append_nil]; exact HOMM.out, Since.refl _ _, Lib.hid (.refl _ _)⟩
      case round =>
        obtain ⟨q, hq, rfl, hOq, hSq, HBq⟩ := hrel
        obtain ⟨wp, rfl⟩ : ∃ wp : World, wp = wr := ⟨_, rfl⟩
        have hl3 : (lk ++ List.replicate q (⟨gv, ml⟩ : GRow)).length ≤ 1001000 := by rw [List.length_append, List.length_replicate]; omega
        by_cases hlt3 : q < z
        · have HS3 : Hid (lk ++ List.replicate (q + 1) (⟨gv, ml⟩ : GRow) = (lk ++ List.replicate q ⟨gv, ml⟩) ++ [⟨gv, ml⟩]) := Lib.hid (by rw [List.replicate_succ', List.append_assoc])
          obtain ⟨l3, hl3e⟩ : ∃ l3, l3 = lk ++ List.replicate q (⟨gv, ml⟩ : GRow) := ⟨_, rfl⟩
          rw [← hl3e] at hOq hl3 HS3
          obtain ⟨aq, cq, rfl⟩ := hOq.shape
          have hBp : Below w1.heap.size w1 wp := HBM.out.trans HBq.out
          have HELS : Hid (Els (rowE.avoid D) wp (fun k => some k = (Value.slice aq l3.length cq).ownBlock) [⟨gv, ml⟩] [.slice a1 nx n1, .slice aM nm cM]) := Lib.hid (Els.one ⟨_, _, rfl, (HVM.out.kept (Kept.or ⟨HBq.out.size, fun k hk hn => HBq.out.block k (by omega)⟩)).mono (fun k _ hk => hk.imp (fun hk => (hOq.lt k hk.symm).1) id), (HLS.out.kept (Kept.or (Kept.or hSq.kept))).mono (fun k _ hk => hk.imp (fun hk => by
            rcases hSq.place k hk.symm with h | h
            · exact .inl h.symm
            · exact .inr h) id)⟩)
          have f0p := hSq.cell HNB.out f0
          have HOQ := Lib.hid hOq
          have HSQ := Lib.hid hSq
          have hzp := hBp.size
          clear hOq hSq hl3e hBp f0
          go_wp2_with (at_builtin; refine wpList_push rfl (.tmp 49) (.tmp 54) 35 rfl (rowE.avoid D) Tryz.underlying35 w1.heap.size (.slice aq l3.length cq) l3 rfl HOQ.out [⟨gv, ml⟩] #[.slice a1 nx n1, .slice aM nm cM] HELS.out 1 1 rfl rfl (by decide) (by unfold maxLen; omega) (by show _ * 48 ≤ _; omega) hzp ?_; intro g2 cap w5 hP hPa)
          go_roundw
          case rel => exact ⟨q + 1, by omega, by go_num, by rw [HS3.out]; exact hP.own' (by simp), HSQ.out.push hP, Lib.hid (HBq.out.trans hP.below)⟩
          case measure => simp [RowKit.intOf]; omega
        · obtain rfl : q = z := by omega
          have HOE : Hid (Own (rowE.avoid D) wp w1.heap.size _ (comL fInt (R.take (j + 1)) y (loL y))) := Lib.hid (by rw [HSN.out]; exact hOq)
          have HBE := Lib.hid (HBM.out.trans HBq.out)
          clear hOq hSq
          go_wp2_with fail
          go_roundw
          case rel => exact ⟨j + 1, by omega, by go_num, HOE.out, HBE⟩
          case measure => simp [RowKit.intOf]; omega
    · have hkk : R.take j = R := List.take_of_length_le (by rw [← HN.out]; omega)
      rw [hkk] at hOj
      obtain ⟨ao, co, rfl⟩ := hOj.shape
      have HOE := Lib.hid (hOj.mono (B' := w.heap.size) HB1.out.size)
      have HBE := Lib.hid (below_keep HB1.out HBj.out)
      clear hOj hkk hcl
      generalize (comL fInt R y (loL y)).length = nr at HOE ⊢
      go_wp2_with fail
      go_ret
      exact ⟨_, rfl, HOE.out, HBE.out⟩
set_option maxHeartbeats 2000000 in
set_option maxRecDepth 100000 in
theorem rexc_any {D : Nat → Prop} (v u : Value) (x y : List GRow) (w : World) (hD : ∀ k, D k → k < w.heap.size) (hv : Sl (rowE.avoid D) w free v x) (hu : Sl rowE w free u y) (hl : x.length ≤ 1000) (hl2 : y.length ≤ 1000) (hs : ∀ r ∈ x, r.lin.length ≤ 1000) (hs2 : ∀ r ∈ y, r.lin.length ≤ 1000) :
    Calls Tryz.prog 50 #[v, u] w (RetOwn (rowE.avoid D) w (comL fExc (runsL (sortR x)) y (loL y))) := by
  have HC := Lib.hid (rcombE_any v u x y w hD hv hu hl hl2 hs hs2)
  obtain ⟨a, c, rfl⟩ := hv.shape
  obtain ⟨a2, c2, rfl⟩ := hu.shape
  obtain ⟨R, hR⟩ : ∃ R, R = comL fExc (runsL (sortR x)) y (loL y) := ⟨_, rfl⟩
  rw [← hR] at HC ⊢
  generalize x.length = nx at HC ⊢
  generalize y.length = ny at HC ⊢
  clear hv hu hl hl2 hs hs2 hR
  go_enter Tryz.func50, Tryz.ntmps50
  go_wp2_with fail
  refine HC.out.mono ?_
  rintro _ w2 ⟨v2, rfl, hO2, hb2⟩
  obtain ⟨a4, c4, rfl⟩ := hO2.shape
  have HO2 := Lib.hid hO2
  have HB2 := Lib.hid hb2
  clear hO2 hb2 HC
  generalize R.length = nr at HO2 ⊢
  go_wp2_with fail
  go_ret
  exact ⟨_, rfl, HO2.out, HB2.out⟩
set_option maxHeartbeats 2000000 in
set_option maxRecDepth 100000 in
theorem rint_any {D : Nat → Prop} (v u : Value) (x y : List GRow) (w : World) (hD : ∀ k, D k → k < w.heap.size) (hv : Sl (rowE.avoid D) w free v x) (hu : Sl rowE w free u y) (hl : x.length ≤ 1000) (hl2 : y.length ≤ 1000) (hs : ∀ r ∈ x, r.lin.length ≤ 1000) (hs2 : ∀ r ∈ y, r.lin.length ≤ 1000) :
    Calls Tryz.prog 51 #[v, u] w (RetOwn (rowE.avoid D) w (comL fInt (runsL (sortR x)) y (loL y))) := by
  have HC := Lib.hid (rcombI_any v u x y w hD hv hu hl hl2 hs hs2)
  obtain ⟨a, c, rfl⟩ := hv.shape
  obtain ⟨a2, c2, rfl⟩ := hu.shape
  obtain ⟨R, hR⟩ : ∃ R, R = comL fInt (runsL (sortR x)) y (loL y) := ⟨_, rfl⟩
  rw [← hR] at HC ⊢
  generalize x.length = nx at HC ⊢
  generalize y.length = ny at HC ⊢
  clear hv hu hl hl2 hs hs2 hR
  go_enter Tryz.func51, Tryz.ntmps51
  go_wp2_with fail
  refine HC.out.mono ?_
  rintro _ w2 ⟨v2, rfl, hO2, hb2⟩
  obtain ⟨a4, c4, rfl⟩ := hO2.shape
  have HO2 := Lib.hid hO2
  have HB2 := Lib.hid hb2
  clear hO2 hb2 HC
  generalize R.length = nr at HO2 ⊢
  go_wp2_with fail
  go_ret
  exact ⟨_, rfl, HO2.out, HB2.out⟩
end Go.Proofs.YtngigmpaabmngaaGreatDoor

namespace Go.Proofs.YtngigmpaabmngaaGreatDoor
open Go.RowKit

theorem opF_zero (op n : Nat) : opF op 0 n = 0 := by
  unfold opF
  split
  · exact fExc_zero n
  · split
    · exact fInt_zero n
    · exact fDis_zero n
theorem opF_le (op m n : Nat) : opF op m n ≤ m := by
  unfold opF
  split
  · exact Nat.sub_le _ _
  · split
    · exact Nat.min_le_left _ _
    · exact Nat.min_le_left _ _
theorem len_mult_le : ∀ {x y : List GRow}, (∀ vs, multL x vs ≤ multL y vs) → x.length ≤ y.length
  | [], y, _ => Nat.zero_le _
  | r :: x, y, h => by
    have h1 := h r.vals
    rw [show r :: x = [r] ++ x from rfl, multL_append, multL_one, if_pos ((cmpRows_zero _ _).2 rfl)] at h1
    obtain ⟨z, hz, hzv⟩ := multL_mem (l := y) (vs := r.vals) (by omega)
    obtain ⟨s, t, rfl⟩ := List.append_of_mem hz
    have := len_mult_le (x := x) (y := s ++ t) fun vs => by
      have h2 := h vs
      rw [show r :: x = [r] ++ x from rfl, multL_append, multL_append, show z :: t = [z] ++ t from rfl, multL_append, multL_one, multL_one, hzv] at h2
      rw [multL_append]
      omega
    simp only [List.length_cons, List.length_append] at this ⊢
    omega
theorem linsL_lenq {l : List GRow} {q : Nat} (h : ∀ r ∈ l, r.lin.length ≤ q) (vs : List GVal) : (linsL l vs).length ≤ l.length * q := by
  refine Nat.le_trans (flat_filter _ _) ?_
  induction l with
  | nil => simp
  | cons x l ih =>
    have h1 := ih fun y hy => h y (List.mem_cons_of_mem _ hy)
    have h2 := h x (List.mem_cons_self ..)
    rw [List.flatMap_cons, List.length_append, List.length_cons, Nat.add_mul, Nat.one_mul]
    omega
theorem cnt_rows {f : Nat → Nat → Nat} {x y O : List GRow} (h : ∀ r, cntR O r = semN f x y r) {r : GRow} (hr : r ∈ O) : r.lin = mergeL (linsL x r.vals) (linsL y r.vals) ∧ 0 < f (multL x r.vals) (multL y r.vals) := by
  have hp : 0 < cntR O r := List.countP_pos_iff.2 ⟨r, hr, by simpa using cmpRow_zero.2 rfl⟩
  rw [h r] at hp
  unfold semN at hp
  split at hp
  · exact ⟨by assumption, hp⟩
  · omega
theorem cnt_mult {f : Nat → Nat → Nat} {x y O : List GRow} (h : ∀ r, cntR O r = semN f x y r) (vs : List GVal) : multL O vs = f (multL x vs) (multL y vs) := by
  have e : multL O vs = cntR O ⟨vs, mergeL (linsL x vs) (linsL y vs)⟩ := by
    unfold multL cntR
    refine List.countP_congr fun z hz => ?_
    rw [decide_eq_true_eq, decide_eq_true_eq, cmpRow_zero, cmpRows_zero]
    constructor
    · intro hv
      obtain ⟨zv, zl⟩ := z
      dsimp only at hv
      subst hv
      have := (cnt_rows h hz).1
      dsimp only at this
      rw [this]
    · intro e; rw [e]
  rw [e, h]
  unfold semN
  rw [if_pos rfl]
theorem opRows_small {op : Nat} (h3 : op ≤ 3) {x y : List GRow} (hy : op = 3 → y = []) (hx1 : ∀ r ∈ x, r.vals.length ≤ 1000 ∧ r.lin.length ≤ 40) (hy1 : ∀ r ∈ y, r.vals.length ≤ 1000 ∧ r.lin.length ≤ 40) (hlx : x.length ≤ 12) (hly : y.length ≤ 12) :
    (∀ r ∈ opRows op x y, r.vals.length ≤ 1000 ∧ r.lin.length ≤ 1000) ∧ (opRows op x y).length ≤ 24 := by
  by_cases h0 : op = 0
  · subst h0
    have e : opRows 0 x y = x ++ y := rfl
    rw [e]
    refine ⟨fun r hr => ?_, by rw [List.length_append]; omega⟩
    rcases List.mem_append.1 hr with hr | hr
    · have := hx1 r hr; omega
    · have := hy1 r hr; omega
  · have hc := opRows_cnt h0 h3 x y hy
    refine ⟨fun r hr => ?_, ?_⟩
    · obtain ⟨k1, k2⟩ := cnt_rows hc hr
      have h4 : 0 < multL x r.vals := by
        rcases Nat.eq_zero_or_pos (multL x r.vals) with h | h
        · rw [h, opF_zero] at k2; omega
        · exact h
      obtain ⟨z, hz, hzv⟩ := multL_mem h4
      have h5 := linsL_lenq (fun r hr => (hx1 r hr).2) r.vals
      have h6 := linsL_lenq (fun r hr => (hy1 r hr).2) r.vals
      have h7 := mergeL_length (linsL x r.vals) (linsL y r.vals)
      have h8 := Nat.mul_le_mul_right 40 hlx
      have h9 := Nat.mul_le_mul_right 40 hly
      refine ⟨by rw [← hzv]; exact (hx1 z hz).1, ?_⟩
      rw [k1]
      omega
    · have := len_mult_le (x := opRows op x y) (y := x) fun vs => by rw [cnt_mult hc vs]; exact opF_le _ _ _
      omega
end Go.Proofs.YtngigmpaabmngaaGreatDoor

namespace Go.Proofs.YtngigmpaabmngaaGreatDoor
open Go.RowKit

/-- A point lies in one of some periods. -/
def Cov (N : List (Int × Int)) (t : Int) : Prop := ∃ p ∈ N, p.1 ≤ t ∧ t < p.2
/-- Valid periods in order, apart. -/
structure SepP (N : List (Int × Int)) : Prop where
  valid : ∀ p ∈ N, pvalid p.1 p.2 = true
  sep : N.Pairwise fun p q => p.2 < q.1
theorem cov_cons {p : Int × Int} {N : List (Int × Int)} {t : Int} : Cov (p :: N) t ↔ (p.1 ≤ t ∧ t < p.2) ∨ Cov N t := by
  unfold Cov
  simp only [List.mem_cons, exists_eq_or_imp]
def mergeP : (Int × Int) → List (Int × Int) → List (Int × Int)
  | p, [] => [p]
  | p, q :: r => if q.1 ≤ p.2 then mergeP (min p.1 q.1, max p.2 q.2) r else p :: q :: r
def insP : List (Int × Int) → (Int × Int) → List (Int × Int)
  | [], p => [p]
  | q :: r, p => if q.2 < p.1 then q :: insP r p else mergeP p (q :: r)
theorem mergeP_spec : ∀ (N : List (Int × Int)) (p : Int × Int), pvalid p.1 p.2 = true → SepP N → (∀ q ∈ N, p.1 ≤ q.2) →
    SepP (mergeP p N) ∧ (∀ t, Cov (mergeP p N) t ↔ (p.1 ≤ t ∧ t < p.2) ∨ Cov N t) ∧ ∀ b, b < p.1 → (∀ q ∈ N, b < q.1) → ∀ x ∈ mergeP p N, b < x.1
  | [], p, hp, _, _ => ⟨⟨by simp [mergeP, hp], by simp [mergeP]⟩, fun t => by rw [mergeP, cov_cons], fun b hb _ x hx => by simp [mergeP] at hx; subst hx; exact hb⟩
  | q :: r, p, hp, hN, hle => by
    obtain ⟨hq1, hq2⟩ := List.pairwise_cons.1 hN.sep
    have hqv := hN.valid q (.head _)
    obtain ⟨v1, v2, v3⟩ := pvalid_iff.1 hqv
    obtain ⟨u1, u2, u3⟩ := pvalid_iff.1 hp
    have hr : SepP r := ⟨fun x hx => hN.valid x (.tail _ hx), hq2⟩
    have hpq := hle q (.head _)
    rw [mergeP]
    by_cases hc : q.1 ≤ p.2
    · rw [if_pos hc]
      obtain ⟨h1, h2, h3⟩ := mergeP_spec r (min p.1 q.1, max p.2 q.2) (pvalid_iff.2 ⟨by dsimp only; omega, by dsimp only; omega, by dsimp only; omega⟩) hr (fun x hx => by have := hle x (.tail _ hx); dsimp only; omega)
      refine ⟨h1, fun t => ?_, fun b hb hbq x hx => h3 b ?_ (fun y hy => hbq y (.tail _ hy)) x hx⟩
      · rw [h2 t, cov_cons]
        dsimp only
        constructor
        · rintro (h | h)
          · by_cases h4 : p.1 ≤ t ∧ t < p.2
            · exact .inl h4
            · exact .inr (.inl (by omega))
          · exact .inr (.inr h)
        · rintro (h | h | h)
          · exact .inl (by omega)
          · exact .inl (by omega)
          · exact .inr h
      · have := hbq q (.head _); dsimp only; omega
    · rw [if_neg hc]
      refine ⟨⟨fun x hx => ?_, ?_⟩, fun t => by rw [cov_cons], fun b hb hbq x hx => ?_⟩
      · rcases List.mem_cons.1 hx with rfl | hx
        · exact hp
        · exact hN.valid x hx
      · rw [List.pairwise_cons]
        refine ⟨fun x hx => ?_, hN.sep⟩
        rcases List.mem_cons.1 hx with rfl | hx
        · omega
        · have := hq1 x hx; omega
      · rcases List.mem_cons.1 hx with rfl | hx
        · exact hb
        · exact hbq x hx
theorem insP_spec : ∀ (N : List (Int × Int)) (p : Int × Int), pvalid p.1 p.2 = true → SepP N →
    SepP (insP N p) ∧ (∀ t, Cov (insP N p) t ↔ (p.1 ≤ t ∧ t < p.2) ∨ Cov N t) ∧ ∀ b, b < p.1 → (∀ q ∈ N, b < q.1) → ∀ x ∈ insP N p, b < x.1
  | [], p, hp, _ => ⟨⟨by simp [insP, hp], by simp [insP]⟩, fun t => by rw [insP, cov_cons], fun b hb _ x hx => by simp [insP] at hx; subst hx; exact hb⟩
  | q :: r, p, hp, hN => by
    obtain ⟨hq1, hq2⟩ := List.pairwise_cons.1 hN.sep
    have hqv := hN.valid q (.head _)
    have hr : SepP r := ⟨fun x hx => hN.valid x (.tail _ hx), hq2⟩
    rw [insP]
    by_cases hc : q.2 < p.1
    · rw [if_pos hc]
      obtain ⟨h1, h2, h3⟩ := insP_spec r p hp hr
      refine ⟨⟨fun x hx => ?_, ?_⟩, fun t => ?_, fun b hb hbq x hx => ?_⟩
      · rcases List.mem_cons.1 hx with rfl | hx
        · exact hqv
        · exact h1.valid x hx
      · rw [List.pairwise_cons]
        exact ⟨h3 q.2 hc hq1, h1.sep⟩
      · rw [cov_cons, h2 t, cov_cons]
        constructor
        · rintro (h | h | h)
          · exact .inr (.inl h)
          · exact .inl h
          · exact .inr (.inr h)
        · rintro (h | h | h)
          · exact .inr (.inl h)
          · exact .inl h
          · exact .inr (.inr h)
      · rcases List.mem_cons.1 hx with rfl | hx
        · exact hbq x (.head _)
        · exact h3 b hb (fun y hy => hbq y (.tail _ hy)) x hx
    · rw [if_neg hc]
      refine mergeP_spec (q :: r) p hp hN fun x hx => ?_
      rcases List.mem_cons.1 hx with rfl | hx
      · omega
      · have h1 := hq1 x hx
        have h2 := (pvalid_iff.1 (hN.valid x (.tail _ hx))).2.1
        have h3 := (pvalid_iff.1 hqv).2.1
        omega
/-- The set of points of some periods, in normal form. -/
def normP (s : List (Int × Int)) : List (Int × Int) := s.foldl (fun o p => if pvalid p.1 p.2 = true then insP o p else o) []
theorem normP_snoc (s : List (Int × Int)) (p : Int × Int) : normP (s ++ [p]) = if pvalid p.1 p.2 = true then insP (normP s) p else normP s := by unfold normP; rw [List.foldl_append]; rfl
theorem cov_append {a b : List (Int × Int)} {t : Int} : Cov (a ++ b) t ↔ Cov a t ∨ Cov b t := by
  unfold Cov
  constructor
  · rintro ⟨p, hp, h⟩
    rcases List.mem_append.1 hp with hp | hp
    · exact .inl ⟨p, hp, h⟩
    · exact .inr ⟨p, hp, h⟩
  · rintro (⟨p, hp, h⟩ | ⟨p, hp, h⟩)
    · exact ⟨p, List.mem_append.2 (.inl hp), h⟩
    · exact ⟨p, List.mem_append.2 (.inr hp), h⟩
theorem normP_spec (s : List (Int × Int)) : SepP (normP s) ∧ ∀ t, Cov (normP s) t ↔ Cov (s.filter fun p => pvalid p.1 p.2) t := by
  have key : ∀ (n : Nat) (s : List (Int × Int)), s.length = n → SepP (normP s) ∧ ∀ t, Cov (normP s) t ↔ Cov (s.filter fun p => pvalid p.1 p.2) t := by
    intro n
    induction n with
    | zero =>
      intro s hn
      have := List.eq_nil_of_length_eq_zero hn
      subst this
      exact ⟨⟨by simp [normP], by simp [normP]⟩, fun t => Iff.rfl⟩
    | succ n ih =>
      intro s hn
      obtain ⟨qs, q, rfl⟩ : ∃ qs q, s = qs ++ [q] := ⟨s.dropLast, s.getLast (by intro e; rw [e] at hn; cases hn), (List.dropLast_concat_getLast _).symm⟩
      obtain ⟨h1, h2⟩ := ih qs (by simp at hn; omega)
      rw [normP_snoc, List.filter_append, List.filter_cons, List.filter_nil]
      by_cases hq : pvalid q.1 q.2 = true
      · rw [if_pos hq, if_pos hq]
        obtain ⟨h3, h4, _⟩ := insP_spec (normP qs) q hq h1
        refine ⟨h3, fun t => ?_⟩
        rw [h4 t, h2 t, cov_append, cov_cons]
        constructor
        · rintro (h | h)
          · exact .inr (.inl h)
          · exact .inl h
        · rintro (h | h | h)
          · exact .inr h
          · exact .inl h
          · obtain ⟨_, h, _⟩ := h; simp at h
      · rw [if_neg hq, if_neg hq, List.append_nil]
        exact ⟨h1, h2⟩
  exact key _ s rfl
/-- N is the k-th level of the counts c. -/
structure Layer (c : Int → Nat) (k : Nat) (N : List (Int × Int)) : Prop where
  sep : SepP N
  cov : ∀ t, Cov N t ↔ k ≤ c t
theorem Layer.out {c : Int → Nat} {k : Nat} {N : List (Int × Int)} (h : Layer c k N) {p : Int × Int} (hp : p ∈ N) : c (p.1 - 1) < k ∧ c p.2 < k := by
  have key : ∀ t, (t = p.1 - 1 ∨ t = p.2) → ¬ Cov N t := by
    rintro t ht ⟨q, hq, h1, h2⟩
    obtain ⟨s1, s2, e⟩ := List.append_of_mem hp
    have hs := h.sep.sep
    have hpv := pvalid_iff.1 (h.sep.valid p hp)
    have hqv := pvalid_iff.1 (h.sep.valid q hq)
    rw [e] at hq hs
    obtain ⟨_, h3, h4⟩ := List.pairwise_append.1 hs
    rcases List.mem_append.1 hq with hq | hq
    · have := h4 q hq p (.head _); omega
    · rcases List.mem_cons.1 hq with rfl | hq
      · omega
      · have := (List.pairwise_cons.1 h3).1 q hq; omega
  constructor
  · have := mt (h.cov (p.1 - 1)).2 (key _ (.inl rfl)); omega
  · have := mt (h.cov p.2).2 (key _ (.inr rfl)); omega
theorem Layer.lam {c : Int → Nat} {k m : Nat} {N N' : List (Int × Int)} (h : Layer c k N) (h' : Layer c m N') (hkm : k ≤ m) {p q : Int × Int} (hp : p ∈ N) (hq : q ∈ N') : LamP p q := by
  obtain ⟨h1, h2⟩ := h.out hp
  have hpv := pvalid_iff.1 (h.sep.valid p hp)
  have hqv := pvalid_iff.1 (h'.sep.valid q hq)
  have hin : ∀ t, q.1 ≤ t → t < q.2 → k ≤ c t := fun t ha hb => Nat.le_trans hkm ((h'.cov t).1 ⟨q, hq, ha, hb⟩)
  unfold LamP
  by_cases a1 : p.2 < q.1
  · exact .inl a1
  by_cases a2 : q.2 < p.1
  · exact .inr (.inl a2)
  refine .inr (.inr (.inl ?_))
  have b1 : ¬ (q.1 ≤ p.1 - 1 ∧ p.1 - 1 < q.2) := fun hh => by have := hin _ hh.1 hh.2; omega
  have b2 : ¬ (q.1 ≤ p.2 ∧ p.2 < q.2) := fun hh => by have := hin _ hh.1 hh.2; omega
  omega
theorem Layer.count {c : Int → Nat} {k : Nat} {N : List (Int × Int)} (h : Layer c k N) (t : Int) : cntP N t = if k ≤ c t then 1 else 0 := by
  have key : ∀ (N : List (Int × Int)), SepP N → (Cov N t → cntP N t = 1) ∧ (¬ Cov N t → cntP N t = 0) := by
    intro N
    induction N with
    | nil => exact fun _ => ⟨fun ⟨_, h, _⟩ => by simp at h, fun _ => rfl⟩
    | cons p N ih =>
      intro hN
      obtain ⟨h1, h2⟩ := List.pairwise_cons.1 hN.sep
      have hv := hN.valid p (.head _)
      have hN' : SepP N := ⟨fun x hx => hN.valid x (.tail _ hx), h2⟩
      obtain ⟨i1, i2⟩ := ih hN'
      have ec : cntP (p :: N) t = cntP N t + if pincl p.1 p.2 t = true then 1 else 0 := by unfold cntP; rw [List.countP_cons]
      rw [ec]
      by_cases hp : p.1 ≤ t ∧ t < p.2
      · have hnc : ¬ Cov N t := by
          rintro ⟨q, hq, h3, h4⟩
          have := h1 q hq
          omega
        rw [if_pos (pincl_iff.2 ⟨hv, hp⟩), i2 hnc]
        exact ⟨fun _ => rfl, fun hn => absurd (cov_cons.2 (.inl hp)) hn⟩
      · rw [if_neg (fun h => hp (pincl_iff.1 h).2)]
        refine ⟨fun hc => ?_, fun hn => ?_⟩
        · rcases cov_cons.1 hc with h | h
          · exact absurd h hp
          · rw [i1 h]
        · rw [i2 fun h => hn (cov_cons.2 (.inr h))]
  obtain ⟨h1, h2⟩ := key N h.sep
  by_cases hc : Cov N t
  · rw [if_pos ((h.cov t).1 hc)]; exact h1 hc
  · rw [if_neg (mt (h.cov t).2 hc)]; exact h2 hc
/-- All levels up to m, one behind the other, in whatever order of their periods. -/
structure LayersTo (c : Int → Nat) (m : Nat) (M : List (Int × Int)) : Prop where
  valid : ∀ p ∈ M, pvalid p.1 p.2 = true
  lam : M.Pairwise LamP
  cnt : ∀ t, cntP M t = min m (c t)
  from' : ∀ p ∈ M, ∃ k N, k ≤ m ∧ Layer c k N ∧ p ∈ N
theorem LayersTo.nil (c : Int → Nat) : LayersTo c 0 [] := ⟨by simp, .nil, fun t => by simp [cntP], by simp⟩
theorem LayersTo.next {c : Int → Nat} {m : Nat} {M N M' : List (Int × Int)} (h : LayersTo c m M) (hN : Layer c (m + 1) N) (hp : M'.Perm (M ++ N)) : LayersTo c (m + 1) M' := by
  have hv : ∀ p ∈ M ++ N, pvalid p.1 p.2 = true := fun p hp => by
    rcases List.mem_append.1 hp with hp | hp
    · exact h.valid p hp
    · exact hN.sep.valid p hp
  have hl : (M ++ N).Pairwise LamP := by
    rw [List.pairwise_append]
    refine ⟨h.lam, hN.sep.sep.imp (fun {a b : Int × Int} (hab : a.2 < b.1) => (Or.inl hab : LamP a b)), fun p hp q hq => ?_⟩
    obtain ⟨k, N', hk, hN', hpN⟩ := h.from' p hp
    exact hN'.lam hN (by omega) hpN hq
  have hc : ∀ t, cntP (M ++ N) t = min (m + 1) (c t) := fun t => by
    have e : cntP (M ++ N) t = cntP M t + cntP N t := by unfold cntP; rw [List.countP_append]
    rw [e, h.cnt t, hN.count t]
    split <;> omega
  refine ⟨fun p hp' => hv p (hp.mem_iff.1 hp'), hp.symm.pairwise hl (fun h => LamP.symm h), fun t => ?_, fun p hp' => ?_⟩
  · rw [← hc t]; unfold cntP; exact hp.countP_eq _
  · rcases List.mem_append.1 (hp.mem_iff.1 hp') with hp' | hp'
    · obtain ⟨k, N', hk, r⟩ := h.from' p hp'
      exact ⟨k, N', by omega, r⟩
    · exact ⟨m + 1, N, Nat.le_refl _, hN, hp'⟩
theorem cntP_le (ps : List (Int × Int)) (t : Int) : cntP ps t ≤ ps.length := List.countP_le_length
theorem LayersTo.done {ps M : List (Int × Int)} (h : LayersTo (cntP ps) ps.length M) : LevOf ps M :=
  ⟨h.valid, h.lam, fun t => by rw [h.cnt t]; have := cntP_le ps t; omega⟩
end Go.Proofs.YtngigmpaabmngaaGreatDoor
