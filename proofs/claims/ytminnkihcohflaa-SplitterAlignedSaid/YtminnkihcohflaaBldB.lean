/- The laws' builder of tuples. No condition. -/
import Derived.Test.YtminnkihcohflaaBldA
import Derived.Test.YtminnkihcohflaaKeep
namespace Go.Proofs.Ytminnkihcohflaa
open Go.RowKit Go.Lib Go.Shelf

/-- Five small numbers. -/
structure U5 where
  x0 : Nat
  x1 : Nat
  x2 : Nat
  x3 : Nat
  x4 : Nat
def U5.ok (x : U5) : Prop := x.x0 < 65536 ∧ x.x1 < 65536 ∧ x.x2 < 65536 ∧ x.x3 < 65536 ∧ x.x4 < 65536
def u5Of (x : U5) : List Value := [.int .u16 (x.x0 : Int), .int .u16 (x.x1 : Int), .int .u16 (x.x2 : Int), .int .u16 (x.x3 : Int), .int .u16 (x.x4 : Int)]
theorem u5_info : (Try.prog.info? 116).map (fun i => (i.zero, i.size, i.bytes)) = some (some (.agg #[.int .u16 0, .int .u16 0, .int .u16 0, .int .u16 0, .int .u16 0]), 5, 10) := by kernel_rfl
def u5E : El Try.prog U5 := El.flat 116 5 10 (by decide) (info_mk u5_info rfl) u5Of (fun _ => rfl) (by intro x u hu; simp [u5Of] at hu; rcases hu with rfl | rfl | rfl | rfl | rfl <;> rfl)
def tupOf (x : U5) : Tup := gtup x.x0 x.x1 x.x2 x.x3 x.x4
theorem box_five {w : World} {g : Nat} {x y z u v : Value} {e : TypeId} (h : w.heap[g]? = some (.cells #[x, y, z, u, v] e (0, 0))) :
    (w.cell? ⟨g, 0, none⟩ = some x ∧ w.cell? ⟨g, 1, none⟩ = some y ∧ w.cell? ⟨g, 2, none⟩ = some z ∧ w.cell? ⟨g, 3, none⟩ = some u ∧ w.cell? ⟨g, 4, none⟩ = some v) := by
  refine ⟨?_, ?_, ?_, ?_, ?_⟩ <;> simp [World.cell?, h]

theorem box_kept_drew1 {w w' : World} {g : Nat} {o : Obj} (h : w.heap[g]? = some o) (hb : Below w.drew.heap.size w.drew w') : w'.heap[g]? = some o := box_kept (w := w.drew) h hb
theorem tuple_end {w wE W : World} {vv uu : Value} {t : Tup} (hk : Kept (fun k => k ≤ w.heap.size + 1) wE W) (hV : Sl valE wE (fun k => k ≤ w.heap.size + 1) vv t.vals) (hU : Sl intE wE (fun k => k ≤ w.heap.size + 1) uu t.lin) (h1 : 0 < t.vals.length) (h2 : 0 < t.lin.length) (hb : Below w.heap.size w W) :
    NewTup w t (.returned (.agg #[vv, .int .i64 t.lo, .int .i64 t.hi, uu])) W :=
  ⟨⟨vv, uu, rfl, (hV.kept hk).vals, (hU.kept hk).ints, fun k hk => by have := hV.clear_own h1 k hk; omega, fun k hk => by have := hU.clear_own h2 k hk; omega⟩, hb⟩

set_option maxHeartbeats 4000000 in
set_option maxRecDepth 100000 in
theorem tuple_any (x : U5) (hx : x.ok) (w : World) : Calls Try.prog 69 #[.agg #[.int .u16 (x.x0 : Int), .int .u16 (x.x1 : Int), .int .u16 (x.x2 : Int), .int .u16 (x.x3 : Int), .int .u16 (x.x4 : Int)]] w (NewTup w (tupOf x)) := by
  obtain ⟨x0, x1, x2, x3, x4⟩ := x
  obtain ⟨h0, h1, h2, h3, h4⟩ := hx
  dsimp only at h0 h1 h2 h3 h4 ⊢
  have HV := fun W => Lib.hid (vals_any x2 x3 h2 h3 W)
  have HP := fun W => Lib.hid (period_any x0 x1 h0 h1 W)
  obtain ⟨plo, hplo⟩ : ∃ p, p = (gper x0 x1).1 := ⟨_, rfl⟩
  obtain ⟨phi, hphi⟩ : ∃ p, p = (gper x0 x1).2 := ⟨_, rfl⟩
  rw [← hplo, ← hphi] at HP
  have ht : tupOf ⟨x0, x1, x2, x3, x4⟩ = ⟨[gval0 x2, gval1 x3], plo, phi, [1 + (x4 % 5 : Nat)]⟩ := by rw [hplo, hphi]; rfl
  rw [ht]
  clear hplo hphi ht
  go_enter Try.func69, Try.ntmps69
  go_wp2_with fail
  have hB0 := below_alloc_two w (.cells #[.int .u16 (x0 : Int), .int .u16 (x1 : Int), .int .u16 (x2 : Int), .int .u16 (x3 : Int), .int .u16 (x4 : Int)] 116) (.cells #[.slice none 0 0, .int .i64 0, .int .i64 0, .slice none 0 0] 67)
  have hz0 : w.heap.size + 1 < ((w.alloc (.cells #[.int .u16 (x0 : Int), .int .u16 (x1 : Int), .int .u16 (x2 : Int), .int .u16 (x3 : Int), .int .u16 (x4 : Int)] 116)).alloc (.cells #[.slice none 0 0, .int .i64 0, .int .i64 0, .slice none 0 0] 67)).heap.size := by simp
  obtain ⟨c0, c1, c2, c3, c4⟩ := box_five (heap_alloc_old' w (.cells #[.int .u16 (x0 : Int), .int .u16 (x1 : Int), .int .u16 (x2 : Int), .int .u16 (x3 : Int), .int .u16 (x4 : Int)] 116) (.cells #[.slice none 0 0, .int .i64 0, .int .i64 0, .slice none 0 0] 67))
  obtain ⟨⟨d0, d1, d2, d3⟩, f0, f1, f2, f3⟩ := box_four (heap_alloc_new' w (.cells #[.int .u16 (x0 : Int), .int .u16 (x1 : Int), .int .u16 (x2 : Int), .int .u16 (x3 : Int), .int .u16 (x4 : Int)] 116) (.cells #[.slice none 0 0, .int .i64 0, .int .i64 0, .slice none 0 0] 67))
  have hm1 : (x4 : Int).tmod 5 = (x4 : Int) % 5 := Int.tmod_eq_emod_of_nonneg (by omega)
  have hm2 : IntKind.i64.wrap ((x4 : Int) % 5) = (x4 : Int) % 5 := IntWalk.i64_in _ (by omega)
  have hm3 : IntKind.i64.wrap (1 + (x4 : Int) % 5) = 1 + (x4 : Int) % 5 := IntWalk.i64_in _ (by omega)
  go_region_held3 (fun W => Below w.heap.size w W ∧ w.heap.size + 1 < W.heap.size ∧ W.cell? ⟨w.heap.size, 0, none⟩ = some (.int .u16 (x0 : Int)) ∧ W.cell? ⟨w.heap.size, 1, none⟩ = some (.int .u16 (x1 : Int)) ∧ W.cell? ⟨w.heap.size, 2, none⟩ = some (.int .u16 (x2 : Int)) ∧ W.cell? ⟨w.heap.size, 3, none⟩ = some (.int .u16 (x3 : Int)) ∧ W.cell? ⟨w.heap.size, 4, none⟩ = some (.int .u16 (x4 : Int))
      ∧ W.cell? ⟨w.heap.size + 1, 0, none⟩ = some (vAt W ⟨w.heap.size + 1, 0, none⟩) ∧ W.cell? ⟨w.heap.size + 1, 1, none⟩ = some (vAt W ⟨w.heap.size + 1, 1, none⟩) ∧ W.cell? ⟨w.heap.size + 1, 2, none⟩ = some (vAt W ⟨w.heap.size + 1, 2, none⟩) ∧ W.cell? ⟨w.heap.size + 1, 3, none⟩ = some (vAt W ⟨w.heap.size + 1, 3, none⟩)
      ∧ W.frozen? ⟨w.heap.size + 1, 0, none⟩ = false ∧ W.frozen? ⟨w.heap.size + 1, 1, none⟩ = false ∧ W.frozen? ⟨w.heap.size + 1, 2, none⟩ = false ∧ W.frozen? ⟨w.heap.size + 1, 3, none⟩ = false)
    ((go_split_ands; refine ⟨?_, ?_, ?_, ?_, ?_, ?_, ?_, ?_, ?_, ?_, ?_, ?_, ?_, ?_, ?_⟩ <;> first | (with_reducible assumption) | with_reducible exact Below.drew (by assumption) | with_reducible exact size_drew (by assumption) | with_reducible exact cell_drew (by assumption) | with_reducible exact vAt_drew (by assumption) | with_reducible exact frozen_drew (by assumption) | with_reducible exact below_keep (by assumption) (by assumption) | with_reducible exact size_keep (by assumption) (by assumption) | with_reducible exact cell_keep (by assumption) (by assumption) | with_reducible exact vAt_keep (by assumption) (by assumption) | with_reducible exact frozen_keep (by assumption) (by assumption) (by assumption) | with_reducible exact below_alloc_keep (by assumption) | with_reducible exact size_alloc_keep (by assumption) | with_reducible exact cell_alloc (by assumption) | with_reducible exact vAt_alloc (by assumption) | with_reducible exact frozen_alloc (by assumption) (by assumption) | with_reducible exact below_alloc_drew (by assumption) | with_reducible exact size_alloc_drew (by assumption) | with_reducible exact cell_alloc_drew (by assumption) | with_reducible exact vAt_alloc_drew (by assumption) | with_reducible exact frozen_alloc_drew (by assumption) (by assumption) | with_reducible exact below_set4 (by assumption) (by simp) (by simp) (by simp) (by simp) | with_reducible exact size_set4 (by assumption) | with_reducible exact cell_set4 (by assumption) (by simp) rfl rfl rfl | with_reducible exact vAt_set4 (by assumption) | with_reducible exact frozen_set4 (by assumption)))
    (first
      | (go_at_call 52; go_split_ands; refine (HV _).out.mono ?_; rintro e wV ⟨va, vc, rfl, hSV, hbV⟩; have hlV := size_of (by assumption : w.heap.size + 1 < _) hbV; have hSV' : Sl valE wV (fun k => k ≤ w.heap.size + 1) (.slice va 2 vc) [gval0 x2, gval1 x3] := hSV.mono (fun k _ hk => Nat.lt_of_le_of_lt hk hlV))
      | (go_at_call 29; refine (HP _).out.mono ?_; rintro e wP ⟨rfl, hbP⟩))
  · clear hm1 hm2 hm3
    have e0 := cell_alloc (o := (.cells #[.int .i64 (1 + (x4 : Int) % 5)] 3)) (cell_keep hbP (cell_keep hbV (cell_drew d0)))
    have e1 := cell_alloc (o := (.cells #[.int .i64 (1 + (x4 : Int) % 5)] 3)) (cell_keep hbP (cell_keep hbV (cell_drew d1)))
    have e2 := cell_alloc (o := (.cells #[.int .i64 (1 + (x4 : Int) % 5)] 3)) (cell_keep hbP (cell_keep hbV (cell_drew d2)))
    have e3 := cell_alloc (o := (.cells #[.int .i64 (1 + (x4 : Int) % 5)] 3)) (cell_keep hbP (cell_keep hbV (cell_drew d3)))
    have hblk := World.alloc_heap_new wP (.cells #[.int .i64 (1 + (x4 : Int) % 5)] 3)
    go_wp2_with fail
    refine bodyPost_ret (v := .agg #[.slice va 2 vc, .int .i64 plo, .int .i64 phi, .slice (some ⟨wP.heap.size, 0, none⟩) 1 1]) ?_ rfl (tuple_end (t := ⟨[gval0 x2, gval1 x3], plo, phi, [1 + (x4 % 5 : Nat)]⟩) (kept_set4 (Nat.le_refl _) (Nat.le_refl _) (Nat.le_refl _) (Nat.le_refl _)) ((hSV'.below hbP).below (below_alloc _ _)) (Sl.of_block hblk (Els.one (cs := [.int .i64 (1 + (x4 : Int) % 5)]) rfl) (by have h5 := hlV; have h6 := hbV.size; have h7 := hbP.size; omega) rfl (by simp) (by simp)) (by simp) (by simp) (by go_split_ands; with_reducible assumption))
    simp [results, Try.results69, go_sem, e0, e1, e2, e3]
  · clear hm1 hm2 hm3
    have e0 := cell_keep hbP (cell_alloc (cell_keep hbV (cell_drew d0)))
    have e1 := cell_keep hbP (cell_alloc (cell_keep hbV (cell_drew d1)))
    have e2 := cell_keep hbP (cell_alloc (cell_keep hbV (cell_drew d2)))
    have e3 := cell_keep hbP (cell_alloc (cell_keep hbV (cell_drew d3)))
    have hblk := box_kept (World.alloc_heap_new wV (.cells #[.int .i64 (1 + (x4 : Int) % 5)] 3)) hbP
    go_wp2_with fail
    refine bodyPost_ret (v := .agg #[.slice va 2 vc, .int .i64 plo, .int .i64 phi, .slice (some ⟨wV.heap.size, 0, none⟩) 1 1]) ?_ rfl (tuple_end (t := ⟨[gval0 x2, gval1 x3], plo, phi, [1 + (x4 % 5 : Nat)]⟩) (kept_set4 (Nat.le_refl _) (Nat.le_refl _) (Nat.le_refl _) (Nat.le_refl _)) (hSV'.below (below_alloc2' hbP)) (Sl.of_block hblk (Els.one (cs := [.int .i64 (1 + (x4 : Int) % 5)]) rfl) (by have h5 := hlV; have h6 := hbV.size; omega) rfl (by simp) (by simp)) (by simp) (by simp) (by go_split_ands; with_reducible assumption))
    simp [results, Try.results69, go_sem, e0, e1, e2, e3]
  · clear hm1 hm2 hm3
    have e0 := cell_keep hbP (cell_keep hbV (cell_alloc_drew (cell_drew d0)))
    have e1 := cell_keep hbP (cell_keep hbV (cell_alloc_drew (cell_drew d1)))
    have e2 := cell_keep hbP (cell_keep hbV (cell_alloc_drew (cell_drew d2)))
    have e3 := cell_keep hbP (cell_keep hbV (cell_alloc_drew (cell_drew d3)))
    have hblk := box_kept (box_kept_drew1 (World.alloc_heap_new ((w.alloc (.cells #[.int .u16 (x0 : Int), .int .u16 (x1 : Int), .int .u16 (x2 : Int), .int .u16 (x3 : Int), .int .u16 (x4 : Int)] 116)).alloc (.cells #[.slice none 0 0, .int .i64 0, .int .i64 0, .slice none 0 0] 67)) (.cells #[.int .i64 (1 + (x4 : Int) % 5)] 3)) hbV) hbP
    simp only [World.size_alloc] at hblk
    go_wp2_with fail
    refine bodyPost_ret (v := .agg #[.slice va 2 vc, .int .i64 plo, .int .i64 phi, .slice (some ⟨w.heap.size + 1 + 1, 0, none⟩) 1 1]) ?_ rfl (tuple_end (t := ⟨[gval0 x2, gval1 x3], plo, phi, [1 + (x4 % 5 : Nat)]⟩) (kept_set4 (Nat.le_refl _) (Nat.le_refl _) (Nat.le_refl _) (Nat.le_refl _)) (hSV'.below hbP) (Sl.of_block hblk (Els.one (cs := [.int .i64 (1 + (x4 : Int) % 5)]) rfl) (by omega) rfl (by simp) (by simp)) (by simp) (by simp) (by go_split_ands; with_reducible assumption))
    simp [results, Try.results69, go_sem, e0, e1, e2, e3]
end Go.Proofs.Ytminnkihcohflaa
