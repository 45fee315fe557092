/- The laws of chapter 6, walked: the order. Condition: the library's table and variables read as laid. -/
import Derived.Test.YthjgnpicnpfmjaaDoorValY
import Derived.Test.YthjgnpicnpfmjaaDoorValO
namespace Go.Proofs.YthjgnpicnpfmjaaDoor
open Go.RowKit

theorem box3 {W0 W : World} {g : Nat} {x y z : Value} {e : TypeId} (hx : W0.heap[g]? = some (.cells #[x, y, z] e (0, 0))) (hb : Below W0.heap.size W0 W) : W.cell? ⟨g, 0, none⟩ = some x ∧ W.cell? ⟨g, 1, none⟩ = some y ∧ W.cell? ⟨g, 2, none⟩ = some z :=
  (box_three (box_kept hx hb)).1
theorem below_tr2 {w W0 W : World} (h : Below w.heap.size w W0) (hb : Below W0.heap.size W0 W) : Below w.heap.size w W := below_keep h hb
set_option maxHeartbeats 8000000 in
set_option maxRecDepth 100000 in
theorem vorder_walk (a b c : GVal) (w : World) (hT : Tabs w) : Calls Tryd.prog 4 #[aggG a, aggG b, aggG c] w fun e w' => e = .returned (.bool true) ∧ Below w.heap.size w w' := by
  have HT := Lib.hid hT
  have HS := Lib.hid (sgn_val a b c)
  have HAB := Lib.hid (fun W => valCmp_any a b W)
  have HBC := Lib.hid (fun W => valCmp_any b c W)
  have HAC := Lib.hid (fun W => valCmp_any a c W)
  have HBA := Lib.hid (fun W => valCmp_any b a W)
  have HSW := Lib.hid (cmpG_swap a b)
  have HSM := Lib.hid (cmpG_same a b)
  have HEQ := Lib.hid (val_eql a b)
  obtain ⟨x, hx⟩ : ∃ x, x = cmpG a b := ⟨_, rfl⟩
  obtain ⟨y, hy⟩ : ∃ x, x = cmpG b c := ⟨_, rfl⟩
  obtain ⟨z, hz⟩ : ∃ x, x = cmpG a c := ⟨_, rfl⟩
  obtain ⟨q, hq⟩ : ∃ x, x = cmpG b a := ⟨_, rfl⟩
  obtain ⟨m, hm⟩ : ∃ x, x = sameG a b := ⟨_, rfl⟩
  rw [← hx] at HS HAB HSW HSM
  rw [← hy] at HS HBC
  rw [← hz] at HS HAC
  rw [← hq] at HBA HSW
  rw [← hm] at HEQ HSM
  clear hT hx hy hz hq hm
  have hgd := val_guard
  have HGD := Lib.hid hgd
  clear hgd
  obtain ⟨k1, n1, s1⟩ := a
  obtain ⟨k2, n2, s2⟩ := b
  obtain ⟨k3, n3, s3⟩ := c
  unfold aggG at HAB HBC HAC HBA ⊢
  dsimp only at HAB HBC HAC HBA HEQ ⊢
  go_enter Tryd.func4, Tryd.ntmps4
  go_wp2_with fail
  have HX1 : Hid ((((w.alloc (.cells #[.int .i64 k1, .int .i64 n1, .string s1] 23)).alloc (.cells #[.int .i64 k2, .int .i64 n2, .string s2] 23)).alloc (.cells #[.int .i64 k3, .int .i64 n3, .string s3] 23)).heap[w.heap.size]? = some (.cells #[.int .i64 k1, .int .i64 n1, .string s1] 23)) :=
    heap_alloc_old2 (heap_alloc_old' w _ _)
  have HX2 : Hid ((((w.alloc (.cells #[.int .i64 k1, .int .i64 n1, .string s1] 23)).alloc (.cells #[.int .i64 k2, .int .i64 n2, .string s2] 23)).alloc (.cells #[.int .i64 k3, .int .i64 n3, .string s3] 23)).heap[w.heap.size + 1]? = some (.cells #[.int .i64 k2, .int .i64 n2, .string s2] 23)) :=
    heap_alloc_old2 (heap_alloc_new' w _ _)
  have HX3 : Hid ((((w.alloc (.cells #[.int .i64 k1, .int .i64 n1, .string s1] 23)).alloc (.cells #[.int .i64 k2, .int .i64 n2, .string s2] 23)).alloc (.cells #[.int .i64 k3, .int .i64 n3, .string s3] 23)).heap[w.heap.size + 1 + 1]? = some (.cells #[.int .i64 k3, .int .i64 n3, .string s3] 23)) := by
    have := heap_alloc_new ((w.alloc (.cells #[.int .i64 k1, .int .i64 n1, .string s1] 23)).alloc (.cells #[.int .i64 k2, .int .i64 n2, .string s2] 23)) (.cells #[.int .i64 k3, .int .i64 n3, .string s3] 23)
    simp only [World.size_alloc] at this
    exact this
  have HB0 : Hid (Below w.heap.size w (((w.alloc (.cells #[.int .i64 k1, .int .i64 n1, .string s1] 23)).alloc (.cells #[.int .i64 k2, .int .i64 n2, .string s2] 23)).alloc (.cells #[.int .i64 k3, .int .i64 n3, .string s3] 23))) :=
    below_alloc_keep (below_alloc_two w _ _)
  generalize ((w.alloc (.cells #[.int .i64 k1, .int .i64 n1, .string s1] 23)).alloc (.cells #[.int .i64 k2, .int .i64 n2, .string s2] 23)).alloc (.cells #[.int .i64 k3, .int .i64 n3, .string s3] 23) = W0 at HX1 HX2 HX3 HB0 ⊢
  have hB : Below W0.heap.size W0 W0 := Below.refl _ _
  obtain ⟨a0, a1, a2⟩ := box3 HX1.out hB
  obtain ⟨b0, b1, b2⟩ := box3 HX2.out hB
  obtain ⟨c0, c1, c2⟩ := box3 HX3.out hB
  go_region_held3 (fun W => Below W0.heap.size W0 W ∧ W.cell? ⟨w.heap.size, 0, none⟩ = some (.int .i64 k1) ∧ W.cell? ⟨w.heap.size, 1, none⟩ = some (.int .i64 n1) ∧ W.cell? ⟨w.heap.size, 2, none⟩ = some (.string s1)
      ∧ W.cell? ⟨w.heap.size + 1, 0, none⟩ = some (.int .i64 k2) ∧ W.cell? ⟨w.heap.size + 1, 1, none⟩ = some (.int .i64 n2) ∧ W.cell? ⟨w.heap.size + 1, 2, none⟩ = some (.string s2)
      ∧ W.cell? ⟨w.heap.size + 1 + 1, 0, none⟩ = some (.int .i64 k3) ∧ W.cell? ⟨w.heap.size + 1 + 1, 1, none⟩ = some (.int .i64 n3) ∧ W.cell? ⟨w.heap.size + 1 + 1, 2, none⟩ = some (.string s3))
    ((go_split_ands; refine ⟨?_, ?_, ?_, ?_, ?_, ?_, ?_, ?_, ?_, ?_⟩ <;> first | (with_reducible assumption) | with_reducible exact Below.drew (by assumption) | with_reducible exact cell_drew (by assumption) | with_reducible exact below_keep (by assumption) (by assumption) | with_reducible exact cell_keep (by assumption) (by assumption)))
    (first
      | (go_at_call 14; with_reducible refine (HAB.out _).mono ?_; rintro e w' ⟨rfl, hb⟩)
      | (go_at_call 14; with_reducible refine (HBC.out _).mono ?_; rintro e w' ⟨rfl, hb⟩)
      | (go_at_call 14; with_reducible refine (HAC.out _).mono ?_; rintro e w' ⟨rfl, hb⟩))
  rename_i hH
  have HBW := Lib.hid hH.1
  clear hH hb hB a0 a1 a2 b0 b1 b2 c0 c1 c2 HAB HBC HAC
  obtain ⟨hx, hy, hz, h1, h2, h3⟩ := HS.out
  clear HS
  rcases hx with rfl | rfl | rfl <;> rcases hy with rfl | rfl | rfl <;> rcases hz with rfl | rfl | rfl
  all_goals first
    | (exfalso; omega)
    | (clear h1 h2 h3
       have hq := HSW.out
       have hm := HSM.out
       subst hq hm
       have HA := Lib.hid (awake_any _ (HT.out.below (below_tr2 HB0.out HBW.out)))
       go_wp2_with fail
       refine HA.out.mono ?_
       rintro e w2 ⟨rfl, hb2⟩
       have HB2 := Lib.hid (below_keep HBW.out hb2)
       obtain ⟨a0, a1, a2⟩ := box3 HX1.out HB2.out
       obtain ⟨b0, b1, b2⟩ := box3 HX2.out HB2.out
       clear hb2 HA
       go_wp2_with fail
       refine (HBA.out _).mono ?_
       rintro e w3 ⟨rfl, hb3⟩
       have HB3 := Lib.hid (below_keep HB2.out hb3)
       obtain ⟨a0, a1, a2⟩ := box3 HX1.out HB3.out
       obtain ⟨b0, b1, b2⟩ := box3 HX2.out HB3.out
       have heq := HEQ.out
       have hgd := HGD.out
       clear hb3
       go_wp2_with fail
       go_ret
       exact ⟨rfl, below_tr2 HB0.out HB3.out⟩)
end Go.Proofs.YthjgnpicnpfmjaaDoor
