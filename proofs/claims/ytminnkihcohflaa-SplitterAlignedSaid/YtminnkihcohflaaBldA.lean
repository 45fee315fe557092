/- The laws' builders of values, periods and rows. No condition. -/
import Derived.Test.YtminnkihcohflaaSplB
import Derived.Test.YtminnkihcohflaaElB
namespace Go.Proofs.Ytminnkihcohflaa
open Go.RowKit Go.Lib Go.Shelf

def gnull : GVal := ⟨0, 0, ⟨#[]⟩⟩
def gint (n : Int) : GVal := ⟨1, n, ⟨#[]⟩⟩
def gtext (x : Nat) : ByteArray := if x % 3 = 0 then ⟨#[]⟩ else if x % 3 = 1 then ⟨#[97]⟩ else ⟨#[98, 39]⟩
def gval0 (x : Nat) : GVal := if x % 7 = 6 then gnull else gint ((x % 3 : Nat) - 1)
def gval1 (x : Nat) : GVal := if x % 7 = 6 then gnull else ⟨2, 0, gtext x⟩
def gper (x y : Nat) : Int × Int := ((x % 40 : Nat), if y % 11 = 0 then 1000000 else (x % 40 : Nat) + 1 + (y % 15 : Nat))
def gtup (x0 x1 x2 x3 x4 : Nat) : Tup := ⟨[gval0 x2, gval1 x3], (gper x0 x1).1, (gper x0 x1).2, [1 + (x4 % 5 : Nat)]⟩
/-- The value as the walk has it. -/
def aggG (v : GVal) : Value := .agg #[.int .i64 v.kind, .int .i64 v.n, .string v.s]

theorem box_three {w : World} {g : Nat} {x y z : Value} {e : TypeId} (h : w.heap[g]? = some (.cells #[x, y, z] e (0, 0))) :
    (w.cell? ⟨g, 0, none⟩ = some x ∧ w.cell? ⟨g, 1, none⟩ = some y ∧ w.cell? ⟨g, 2, none⟩ = some z) ∧ w.frozen? ⟨g, 0, none⟩ = false ∧ w.frozen? ⟨g, 1, none⟩ = false ∧ w.frozen? ⟨g, 2, none⟩ = false := by
  refine ⟨⟨?_, ?_, ?_⟩, ?_, ?_, ?_⟩ <;> simp [World.cell?, World.frozen?, h]
set_option maxHeartbeats 1000000 in
theorem intValue_any (n : Int) (w : World) : Calls Try.prog 113 #[.int .i64 n] w fun e w' => e = .returned (.agg #[.int .i64 1, .int .i64 n, .string ⟨#[]⟩]) ∧ Below w.heap.size w w' := by
  go_enter Try.func113, Try.ntmps113
  go_wp2
  exact bodyPost_ret (v := .agg #[.int .i64 1, .int .i64 n, .string ⟨#[]⟩]) (by simp [results, Try.results113, go_sem]) rfl ⟨rfl, (Below.refl _ _).alloc (Nat.le_refl _) _⟩

set_option maxHeartbeats 2000000 in
theorem value0_any (x : Nat) (hx : x < 65536) (w : World) : Calls Try.prog 83 #[.int .i64 0, .int .u16 (x : Int)] w fun e w' => e = .returned (aggG (gval0 x)) ∧ Below w.heap.size w w' := by
  by_cases h7 : x % 7 = 6
  · have h7' : (((x : Int) % 7) == 6) = true := by rw [beq_iff_eq]; omega
    have HG : Hid (gval0 x = gnull) := by show _ = _; simp [gval0, h7]
    clear h7
    go_enter Try.func83, Try.ntmps83
    go_wp2_with fail
    exact bodyPost_ret (v := aggG gnull) (by simp [aggG, gnull, results, Try.results83, go_sem]) rfl ⟨by rw [HG.out], by first | exact (Below.refl _ _).alloc (Nat.le_refl _) _ | exact (below_alloc_two w _ _)⟩
  · have h7' : (((x : Int) % 7) == 6) = false := by rw [beq_eq_false_iff_ne]; omega
    have HG : Hid (gval0 x = gint ((x : Int) % 3 - 1)) := by show _ = _; simp [gval0, h7]
    clear h7
    go_enter Try.func83, Try.ntmps83
    go_wp2_with fail
    refine (intValue_any _ _).mono ?_
    rintro e w1 ⟨rfl, hb1⟩
    obtain ⟨⟨c0, c1, c2⟩, f0, f1, f2⟩ := box_three (box_kept (World.alloc_heap_new w (.cells #[.int .i64 0, .int .i64 0, .string ⟨#[]⟩] 79)) hb1)
    have hz : w.heap.size < w1.heap.size := by have := hb1.size; simp at this; omega
    have hb := below_alloc2' hb1
    clear hb1
    go_wp2_with fail
    exact bodyPost_ret (v := aggG (gint ((x : Int) % 3 - 1))) (by simp [aggG, gint, results, Try.results83, go_sem, c0, c1, c2, hz]) rfl ⟨by rw [HG.out], ((hb.setCell (Nat.le_refl _) _).setCell (Nat.le_refl _) _).setCell (Nat.le_refl _) _⟩
theorem gtext_0 {x : Nat} (h : x % 3 = 0) : gtext x = ⟨#[]⟩ := by simp [gtext, h]
theorem gtext_1 {x : Nat} (h : x % 3 = 1) : gtext x = ⟨#[97]⟩ := by simp [gtext, h]
theorem gtext_2 {x : Nat} (h : x % 3 = 2) : gtext x = ⟨#[98, 39]⟩ := by simp [gtext, h]
set_option maxHeartbeats 2000000 in
theorem value1_any (x : Nat) (hx : x < 65536) (w : World) : Calls Try.prog 83 #[.int .i64 1, .int .u16 (x : Int)] w fun e w' => e = .returned (aggG (gval1 x)) ∧ Below w.heap.size w w' := by
  by_cases h7 : x % 7 = 6
  · have h7' : (((x : Int) % 7) == 6) = true := by rw [beq_iff_eq]; omega
    have HG : Hid (gval1 x = gnull) := by show _ = _; simp [gval1, h7]
    clear h7
    go_enter Try.func83, Try.ntmps83
    go_wp2_with fail
    exact bodyPost_ret (v := aggG gnull) (by simp [aggG, gnull, results, Try.results83, go_sem]) rfl ⟨by rw [HG.out], by first | exact (Below.refl _ _).alloc (Nat.le_refl _) _ | exact (below_alloc_two w _ _)⟩
  · have h7' : (((x : Int) % 7) == 6) = false := by rw [beq_eq_false_iff_ne]; omega
    have HG : Hid (gval1 x = ⟨2, 0, gtext x⟩) := by show _ = _; simp [gval1, h7]
    clear h7
    rcases (by omega : x % 3 = 0 ∨ x % 3 = 1 ∨ x % 3 = 2) with h3 | h3 | h3
    · have hm : (x : Int) % 3 = 0 := by omega
      have HT := Lib.hid (gtext_0 h3)
      clear h3
      go_enter Try.func83, Try.ntmps83
      go_wp2_with fail
      exact bodyPost_ret (v := aggG ⟨2, 0, ⟨#[]⟩⟩) (by simp [aggG, results, Try.results83, go_sem]) rfl ⟨by rw [HG.out, HT.out], by first | exact below_alloc_two w _ _ | exact ((below_alloc_two w _ _).setCell (by simp) _)⟩
    · have hm : (x : Int) % 3 = 1 := by omega
      have HT := Lib.hid (gtext_1 h3)
      clear h3
      go_enter Try.func83, Try.ntmps83
      go_wp2_with fail
      exact bodyPost_ret (v := aggG ⟨2, 0, ⟨#[97]⟩⟩) (by simp [aggG, results, Try.results83, go_sem]) rfl ⟨by rw [HG.out, HT.out], by first | exact below_alloc_two w _ _ | exact ((below_alloc_two w _ _).setCell (by simp) _)⟩
    · have hm : (x : Int) % 3 = 2 := by omega
      have HT := Lib.hid (gtext_2 h3)
      clear h3
      go_enter Try.func83, Try.ntmps83
      go_wp2_with fail
      exact bodyPost_ret (v := aggG ⟨2, 0, ⟨#[98, 39]⟩⟩) (by simp [aggG, results, Try.results83, go_sem]) rfl ⟨by rw [HG.out, HT.out], by first | exact below_alloc_two w _ _ | exact ((below_alloc_two w _ _).setCell (by simp) _)⟩
/-- What a call hands back that makes a slice in newer memory. -/
def RetNew {P : Program} {α : Type} (E : El P α) (w : World) (l : List α) (e : Ending) (w' : World) : Prop := ∃ a c, e = .returned (.slice a l.length c) ∧ Sl E w' (fun k => k < w.heap.size) (.slice a l.length c) l ∧ Below w.heap.size w w'
set_option maxHeartbeats 2000000 in
theorem vals_any (x y : Nat) (hx : x < 65536) (hy : y < 65536) (w : World) : Calls Try.prog 52 #[.int .u16 (x : Int), .int .u16 (y : Int)] w (RetNew valE w [gval0 x, gval1 y]) := by
  go_enter Try.func52, Try.ntmps52
  go_wp2_with fail
  refine (value0_any x hx w).mono ?_
  rintro e w1 ⟨rfl, hb1⟩
  unfold aggG
  go_wp2_with fail
  refine (value1_any y hy w1).mono ?_
  rintro e w2 ⟨rfl, hb2⟩
  have hb := below_keep hb1 hb2
  unfold aggG
  go_wp2_with fail
  go_ret
  refine ⟨_, _, rfl, ?_, below_alloc_keep hb⟩
  exact Sl.of_block (World.alloc_heap_new w2 _) (Els.cons (cs := [.int .i64 (gval0 x).kind, .int .i64 (gval0 x).n, .string (gval0 x).s]) rfl (Els.one (cs := [.int .i64 (gval1 y).kind, .int .i64 (gval1 y).n, .string (gval1 y).s]) rfl)) (by have := hb.size; omega) rfl (by simp) (by simp)
set_option maxHeartbeats 2000000 in
theorem period_any (x y : Nat) (hx : x < 65536) (hy : y < 65536) (w : World) : Calls Try.prog 29 #[.int .u16 (x : Int), .int .u16 (y : Int)] w fun e w' => e = .returned (.agg #[.int .i64 (gper x y).1, .int .i64 (gper x y).2]) ∧ Below w.heap.size w w' := by
  by_cases h : y % 11 = 0
  · have h' : (((y : Int) % 11) == 0) = true := by rw [beq_iff_eq]; omega
    have HG : Hid (gper x y = ((x : Int) % 40, 1000000)) := by show _ = _; simp [gper, h]
    clear h
    go_enter Try.func29, Try.ntmps29
    go_wp2_with fail
    exact bodyPost_ret (v := .agg #[.int .i64 ((x : Int) % 40), .int .i64 1000000]) (by simp [results, Try.results29, go_sem]) rfl ⟨by rw [HG.out], by first | exact below_alloc_two w _ _ | exact (((below_alloc_two w _ _).setCell (by simp) _).setCell (by simp) _)⟩
  · have h' : (((y : Int) % 11) == 0) = false := by rw [beq_eq_false_iff_ne]; omega
    have HG : Hid (gper x y = ((x : Int) % 40, (x : Int) % 40 + 1 + (y : Int) % 15)) := by show _ = _; simp [gper, h]
    clear h
    go_enter Try.func29, Try.ntmps29
    go_wp2_with fail
    exact bodyPost_ret (v := .agg #[.int .i64 ((x : Int) % 40), .int .i64 ((x : Int) % 40 + 1 + (y : Int) % 15)]) (by simp [results, Try.results29, go_sem]) rfl ⟨by rw [HG.out], by first | exact below_alloc_two w _ _ | exact (((below_alloc_two w _ _).setCell (by simp) _).setCell (by simp) _)⟩
end Go.Proofs.Ytminnkihcohflaa
