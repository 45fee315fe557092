/- The laws' own 'text': a string made of the characters that occur in statements. No condition. -/
import Derived.Test.YtbabencadnlmlaaDoorLexW
import Derived.Test.YtbabencadnlmlaaDoorLift
namespace Go.Proofs.YtbabencadnlmlaaDoor
open Go.RowKit

def parts : List (List UInt8) := [[32], [97], [66], [83, 69, 76, 69, 67, 84], [120, 95, 49], [39], [39, 39], [49, 50], [57, 57, 57, 57, 57, 57, 57, 57, 57, 57, 57, 57, 57, 57, 57, 57, 57, 57, 57], [40], [41], [44], [46], [42], [43], [45], [61], [60], [62], [59], [10], [9], [33], [108, 111, 110, 103, 95, 110, 97, 109, 101, 95, 111, 102, 95, 50, 49, 95, 98, 121, 116, 101, 115, 95], [39, 105, 116, 39]]
def partOf (x : Nat) : List UInt8 := parts.getD (x % 25) []
def textL (l : List Nat) : List UInt8 := (l.take 200).flatMap partOf
def partCells : List Value := parts.map fun t => .string ⟨t.toArray⟩
theorem partCells_at (x : Nat) : partCells[x % 25]? = some (.string ⟨(partOf x).toArray⟩) := by
  have h : x % 25 < parts.length := Nat.mod_lt _ (by decide)
  unfold partCells partOf
  rw [List.getElem?_map, List.getD_eq_getElem?_getD, List.getElem?_eq_getElem h]; rfl
theorem partOf_len (x : Nat) : (partOf x).length ≤ 22 := by
  have h : x % 25 < parts.length := Nat.mod_lt _ (by decide)
  have h2 : ∀ t ∈ parts, t.length ≤ 22 := by decide
  unfold partOf
  rw [List.getD_eq_getElem?_getD, List.getElem?_eq_getElem h]
  exact h2 _ (List.getElem_mem h)

/-- The parts lie in a block. -/
def PartsAt (w : World) (g : Nat) : Prop := ∀ x, w.cell? ⟨g, x % 25, none⟩ = some (.string ⟨(partOf x).toArray⟩)
theorem partsAt_new (w : World) : PartsAt (w.alloc (.cells partCells.toArray 9)) w.heap.size := by
  intro x
  rw [cell_of_row _ w.heap.size (x % 25) partCells.toArray 9 (0, 0) (heap_alloc_new w _)]; simpa using partCells_at x

/-- A cell of a []uint16. -/
def U16Is (_ : World) (x : Nat) (cs : List Value) : Prop := cs = [.int .u16 (x : Int)] ∧ x < 65536

set_option maxRecDepth 100000 in
set_option maxHeartbeats 1000000 in
theorem text_any (v : Value) (l : List Nat) (w : World) (h : SliceOf w 1 U16Is v l) :
    Calls Tryd.prog 13 #[v] w fun e w' => e = .returned (.string ⟨(textL l).toArray⟩) ∧ Below w.heap.size w w' := by
  obtain ⟨hm, a, c, rfl, hc, hp⟩ := h
  have HP := Lib.hid hp
  clear hp
  obtain ⟨n, hn⟩ : ∃ n, n = l.length := ⟨_, rfl⟩
  have HN := Lib.hid hn
  rw [← hn] at hm hc HP ⊢
  clear hn
  go_enter Tryd.func13, Tryd.ntmps13
  go_wp2_with fail
  go_loopw [4, 5] (fun s i wr => ∃ (k : Nat) (acc : List UInt8), k ≤ n ∧ k ≤ 200 ∧ i = .int .i64 k ∧ s = .string ⟨acc.toArray⟩ ∧ acc = (l.take k).flatMap partOf ∧ acc.length ≤ k * 22 ∧ PartsAt wr w.heap.size ∧ Below w.heap.size w wr) (fun _ i _ => n - (intOf i).toNat)
  case atStart => exact ⟨0, [], Nat.zero_le _, Nat.zero_le _, rfl, rfl, rfl, by simp, partsAt_new w, below_alloc _ _⟩
  case round =>
    obtain ⟨k, acc, hk, hk2, rfl, rfl, hacc, hlen, hpa, hB⟩ := hrel
    have HACC := Lib.hid hacc
    clear hacc
    have HB := Lib.hid hB
    have HPA := Lib.hid hpa
    clear hB hpa
    by_cases hlt : k < n ∧ k < 200
    · obtain ⟨hlt1, hlt2⟩ := hlt
      obtain ⟨x, hx⟩ := lget_some l k (by rw [← HN.out]; exact hlt1)
      obtain ⟨b, o, ha, hcl⟩ := HP.out (by omega)
      obtain ⟨cs, _, hU, hcell⟩ := hcl k x hx
      obtain ⟨hcs, hx65⟩ := hU
      have a0 := hcell 0 _ (by rw [hcs]; rfl)
      rw [Nat.mul_one, Nat.add_zero] at a0
      subst ha
      have HX := Lib.hid hx
      have a0' : wr.cell? ⟨b, o + k, none⟩ = some (.int .u16 (x : Int)) := (HB.out.cell (World.block_lt_of_cell? w _ a0)).trans a0
      have a1 := HPA.out x
      have hpl := partOf_len x
      clear hx hcl hcell hcs a0
      go_wp2_with fail
      go_roundw
      case rel =>
        refine ⟨k + 1, acc ++ partOf x, hlt1, hlt2, by go_num, by rw [← bytes_append], ?_, by rw [List.length_append]; omega, HPA.out, HB.out⟩
        rw [take_get HX.out, List.flatMap_append, HACC.out]; simp
      case measure => simp [intOf]; omega
    · have HT : Hid (textL l = acc) := by
        show _ = _
        rw [HACC.out]; unfold textL
        rcases Nat.lt_or_ge k 200 with h | h
        · rw [List.take_of_length_le (i := 200) (by rw [← HN.out]; omega), List.take_of_length_le (i := k) (by rw [← HN.out]; omega)]
        · rw [show k = 200 by omega]
      by_cases hk3 : k < n
      · have h200 : decide ((k : Int) < 200) = false := by simp; omega
        go_wp2_with fail
        go_ret
        exact ⟨by rw [HT.out]; rfl, HB.out⟩
      · go_wp2_with fail
        go_ret
        exact ⟨by rw [HT.out]; rfl, HB.out⟩

theorem textL_len (l : List Nat) : (textL l).length ≤ 4400 := by
  have h : ∀ m : List Nat, (m.flatMap partOf).length ≤ m.length * 22 := by
    intro m
    induction m with
    | nil => simp
    | cons x m ih => rw [List.flatMap_cons, List.length_append, List.length_cons]; have := partOf_len x; omega
  have h1 := h (l.take 200)
  have h2 : (l.take 200).length ≤ 200 := List.length_take_le _ _
  unfold textL
  omega

theorem cells_u16 : Tryd.prog.cellsOf 42 = 1 := by kernel_rfl
theorem open_u16 {H : Type} {enc : TypeId × Value → H} {w : World} {spare : Nat → Bool} (n : Nat) (cs : List Value) (y : DataW H × List MemPlace)
    (h : DataW.trod enc Tryd.prog w 0 spare true n 42 cs = some y) (_ : cs.length = 1) : ∃ x, U16Is w x cs := by
  obtain ⟨x, e, _, hw⟩ := DataW.trod_int Tryd.underlying42 h
  simp [Lit.wf, IntKind.min, IntKind.max, IntKind.signed, IntKind.bits] at hw
  obtain ⟨k, rfl⟩ := Int.eq_ofNat_of_zero_le hw.1
  exact ⟨k, e, by omega⟩
end Go.Proofs.YtbabencadnlmlaaDoor
