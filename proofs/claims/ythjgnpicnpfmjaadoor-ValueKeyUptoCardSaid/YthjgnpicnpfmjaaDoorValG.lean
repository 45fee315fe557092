/- The definition's decimal text of a number. No condition beside that it is one of 64 bits. -/
import Derived.Test.YthjgnpicnpfmjaaDoorValF
import Derived.Test.YthjgnpicnpfmjaaDoorElB
import Derived.Lib.BufferRead
namespace Go.Proofs.YthjgnpicnpfmjaaDoor
open Go.RowKit

theorem byte_info : (Tryd.prog.info? 5).map (fun i => (i.zero, i.size, i.bytes)) = some (some (.int .u8 0), 1, 1) := by kernel_rfl
def byteE : El Tryd.prog UInt8 := El.flat 5 1 1 (by decide) (info_mk byte_info rfl) (fun c => [.int .u8 c.toNat]) (fun _ => rfl) (by intro x u hu; simp at hu; subst hu; rfl)
theorem byteCells_flat (l : List UInt8) : l.flatMap (fun c => [Value.int .u8 c.toNat]) = Lib.byteCells l := by
  induction l with
  | nil => rfl
  | cons x l ih => rw [List.flatMap_cons, ih]; rfl
theorem bytes_convert {B : Nat} {v : Value} {l : List UInt8} {W : World} (ho : Own byteE W B v l) :
    (convert 48 9 v).run Tryd.prog W = .ok (.string ⟨l.toArray⟩) W := by
  have h := Own.flat_cells ho
  rw [byteCells_flat] at h
  rcases h.2 with ⟨rfl, h0⟩ | ⟨g, cap, cur, rfl, hb, hg, hn, hm, hc, ht⟩
  · rw [List.eq_nil_of_length_eq_zero h0]
    exact Lib.run_convert_nil_bytes W _ _ _ 0 Tryd.underlying48 Tryd.underlying5 Tryd.underlying9
  · exact run_convert_bytes_back W _ _ _ _ cap l Tryd.underlying48 Tryd.underlying5 Tryd.underlying9 (Lib.bytes_of_row hg (by simpa using ht))
/-- A literal of one byte. -/
theorem byte_lit (w : World) (B : Nat) (c : UInt8) (hB : B ≤ w.heap.size) : Own byteE (w.alloc (.cells #[.int .u8 c.toNat] 5)) B (.slice (some ⟨w.heap.size, 0, none⟩) 1 1) [c] := by
  refine Own.of_flat ?_
  rw [byteCells_flat]
  refine ⟨by simp [Lib.byteCells], .inr ⟨w.heap.size, 1, #[.int .u8 c.toNat], rfl, hB, heap_alloc_new w _, by simp, by unfold maxLen; simp, by simp, by simp [Lib.byteCells]⟩⟩
theorem dec_last (u : Nat) : Lib.decDigits u = (if u / 10 = 0 then [] else Lib.decDigits (u / 10)) ++ [UInt8.ofNat (48 + u % 10)] := by
  by_cases h : u < 10
  · rw [Lib.decDigits, dif_pos h, if_pos (by omega), show u % 10 = u by omega]; rfl
  · rw [Lib.decDigits, dif_neg h, if_neg (by omega)]
structure DecRel (N : Nat) (w : World) (u : Nat) (acc : List UInt8) (v : Value) (wr : World) : Prop where
  le : u ≤ N
  start : acc = [] → u = N
  val : acc ≠ [] → Lib.decDigits N = (if u = 0 then [] else Lib.decDigits u) ++ acc
  len : acc.length + (if u = 0 then 0 else Lib.nDigits u) ≤ 20
  own : Own byteE wr w.heap.size v acc
  below : Below w.heap.size w wr
theorem DecRel.next {N : Nat} {w : World} {u : Nat} {acc : List UInt8} {v v' : Value} {wr w' : World} (h : DecRel N w u acc v wr) (hu : 0 < u ∨ acc = []) (hN : N < 18446744073709551616)
    (ho : Own byteE w' w.heap.size v' (UInt8.ofNat (48 + u % 10) :: acc)) (hb : Below w.heap.size w w') : DecRel N w (u / 10) (UInt8.ofNat (48 + u % 10) :: acc) v' w' := by
  refine ⟨by have := h.le; omega, (fun e => by cases e), fun _ => ?_, ?_, ho, hb⟩
  · have hd := dec_last u
    by_cases ha : acc = []
    · rw [← h.start ha, hd, ha]
    · have hu0 : u ≠ 0 := by rcases hu with h1 | h1; omega; exact absurd h1 ha
      rw [h.val ha, if_neg hu0, hd]
      simp
  · have hl := h.len
    by_cases ha : acc = []
    · subst ha
      have hn := Lib.nDigits_le20 u (by have := h.le; omega)
      by_cases h10 : u < 10
      · rw [if_pos (by omega)]; simp
      · rw [if_neg (by omega)]
        have := Lib.nDigits_big h10
        simp; omega
    · have hu0 : u ≠ 0 := by rcases hu with h1 | h1; omega; exact absurd h1 ha
      rw [if_neg hu0] at hl
      by_cases h10 : u < 10
      · rw [if_pos (by omega)]
        have := Lib.nDigits_pos u
        simp; omega
      · rw [if_neg (by omega)]
        have := Lib.nDigits_big h10
        simp; omega
theorem DecRel.end_ {N : Nat} {w : World} {acc : List UInt8} {v : Value} {wr : World} (h : DecRel N w 0 acc v wr) (ha : acc ≠ []) : acc = Lib.decDigits N := by rw [h.val ha]; simp
def sLen : Value → Nat
  | .slice _ n _ => n
  | _ => 0
set_option maxHeartbeats 2000000 in
set_option maxRecDepth 100000 in
theorem decimal_any (n : Int) (hn : In64 n) (w : World) : Calls Tryd.prog 29 #[.int .i64 n] w fun e w' => e = .returned (.string ⟨(Lib.itoa n).toArray⟩) ∧ Below w.heap.size w w' := by
  obtain ⟨N, hN⟩ : ∃ N : Nat, N = n.natAbs := ⟨_, rfl⟩
  have hlt : N < 18446744073709551616 := by rw [hN]; exact natAbs_lt hn
  obtain ⟨sg, hsg⟩ : ∃ sg : List UInt8, sg = if n < 0 then [45] else [] := ⟨_, rfl⟩
  have HO : Hid (Lib.itoa n = sg ++ Lib.decDigits N) := by
    show _ = _
    unfold Lib.itoa
    rw [hsg, hN]
    by_cases h : n < 0
    · rw [if_pos h, if_pos h]; rfl
    · rw [if_neg h, if_neg h, show n.toNat = n.natAbs by omega]; rfl
  have HSG : Hid ((ByteArray.mk sg.toArray) = if n < 0 then ⟨#[45]⟩ else ⟨#[]⟩) := by
    show _ = _
    rw [hsg]; split <;> rfl
  have HU : Hid ((if n < 0 then IntKind.u64.wrap (-IntKind.u64.wrap n) else IntKind.u64.wrap n) = (N : Int)) := by
    show _ = _
    by_cases h : n < 0
    · rw [if_pos h, u64_neg hn h, hN]
    · rw [if_neg h, u64_mod, hN]; unfold In64 at hn; omega
  have hsgl : sg.length ≤ 1 := by rw [hsg]; split <;> simp
  clear hN hsg
  have HLT := Lib.hid hlt
  clear hlt
  by_cases hneg : n < 0
  all_goals
    first
      | (have HU2 : Hid (IntKind.u64.wrap (-IntKind.u64.wrap n) = (N : Int)) := by (show _ = _; rw [← HU.out, if_pos hneg])
         have HSG2 : Hid ((ByteArray.mk #[45]) = (ByteArray.mk sg.toArray)) := by (show _ = _; rw [HSG.out, if_pos hneg]))
      | (have HU2 : Hid (IntKind.u64.wrap n = (N : Int)) := by (show _ = _; rw [← HU.out, if_neg hneg])
         have HSG2 : Hid ((ByteArray.mk #[]) = (ByteArray.mk sg.toArray)) := by (show _ = _; rw [HSG.out, if_neg hneg]))
    go_enter Tryd.func29, Tryd.ntmps29
    go_wp2_with fail
    rw [HU2.out, HSG2.out]
    clear HU HSG
    go_loopw [3, 5] (fun u b wr => ∃ (k : Nat) (acc : List UInt8), u = .int .u64 (k : Int) ∧ Hid (DecRel N w k acc b wr)) (fun u b _ => (intOf u).toNat + (if sLen b = 0 then 1 else 0))
    case atStart => exact ⟨N, [], rfl, Lib.hid ⟨Nat.le_refl _, fun _ => rfl, fun h => absurd rfl h, by have := Lib.nDigits_le20 N HLT.out; simp; split <;> omega, Own.nil _ _ _, Below.refl _ _⟩⟩
    case round =>
      obtain ⟨k, acc, rfl, HR⟩ := hrel
      obtain ⟨wo, rfl⟩ : ∃ wo : World, wo = wr := ⟨_, rfl⟩
      obtain ⟨va, vc, rfl⟩ := HR.out.own.shape
      have hlen : acc.length ≤ 20 := by have := HR.out.len; omega
      by_cases hgo : 0 < k ∨ acc = []
      · have H48 : Hid (((UInt8.ofNat (48 + k % 10)).toNat : Int) = 48 + (k : Int) % 10) := by
          show _ = _
          rw [dig_byte _ (Nat.mod_lt _ (by omega))]; omega
        have hsz := HR.out.below.size
        have HL : Hid (Own byteE (wo.alloc (.cells #[.int .u8 (48 + (k : Int) % 10)] 5)) w.heap.size (.slice (some ⟨wo.heap.size, 0, none⟩) 1 1) [UInt8.ofNat (48 + k % 10)]) := by
          rw [← H48.out]; exact Lib.hid (byte_lit wo w.heap.size (UInt8.ofNat (48 + k % 10)) hsz)
        have HS : Hid (Sl byteE (wo.alloc (.cells #[.int .u8 (48 + (k : Int) % 10)] 5)) (fun k => some k = (Value.slice (some ⟨wo.heap.size, 0, none⟩) 1 1).ownBlock) (.slice va acc.length vc) acc) :=
          ((HR.out.own.sl.old (Nat.le_refl _)).mono (fun k hk e => by cases e; exact Nat.le_refl _)).below (below_alloc _ _)
        have HB := Lib.hid (below_alloc_keep (o := .cells #[.int .u8 (48 + (k : Int) % 10)] 5) HR.out.below)
        have HM : Hid ((k / 10 = k → acc = []) ∧ (k / 10 ≤ k)) := ⟨fun h => by rcases hgo with h1 | h1; omega; exact h1, by omega⟩
        have HG := Lib.hid hgo
        have HQ : Hid (IntKind.u64.wrap ((k : Int) / 10) = ((k / 10 : Nat) : Int)) := by
          show _ = _
          have h1 := HR.out.le
          have h2 := HLT.out
          rw [u64_mod]; omega
        by_cases hk : 0 < k
        · clear hgo
          go_wp2_with (at_builtin; refine wpList_join rfl (.tmp 23) (.tmp 24) 48 rfl byteE Tryd.underlying48 w.heap.size (.slice (some ⟨wo.heap.size, 0, none⟩) 1 1) (.slice va acc.length vc) [UInt8.ofNat (48 + k % 10)] acc rfl rfl HL.out HS.out (by unfold maxLen; simp; omega) (by show _ * 1 ≤ _; simp; omega) HB.out.size (acc.length + 1) (by simp; omega) ?_; intro x1 y1 w1 hJ)
          have HD := Lib.hid (HR.out.next HG.out HLT.out hJ.own (HB.out.trans hJ.below))
          clear hJ
          rw [HQ.out]
          go_roundw
          case rel => exact ⟨k / 10, _, rfl, HD⟩
          case measure => simp [intOf, sLen]; split <;> omega
        · have hk0' : k = 0 := by omega
          subst hk0'
          have hacc : acc = [] := by rcases hgo with h1 | h1; exact absurd h1 hk; exact h1
          subst hacc
          clear hgo
          go_wp2_with (at_builtin; refine wpList_join rfl (.tmp 23) (.tmp 24) 48 rfl byteE Tryd.underlying48 w.heap.size (.slice (some ⟨wo.heap.size, 0, none⟩) 1 1) (.slice va 0 vc) [UInt8.ofNat (48 + 0 % 10)] [] rfl rfl HL.out HS.out (by unfold maxLen; simp) (by show _ * 1 ≤ _; simp) HB.out.size 1 (by simp) ?_; intro x1 y1 w1 hJ)
          have HD := Lib.hid (HR.out.next HG.out HLT.out hJ.own (HB.out.trans hJ.below))
          clear hJ
          go_roundw
          case rel => exact ⟨0, _, by go_num, HD⟩
          case measure => simp [intOf, sLen]
      · have hk0' : k = 0 := by omega
        subst hk0'
        have hacc : 0 < acc.length := List.length_pos_iff.2 (fun e => hgo (.inr e))
        have hc := bytes_convert HR.out.own
        have HV : Hid (acc = Lib.decDigits N) := Lib.hid (HR.out.end_ (fun e => hgo (.inr e)))
        have HB := Lib.hid HR.out.below
        clear hgo
        go_wp2_with fail
        go_ret
        rw [HO.out, ← HV.out, ← app_bytes]
        exact ⟨rfl, HB.out⟩
end Go.Proofs.YthjgnpicnpfmjaaDoor
