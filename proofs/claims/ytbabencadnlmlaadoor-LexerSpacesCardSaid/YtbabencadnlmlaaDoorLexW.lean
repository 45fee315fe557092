/- The laws' own check 'awake' answers true. Condition: the library's variable MaxLen holds a number. -/
import Derived.Test.YtbabencadnlmlaaDoorLexG
namespace Go.Proofs.YtbabencadnlmlaaDoor
open Go.RowKit

def awakeToks : List Tok := [⟨2, 0, [97]⟩, ⟨5, 1, [61]⟩, ⟨4, 2, [105, 116, 39, 115]⟩, ⟨6, 9, []⟩]
theorem awake_scan1 : scan [97, 61, 39, 105, 116, 39, 39, 115, 39] = ⟨awakeToks, 0, 0⟩ := by rfl
theorem awake_scan2 : scan [32, 32, 39, 120] = ⟨[], 2, 2⟩ := by rfl
theorem awake_fmt : fmtL awakeToks = [97, 32, 61, 32, 39, 105, 116, 39, 39, 115, 39] := by rfl

set_option maxRecDepth 100000 in
set_option maxHeartbeats 1000000 in
theorem awake_any (w : World) (hML : MaxLenAt w) :
    Calls Tryd.prog 9 #[] w fun e w' => e = .returned (.bool true) ∧ Below w.heap.size w w' := by
  have HML := Lib.hid hML
  clear hML
  go_enter Tryd.func9, Tryd.ntmps9
  go_wp2_with fail
  refine (scan_any ⟨#[97, 61, 39, 105, 116, 39, 39, 115, 39]⟩ (by decide) _).mono ?_
  rw [show (ByteArray.mk #[97, 61, 39, 105, 116, 39, 39, 115, 39]).data.toList = [97, 61, 39, 105, 116, 39, 39, 115, 39] from rfl, awake_scan1]
  rintro e w1 ⟨v, rfl, ho, hb1⟩
  have hrd : Reads w1 3 v 4 (tokCells awakeToks) := own_reads ho
  have HRD := Lib.hid hrd
  obtain ⟨_, _, a, c, rfl, hc4, hcells⟩ := hrd
  obtain ⟨b, o, rfl, hcl⟩ := hcells (by decide)
  have HO := Lib.hid ho
  have HB1 := Lib.hid hb1
  have c0 : w1.cell? ⟨b, o + 0, none⟩ = some (.int .i64 2) := hcl 0 _ rfl
  have c1 : w1.cell? ⟨b, o + 1, none⟩ = some (.int .i64 0) := hcl 1 _ rfl
  have c2 : w1.cell? ⟨b, o + 2, none⟩ = some (.string ⟨#[97]⟩) := hcl 2 _ rfl
  have c6 : w1.cell? ⟨b, o + 6, none⟩ = some (.int .i64 4) := hcl 6 _ rfl
  have c7 : w1.cell? ⟨b, o + 7, none⟩ = some (.int .i64 2) := hcl 7 _ rfl
  have c8 : w1.cell? ⟨b, o + 8, none⟩ = some (.string ⟨#[105, 116, 39, 115]⟩) := hcl 8 _ rfl
  have c10 : w1.cell? ⟨b, o + 10, none⟩ = some (.int .i64 9) := hcl 10 _ rfl
  have HC : Hid (∀ W, Below w1.heap.size w1 W → W.cell? ⟨b, o, none⟩ = some (.int .i64 2) ∧ W.cell? ⟨b, o + 1, none⟩ = some (.int .i64 0) ∧ W.cell? ⟨b, o + 2, none⟩ = some (.string ⟨#[97]⟩) ∧
      W.cell? ⟨b, o + 6, none⟩ = some (.int .i64 4) ∧ W.cell? ⟨b, o + 7, none⟩ = some (.int .i64 2) ∧ W.cell? ⟨b, o + 8, none⟩ = some (.string ⟨#[105, 116, 39, 115]⟩) ∧ W.cell? ⟨b, o + 10, none⟩ = some (.int .i64 9)) := by
    intro W hW
    have k : ∀ a v, w1.cell? a = some v → W.cell? a = some v := fun a v h => (hW.cell (World.block_lt_of_cell? w1 _ h)).trans h
    exact ⟨k _ _ c0, k _ _ c1, k _ _ c2, k _ _ c6, k _ _ c7, k _ _ c8, k _ _ c10⟩
  clear c0 c1 c2 c6 c7 c8 c10 hcl hcells ho hb1
  go_wp2_with fail
  refine (scan_any ⟨#[32, 32, 39, 120]⟩ (by decide) _).mono ?_
  rw [show (ByteArray.mk #[32, 32, 39, 120]).data.toList = [32, 32, 39, 120] from rfl, awake_scan2]
  rintro e w2 ⟨v2, rfl, ho2, hb2⟩
  have HB2 := Lib.hid hb2
  obtain ⟨d0, d1, d2, d6, d7, d8, d10⟩ := HC.out _ hb2
  have he1 := tok_guard
  have he2 : ∀ W : World, (binOp .eql 35 (.agg #[.int .i64 4, .int .i64 2, .string ⟨#[105, 116, 39, 115]⟩]) (.agg #[.int .i64 4, .int .i64 2, .string ⟨#[105, 116, 39, 115]⟩])).run Tryd.prog W = .ok (.bool true) W := by
    intro W; rw [tok_eql]; simp
  clear ho2 hb2
  go_wp2_with fail
  refine (format_any _ awakeToks _ (by decide) (by decide) (HML.out.below (HB1.out.trans (HB2.out.mono HB1.out.size))) (HRD.out.below HB2.out)).mono ?_
  rw [awake_fmt]
  rintro e w3 ⟨rfl, hb3⟩
  have HB3 := Lib.hid hb3
  obtain ⟨f0, f1, f2, f6, f7, f8, f10⟩ := HC.out _ (HB2.out.trans (hb3.mono HB2.out.size))
  clear d0 d1 d2 d6 d7 d8 d10 hb3
  go_wp2_with fail
  refine (valid_any _ _ ⟨#[97]⟩ (by decide) _).mono ?_
  rintro e w4 ⟨rfl, hb4⟩
  have hv : validT 2 (ByteArray.mk #[97]).data.toList = true := rfl
  go_wp2_with fail
  go_ret
  exact ⟨rfl, HB1.out.trans ((HB2.out.mono HB1.out.size).trans ((HB3.out.mono (Nat.le_trans HB1.out.size HB2.out.size)).trans (hb4.mono (Nat.le_trans HB1.out.size (Nat.le_trans HB2.out.size HB3.out.size)))))⟩
end Go.Proofs.YtbabencadnlmlaaDoor
