/- The tables and variables of the library that values' functions read, where they read as laid; numerals of numbers. No condition beside those. -/
import Derived.Test.YthjgnpicnpfmjaaDoorValS
import Derived.Test.YthjgnpicnpfmjaaDoorShNum
import Derived.Test.YthjgnpicnpfmjaaDoorChecked
import Derived.Lib.SmallJoins
import Derived.Lib.AppendIntMem
namespace Go.Proofs.YthjgnpicnpfmjaaDoor
open Go.RowKit

structure Tabs (w : World) : Prop where
  pow : Lib.TabIs Tryd.prog w "internal/strconv.uint64pow10" .u64 Lib.pow10Tab
  syn : ∃ tp p, w.var? Tryd.prog "strconv.ErrSyntax" = some #[.iface tp p]
  rng : ∃ tp p, w.var? Tryd.prog "strconv.ErrRange" = some #[.iface tp p]
  mx : ∃ m, w.cell? ⟨0, 0, none⟩ = some (.int .i64 m)
theorem pow_named : Tryd.prog.globalNamed "internal/strconv.uint64pow10" = some 1 := by kernel_rfl
theorem syn_named : Tryd.prog.globalNamed "strconv.ErrSyntax" = some 2 := by kernel_rfl
theorem rng_named : Tryd.prog.globalNamed "strconv.ErrRange" = some 3 := by kernel_rfl
theorem Tabs.below {w w' : World} (h : Tabs w) (hb : Below w.heap.size w w') : Tabs w' := by
  obtain ⟨h1, ⟨t1, p1, h2⟩, ⟨t2, p2, h3⟩, ⟨m, h4⟩⟩ := h
  exact ⟨Go.Joins.tab_stays pow_named h1 hb (Nat.le_refl _), ⟨t1, p1, Go.Joins.var_stays syn_named h2 hb (Nat.le_refl _)⟩, ⟨t2, p2, Go.Joins.var_stays rng_named h3 hb (Nat.le_refl _)⟩, ⟨m, cell_keep hb h4⟩⟩
theorem Tabs.of {w0 w : World} (h : Tabs w0) (hb : Below w0.heap.size w0 w) : Tabs w := h.below hb
theorem fmtInt_any (n : Int) (h : In64 n) (w : World) (ht : Tabs w) : Calls Tryd.prog 27 #[.int .i64 n, .int .i64 10] w fun e w' => e = .returned (.string ⟨(Lib.itoa n).toArray⟩) ∧ Below w.heap.size w w' :=
  (sh_strconv_FormatInt_10 n h.1 h.2 w ht.pow).mono fun _ _ ⟨h1, k, os, h2⟩ => ⟨h1, by rw [h2]; exact Lib.below_grow _ _ (Nat.le_refl _) _ _⟩
theorem itoa_any (n : Int) (h : In64 n) (w : World) (ht : Tabs w) : Calls Tryd.prog 35 #[.int .i64 n] w fun e w' => e = .returned (.string ⟨(Lib.itoa n).toArray⟩) ∧ Below w.heap.size w w' :=
  (sh_strconv_Itoa n h.1 h.2 w ht.pow).mono fun _ _ ⟨h1, k, os, h2⟩ => ⟨h1, by rw [h2]; exact Lib.below_grow _ _ (Nat.le_refl _) _ _⟩
/-- What strconv.ParseInt answers: the number and no error; else a number and an error. -/
def ParseRes (l : List UInt8) (e : Ending) : Prop :=
  (∃ n, Lib.atoiAll l = .ok n ∧ e = .returned (.tuple #[.int .i64 n, .nilIface])) ∨ ((∀ n, Lib.atoiAll l ≠ .ok n) ∧ ∃ x T p, In64 x ∧ e = .returned (.tuple #[.int .i64 x, .iface T (.pointer (some p))]))
theorem parseInt_any (l : List UInt8) (hl : l.length ≤ 100000) (w : World) (ht : Tabs w) : Calls Tryd.prog 31 #[.string ⟨l.toArray⟩, .int .i64 10, .int .i64 64] w fun e w' => ParseRes l e ∧ Below w.heap.size w w' := by
  have hsz : (ByteArray.mk l.toArray).size = l.length := by simp [ByteArray.size]
  have hd : (ByteArray.mk l.toArray).data.toList = l := by simp
  rcases hp : Lib.atoiAll l with n | _ | _
  · refine (sh_strconv_ParseInt_10_at64_ok ⟨l.toArray⟩ (by omega) n (by rw [hd, Lib.parseIntB_64]; exact hp) w).mono ?_
    rintro e w' ⟨h1, h2⟩
    refine ⟨.inl ⟨n, hp, h1⟩, ?_⟩
    rcases h2 with rfl | ⟨t, rfl⟩
    · exact Below.refl _ _
    · exact Lib.bytesWorld_below _ _ _
  · obtain ⟨tp, p, hv⟩ := ht.syn
    refine (sh_strconv_ParseInt_10_at64_bad_var ⟨l.toArray⟩ (by omega) (by rw [hd, Lib.parseIntB_64, hp]; exact ⟨(fun v h => by cases h), (fun h => by cases h)⟩) tp p w hv).mono ?_
    rintro e w' ⟨N, h1, _, _, h2⟩
    exact ⟨.inr ⟨(fun n hn => by rw [hp] at hn; cases hn), _, _, _, by decide, h1⟩, h2⟩
  · obtain ⟨tp, p, hv⟩ := ht.rng
    refine (sh_strconv_ParseInt_10_at64_range_var ⟨l.toArray⟩ (by omega) (by rw [hd, Lib.parseIntB_64]; exact hp) tp p w hv).mono ?_
    rintro e w' ⟨N, h1, _, _, h2⟩
    exact ⟨.inr ⟨(fun n hn => by rw [hp] at hn; cases hn), _, _, _, by rw [hd, Lib.intSat_64]; exact Lib.atoiSat_bounds l, h1⟩, h2⟩
end Go.Proofs.YthjgnpicnpfmjaaDoor
