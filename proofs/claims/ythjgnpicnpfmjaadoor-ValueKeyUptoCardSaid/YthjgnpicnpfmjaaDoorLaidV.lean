/- A world in which the tables and the two errors that chapter 6's rows list are laid; what the list gives. -/
import Derived.Test.YthjgnpicnpfmjaaDoorOpenG
import Derived.Test.YthjgnpicnpfmjaaDoorValT
import Derived.Stop.LaidErr
import Derived.LaidLaws
namespace Go.Proofs.YthjgnpicnpfmjaaDoor
open Go.ChangeShapes Go.WideShapes Go.ChangeAt Go.RowKit

theorem syn_type : (Tryd.prog.globals[2]?).map (·.type) = some 50 := by kernel_rfl
theorem rng_type : (Tryd.prog.globals[3]?).map (·.type) = some 50 := by kernel_rfl
theorem pow_type : (Tryd.prog.globals[1]?).map (·.type) = some 93 := by kernel_rfl
theorem cells_es : Tryd.prog.cellsOf 112 = 1 := by kernel_rfl
theorem cells_u64 : Tryd.prog.cellsOf 69 = 1 := by kernel_rfl
theorem cells_pow : Tryd.prog.cellsOf 93 = 20 := by kernel_rfl
theorem es_star : "*" ++ "errors.errorString" = "*errors.errorString" := by decide
theorem es_row (u : TypeId) (h : Tryd.prog.typeName? 3 u = some "*errors.errorString") : u = 110 :=
  typeName_ptr_named (nm := "errors.errorString") (by rw [es_star]; kernel_rfl) (by kernel_rfl) (by decide) u (by rw [es_star]; exact h)
/-- What the rows list. -/
abbrev laidList : List (String × DataW Unit) := Rows.valueCompareRow.laid
theorem pow_data : (Rows.laid_internal_strconv_uint64pow10 : DataW Unit) = Lib.tabData .u64 Lib.pow10Tab := by kernel_rfl
theorem tabs_of_laid {W : World} (h : laidMet Tryd.prog laidList W) (hsh : W.ShapedOpen Tryd.prog) : Tabs W := by
  have h1 := laidMet.tail (laidMet.tail h)
  have h2 := laidMet.tail (laidMet.tail h1)
  have h3 := laidMet.tail h2
  refine ⟨?_, ?_, ?_, ?_⟩
  · rw [pow_data] at h1
    exact Lib.tabIs_of_head pow_named pow_type Tryd.underlying93 Tryd.underlying69 cells_u64 cells_pow h1
  · obtain ⟨a, s, hv, _⟩ := laid_sentinel h3 syn_named syn_type Tryd.underlying50 es_row Tryd.underlying110 Tryd.underlying112 rfl rfl Tryd.underlying9 cells_es cells_string
    exact ⟨_, _, hv⟩
  · obtain ⟨a, s, hv, _⟩ := laid_sentinel h2 rng_named rng_type Tryd.underlying50 es_row Tryd.underlying110 Tryd.underlying112 rfl rfl Tryd.underlying9 cells_es cells_string
    exact ⟨_, _, hv⟩
  · exact Go.Proofs.cell_of_shapedOpen_int (zero := #[.int .i64 0]) (t := 3) hsh (of_decide_eq_true (by kernel_rfl)) (by kernel_rfl) rfl (by kernel_rfl) (by kernel_rfl) Tryd.underlying3
/-- Block n's cells replaced. -/
def layAt (w : World) (n : Nat) (cs : Array Value) : World :=
  { w with heap := w.heap.modify n fun
      | .cells _ t frozen => .cells cs t frozen
      | o => o }
abbrev rangeS : ByteArray := { data := #[118, 97, 108, 117, 101, 32, 111, 117, 116, 32, 111, 102, 32, 114, 97, 110, 103, 101] }
abbrev syntaxS : ByteArray := { data := #[105, 110, 118, 97, 108, 105, 100, 32, 115, 121, 110, 116, 97, 120] }
noncomputable def low : Nat := (World.holding Tryd.prog default ⟨#[], #[], []⟩).heap.size
noncomputable def laidWorld (os : Os) : World :=
  let w0 := World.holding Tryd.prog os ⟨#[.cells #[.string rangeS] 112, .cells #[.string syntaxS] 112], #[], []⟩
  let w1 := layAt w0 3 #[.iface 110 (.pointer (some ⟨low, 0, none⟩))]
  let w2 := layAt w1 2 #[.iface 110 (.pointer (some ⟨low + 1, 0, none⟩))]
  let w3 := layAt w2 6 (litCells Rows.laid_math_bits_deBruijn32tab).toArray
  let w4 := layAt w3 7 (litCells Rows.laid_math_bits_deBruijn64tab).toArray
  let w5 := layAt w4 1 (litCells Rows.laid_internal_strconv_uint64pow10).toArray
  layAt (layAt w5 5 (litCells Rows.laid_unicode_utf8_acceptRanges).toArray) 4 (litCells Rows.laid_unicode_utf8_first).toArray
theorem laid_met (os : Os) (args : Array Value) : laidMet Tryd.prog laidList ((laidWorld os).forCall (fun _ _ => 0) ⟨#[], args, []⟩).memory :=
  laidMet_of_run' 8 (by kernel_rfl) (by kernel_rfl)
end Go.Proofs.YthjgnpicnpfmjaaDoor
