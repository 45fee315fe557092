/- A world in which the tables that the rows list are laid; the variable MaxLen holds a number in every world that the form starts in. -/
import Derived.Test.YtbabencadnlmlaaDoorLift
import Derived.Test.YtbabencadnlmlaaDoorLexF
namespace Go.Proofs.YtbabencadnlmlaaDoor
open Go.ChangeShapes Go.WideShapes Go.ChangeAt Go.RowKit

theorem maxLen_shaped (w : World) (h : w.ShapedOpen Tryd.prog) : MaxLenAt w :=
  Go.Proofs.cell_of_shapedOpen_int (zero := #[.int .i64 0]) (t := 3) h (of_decide_eq_true (by kernel_rfl)) (by kernel_rfl) rfl (by kernel_rfl) (by kernel_rfl) Tryd.underlying3

/-- Block n's cells replaced. -/
def layAt (w : World) (n : Nat) (cs : Array Value) : World :=
  { w with heap := w.heap.modify n fun
      | .cells _ t frozen => .cells cs t frozen
      | o => o }
noncomputable def laidWorld (os : Os) : World :=
  layAt (layAt (World.holding Tryd.prog os ⟨#[], #[], []⟩) 2 (litCells Rows.laid_unicode_utf8_acceptRanges).toArray) 1 (litCells Rows.laid_unicode_utf8_first).toArray
theorem laid_met (os : Os) (args : Array Value) : laidMet Tryd.prog [("unicode/utf8.acceptRanges", Rows.laid_unicode_utf8_acceptRanges), ("unicode/utf8.first", Rows.laid_unicode_utf8_first)] ((laidWorld os).forCall (fun _ _ => 0) ⟨#[], args, []⟩).memory :=
  laidMet_of_run' 8 (by kernel_rfl) (by kernel_rfl)
end Go.Proofs.YtbabencadnlmlaaDoor
