/- The shelf's contract of strings.Compare; cmp.isNaN at whole numbers. No condition. -/
import Derived.Shelf.Small.Strs
import Derived.Test.YthjgnpicnpfmjaaDoorBase
import Derived.Test.YthjgnpicnpfmjaaDoorProg
namespace Go.Proofs.YthjgnpicnpfmjaaDoor
open Go.Shelf Go.RowKit Go.Lib
def sh_lays106_ren : Go.Shelf.Ren := ⟨fun | 106 => 26 | 213 => 40 | 265 => 49 | n => n, fun | 9 => 9 | 3 => 3 | n => n, fun | n => n⟩
theorem sh_lays106 : Lays.n106 Tryd.prog sh_lays106_ren := {
  mixed := by kernel_rfl
  f106 := Tryd.func26.trans (congrArg some (by kernel_rfl))
  f213 := Tryd.func40.trans (congrArg some (by kernel_rfl))
  f265 := Tryd.func49.trans (congrArg some (by kernel_rfl))
  t3 := Tryd.underlying3
  a3 := Tryd.isAgg3
  z3 := Tryd.sizeOf3
  v3 := Tryd.zeroValue3
  t9 := Tryd.underlying9
  a9 := Tryd.isAgg9
  z9 := Tryd.sizeOf9
  v9 := Tryd.zeroValue9 }
theorem sh_strings_Compare (a b : ByteArray) (w : World) :
    Calls Tryd.prog 26 #[.string a, .string b] w fun e w' => e = .returned (.int .i64 (Lib.compareBytes a.data.toList b.data.toList)) ∧ w' = w := Any.strings_Compare sh_lays106 a b w
theorem sh_cmp_isNaN_int2 (x : Int) (w : World) : Calls Tryd.prog 38 #[.int .i64 x] w fun e w' => e = .returned (.bool false) ∧ w' = w := by
  go_enter Tryd.func38, Tryd.ntmps38
  go_wp2
  go_ret
  simp
theorem sh_cmp_isNaN_int2_f180 (x : Int) (w : World) : Calls Tryd.prog 39 #[.int .i64 x] w fun e w' => e = .returned (.bool false) ∧ w' = w := by
  go_enter Tryd.func39, Tryd.ntmps39
  go_wp2
  go_ret
  simp
end Go.Proofs.YthjgnpicnpfmjaaDoor
