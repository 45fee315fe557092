/- Shelf contracts on slices of ints, laid at this program by numbers' names. -/
import Derived.Shelf.SlIterI.Sorted
import Derived.Ground.GgzProg
import Derived.Shelf.Small.Bits
import Derived.Shelf.Small.Strs
import Derived.Shelf.Strconv.Itoa0
import Derived.Shelf.Sort.Plain
import Derived.Shelf.Bits.Mul64
import Derived.Ground.Names2Prog
import Derived.Shelf.Slices.Clone
import Derived.Shelf.Slices.CompactI
import Derived.Shelf.Slices.SearchI
import Derived.Shelf.Slices.Cells
import Derived.Shelf.Slices.In.SortNone
import Derived.Shelf.Slices.Empties
import Derived.Ground.SlgnProg
import Derived.Shelf.SlicesG.SearchI
import Derived.Shelf.SlicesE.Clone
import Derived.Test.YtminnkihcohflaaProg
namespace Go.Proofs.Ytminnkihcohflaa
open Go.Shelf Go.RowKit Go.Lib Go.Sort
def sh_lays189_ren : Go.Shelf.Ren := ⟨fun | 189 => 77 | 125 => 110 | 257 => 109 | 128 => 144 | 129 => 145 | 294 => 136 | 295 => 137 | 296 => 138 | 297 => 139 | 298 => 140 | 299 => 141 | 216 => 79 | 300 => 142 | 301 => 143 | 328 => 167 | 329 => 168 | 330 => 169 | 331 => 170 | 332 => 171 | 215 => 111 | 343 => 187 | n => n, fun | 28 => 23 | 3 => 3 | 46 => 125 | 0 => 0 | 51 => 178 | 53 => 71 | 4 => 4 | 183 => 172 | 182 => 171 | 131 => 93 | 5 => 5 | 9 => 9 | 218 => 193 | 222 => 197 | 228 => 208 | 229 => 209 | n => n, fun | n => n⟩
theorem sh_lays189 : Lays.n189 Try.prog sh_lays189_ren := {
  mixed := by kernel_rfl
  f125 := Try.func110.trans (congrArg some (by kernel_rfl))
  f128 := Try.func144.trans (congrArg some (by kernel_rfl))
  f129 := Try.func145.trans (congrArg some (by kernel_rfl))
  f189 := Try.func77.trans (congrArg some (by kernel_rfl))
  f215 := Try.func111.trans (congrArg some (by kernel_rfl))
  f216 := Try.func79.trans (congrArg some (by kernel_rfl))
  f257 := Try.func109.trans (congrArg some (by kernel_rfl))
  f294 := Try.func136.trans (congrArg some (by kernel_rfl))
  f295 := Try.func137.trans (congrArg some (by kernel_rfl))
  f296 := Try.func138.trans (congrArg some (by kernel_rfl))
  f297 := Try.func139.trans (congrArg some (by kernel_rfl))
  f298 := Try.func140.trans (congrArg some (by kernel_rfl))
  f299 := Try.func141.trans (congrArg some (by kernel_rfl))
  f300 := Try.func142.trans (congrArg some (by kernel_rfl))
  f301 := Try.func143.trans (congrArg some (by kernel_rfl))
  f328 := Try.func167.trans (congrArg some (by kernel_rfl))
  f329 := Try.func168.trans (congrArg some (by kernel_rfl))
  f330 := Try.func169.trans (congrArg some (by kernel_rfl))
  f331 := Try.func170.trans (congrArg some (by kernel_rfl))
  f332 := Try.func171.trans (congrArg some (by kernel_rfl))
  f343 := Try.func187.trans (congrArg some (by kernel_rfl))
  t0 := Try.underlying0
  a0 := Try.isAgg0
  z0 := Try.sizeOf0
  v0 := Try.zeroValue0
  t3 := Try.underlying3
  a3 := Try.isAgg3
  z3 := Try.sizeOf3
  v3 := Try.zeroValue3
  t4 := Try.underlying4
  a4 := Try.isAgg4
  z4 := Try.sizeOf4
  v4 := Try.zeroValue4
  t5 := Try.underlying5
  a5 := Try.isAgg5
  z5 := Try.sizeOf5
  v5 := Try.zeroValue5
  t9 := Try.underlying9
  a9 := Try.isAgg9
  z9 := Try.sizeOf9
  v9 := Try.zeroValue9
  t28 := Try.underlying23
  a28 := Try.isAgg23
  z28 := Try.sizeOf23
  v28 := Try.zeroValue23
  t46 := Try.underlying125
  a46 := Try.isAgg125
  z46 := Try.sizeOf125
  v46 := Try.zeroValue125
  t51 := Try.underlying178
  a51 := Try.isAgg178
  z51 := Try.sizeOf178
  v51 := Try.zeroValue178
  t53 := Try.underlying71
  a53 := Try.isAgg71
  z53 := Try.sizeOf71
  v53 := Try.zeroValue71
  t131 := Try.underlying93
  a131 := Try.isAgg93
  z131 := Try.sizeOf93
  v131 := Try.zeroValue93
  t182 := Try.underlying171
  a182 := Try.isAgg171
  z182 := Try.sizeOf171
  v182 := Try.zeroValue171
  t183 := Try.underlying172
  a183 := Try.isAgg172
  z183 := Try.sizeOf172
  v183 := Try.zeroValue172
  t218 := Try.underlying193
  a218 := Try.isAgg193
  z218 := Try.sizeOf193
  v218 := Try.zeroValue193
  t222 := Try.underlying197
  a222 := Try.isAgg197
  z222 := Try.sizeOf197
  v222 := Try.zeroValue197
  t228 := Try.underlying208
  a228 := Try.isAgg208
  z228 := Try.sizeOf208
  v228 := Try.zeroValue208
  t229 := Try.underlying209
  a229 := Try.isAgg209
  z229 := Try.sizeOf209
  v229 := Try.zeroValue209 }
theorem sh_slices_Sort_int (blk off cap : Nat) (zs : List Int) (w : World) (hH : Holds (Value.int .i64) w blk off zs.toArray) (hblk : blk < w.heap.size) (hsz : zs.length < 4611686018427387904) :
    Calls Try.prog 77 #[.slice (some ⟨blk, off, none⟩) zs.length cap] w fun e w' =>
      e = .returned (.tuple #[]) ∧ ∃ n os, w' = grow (putRow (Value.int .i64) (Sort.ahead w n) blk off (zs.mergeSort fun x y => decide (x ≤ y)).toArray) os := Any.slices_Sort_int sh_lays189 blk off cap zs w hH hblk hsz
theorem sh_slices_Sort_int_none (p : Option Addr) (cap : Nat) (w : World) :
    Calls Try.prog 77 #[.slice p 0 cap] w fun e w' => e = .returned (.tuple #[]) ∧ w' = w := Any.slices_Sort_int_none sh_lays189 p cap w
def sh_laysNm225_ren : Go.Shelf.Ren := ⟨fun | 25 => 46 | 31 => 79 | 32 => 80 | 37 => 111 | n => n, fun | 22 => 23 | 3 => 3 | 4 => 4 | 40 => 125 | 0 => 0 | n => n, fun | n => n⟩
theorem sh_laysNm225 : Lays2.n25 Try.prog sh_laysNm225_ren := {
  mixed := by kernel_rfl
  f25 := Try.func46.trans (congrArg some (by kernel_rfl))
  f31 := Try.func79.trans (congrArg some (by kernel_rfl))
  f32 := Try.func80.trans (congrArg some (by kernel_rfl))
  f37 := Try.func111.trans (congrArg some (by kernel_rfl))
  t0 := Try.underlying0
  a0 := Try.isAgg0
  z0 := Try.sizeOf0
  v0 := Try.zeroValue0
  t3 := Try.underlying3
  a3 := Try.isAgg3
  z3 := Try.sizeOf3
  v3 := Try.zeroValue3
  t4 := Try.underlying4
  a4 := Try.isAgg4
  z4 := Try.sizeOf4
  v4 := Try.zeroValue4
  t22 := Try.underlying23
  a22 := Try.isAgg23
  z22 := Try.sizeOf23
  v22 := Try.zeroValue23
  t40 := Try.underlying125
  a40 := Try.isAgg125
  z40 := Try.sizeOf125
  v40 := Try.zeroValue125 }
theorem sh_slices_BinarySearch_int (b off n c : Nat) (zs : List Int) (x : Int) (w : World) (hz : n ≤ zs.length) (hbig : n < 4611686018427387904) (hc : ∀ j, j < zs.length → w.cell? ⟨b, off + j, none⟩ = some (.int .i64 (zs.getD j 0))) (hs : (zs.take n).Pairwise (· ≤ ·)) :
    Calls Try.prog 46 #[.slice (some ⟨b, off, none⟩) n c, .int .i64 x] w fun e w' => e = .returned (.tuple #[.int .i64 ((zs.take n).countP (· < x) : Nat), .bool ((zs.take n).contains x)]) ∧ ∃ q, w' = w.drewN q := Any.slices_BinarySearch_int sh_laysNm225 b off n c zs x w hz hbig hc hs
theorem sh_slices_BinarySearch_int_empty (a : Option Addr) (c : Nat) (x : Int) (w : World) :
    Calls Try.prog 46 #[.slice a 0 c, .int .i64 x] w fun e w' => e = .returned (.tuple #[.int .i64 0, .bool false]) ∧ w' = w := Any.slices_BinarySearch_int_empty sh_laysNm225 a c x w
def sh_laysNm215_ren : Go.Shelf.Ren := ⟨fun | 15 => 112 | n => n, fun | 22 => 23 | 3 => 3 | 4 => 4 | n => n, fun | n => n⟩
theorem sh_laysNm215 : Lays2.n15 Try.prog sh_laysNm215_ren := {
  mixed := by kernel_rfl
  f15 := Try.func112.trans (congrArg some (by kernel_rfl))
  t3 := Try.underlying3
  a3 := Try.isAgg3
  z3 := Try.sizeOf3
  v3 := Try.zeroValue3
  t4 := Try.underlying4
  a4 := Try.isAgg4
  z4 := Try.sizeOf4
  v4 := Try.zeroValue4
  t22 := Try.underlying23
  a22 := Try.isAgg23
  z22 := Try.sizeOf23
  v22 := Try.zeroValue23
  i3 := by kernel_rfl }
theorem sh_slices_Clone_int (b off n c : Nat) (zs : List Int) (w : World) (hz : n ≤ zs.length) (hbig : n * 8 ≤ 140737488355328) (hc : ∀ j, j < zs.length → w.cell? ⟨b, off + j, none⟩ = some (.int .i64 (zs.getD j 0))) :
    Calls Try.prog 112 #[.slice (some ⟨b, off, none⟩) n c] w fun e w' => ∃ v', e = .returned v' ∧ w'.ownsRow w.heap.size 3 1 v' n ((zs.take n).map (Value.int .i64)) ∧ v' ≠ .slice none 0 0 ∧ Below w.heap.size w w' := Any.slices_Clone_int sh_laysNm215 b off n c zs w hz hbig hc
theorem sh_slices_Clone_int_nil (n c : Nat) (w : World) :
    Calls Try.prog 112 #[.slice none n c] w fun e w' => e = .returned (.slice none 0 0) ∧ w' = w := Any.slices_Clone_int_nil sh_laysNm215 n c w
theorem sh_slices_Clone_int_zero (a : Addr) (c : Nat) (w : World) :
    Calls Try.prog 112 #[.slice (some a) 0 c] w fun e w' => ∃ v', e = .returned v' ∧ w'.ownsRow w.heap.size 3 1 v' 0 [] ∧ v' ≠ .slice none 0 0 ∧ Below w.heap.size w w' := Any.slices_Clone_int_zero sh_laysNm215 a c w
def sh_sorted66_ren : Go.Shelf.Ren := ⟨fun | 6 => 43 | 8 => 76 | 9 => 77 | 11 => 108 | 13 => 110 | 12 => 109 | 23 => 144 | 24 => 145 | 14 => 136 | 15 => 137 | 16 => 138 | 17 => 139 | 18 => 140 | 19 => 141 | 20 => 79 | 21 => 142 | 22 => 143 | 25 => 167 | 26 => 168 | 27 => 169 | 28 => 170 | 29 => 171 | 30 => 111 | 31 => 187 | n => n, fun | 26 => 3 | 28 => 90 | 24 => 23 | 0 => 0 | 3 => 3 | 37 => 125 | 48 => 178 | 50 => 71 | 4 => 4 | 40 => 172 | 39 => 171 | 45 => 93 | 5 => 5 | 9 => 9 | 51 => 193 | 55 => 197 | 57 => 208 | 58 => 209 | 33 => 124 | n => n, fun | n => n⟩
theorem sh_sorted66 : Go.Proofs.SlLaysZI.n6 Try.prog sh_sorted66_ren := {
  mixed := by kernel_rfl
  f6 := ⟨Try.f43.name, by decide, Try.func43.trans (congrArg some (by kernel_rfl))⟩
  f8 := ⟨Try.f76.name, by decide, Try.func76.trans (congrArg some (by kernel_rfl))⟩
  f11 := ⟨Try.f108.name, by decide, Try.func108.trans (congrArg some (by kernel_rfl))⟩
  t0 := Try.underlying0
  a0 := Try.isAgg0
  z0 := Try.sizeOf0
  v0 := Try.zeroValue0
  t24 := Try.underlying23
  a24 := Try.isAgg23
  z24 := Try.sizeOf23
  v24 := Try.zeroValue23
  t26 := Try.underlying3
  a26 := Try.isAgg3
  z26 := Try.sizeOf3
  v26 := Try.zeroValue3
  t28 := Try.underlying90
  a28 := Try.isAgg90
  z28 := Try.sizeOf90
  v28 := Try.zeroValue90
  i26 := by kernel_rfl }
def sh_clone78_ren : Go.Shelf.Ren := ⟨fun | 41 => 55 | n => n, fun | 22 => 34 | 23 => 79 | 4 => 4 | n => n, fun | n => n⟩
theorem sh_clone78 : Go.Proofs.SlLaysE0.n41 Try.prog sh_clone78_ren := {
  mixed := by kernel_rfl
  f41 := ⟨Try.f55.name, by decide, Try.func55.trans (congrArg some (by kernel_rfl))⟩
  t4 := Try.underlying4
  a4 := Try.isAgg4
  z4 := Try.sizeOf4
  v4 := Try.zeroValue4
  t22 := Try.underlying34
  a22 := Try.isAgg34
  z22 := Try.sizeOf34
  v22 := Try.zeroValue34 }
end Go.Proofs.Ytminnkihcohflaa
