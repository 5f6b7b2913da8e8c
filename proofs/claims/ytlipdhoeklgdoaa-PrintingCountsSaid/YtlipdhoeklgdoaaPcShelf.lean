/-
  The laying of slices.Sort on ints at this program, in plain words (written by lay-plain.mjs).
-/
import Derived.Shelf.Sort.Plain
import Derived.Ground.Names2Prog
import Derived.Shelf.Slices.SearchI
import Derived.Shelf.Slices.In.SortNone
import Derived.Test.YtlipdhoeklgdoaaProg
namespace Go.Proofs
open Go.Shelf
def Try.lays189_ren : Go.Shelf.Ren := ⟨fun | 189 => 11 | 125 => 24 | 257 => 23 | 128 => 42 | 129 => 43 | 294 => 33 | 295 => 34 | 296 => 35 | 297 => 36 | 298 => 37 | 299 => 38 | 216 => 39 | 300 => 40 | 301 => 41 | 328 => 45 | 329 => 46 | 330 => 47 | 331 => 48 | 332 => 49 | 215 => 50 | 343 => 59 | n => n, fun | 28 => 22 | 3 => 3 | 46 => 60 | 0 => 0 | 51 => 79 | 53 => 81 | 4 => 4 | 183 => 71 | 182 => 70 | 131 => 76 | 5 => 5 | 9 => 9 | 218 => 83 | 222 => 87 | 228 => 95 | 229 => 96 | n => n, fun | n => n⟩
theorem Try.lays189 : Go.Proofs.Lays.n189 Try.prog Try.lays189_ren := {
  mixed := by kernel_rfl
  f125 := Try.func24.trans (congrArg some (by kernel_rfl))
  f128 := Try.func42.trans (congrArg some (by kernel_rfl))
  f129 := Try.func43.trans (congrArg some (by kernel_rfl))
  f189 := Try.func11.trans (congrArg some (by kernel_rfl))
  f215 := Try.func50.trans (congrArg some (by kernel_rfl))
  f216 := Try.func39.trans (congrArg some (by kernel_rfl))
  f257 := Try.func23.trans (congrArg some (by kernel_rfl))
  f294 := Try.func33.trans (congrArg some (by kernel_rfl))
  f295 := Try.func34.trans (congrArg some (by kernel_rfl))
  f296 := Try.func35.trans (congrArg some (by kernel_rfl))
  f297 := Try.func36.trans (congrArg some (by kernel_rfl))
  f298 := Try.func37.trans (congrArg some (by kernel_rfl))
  f299 := Try.func38.trans (congrArg some (by kernel_rfl))
  f300 := Try.func40.trans (congrArg some (by kernel_rfl))
  f301 := Try.func41.trans (congrArg some (by kernel_rfl))
  f328 := Try.func45.trans (congrArg some (by kernel_rfl))
  f329 := Try.func46.trans (congrArg some (by kernel_rfl))
  f330 := Try.func47.trans (congrArg some (by kernel_rfl))
  f331 := Try.func48.trans (congrArg some (by kernel_rfl))
  f332 := Try.func49.trans (congrArg some (by kernel_rfl))
  f343 := Try.func59.trans (congrArg some (by kernel_rfl))
  t0 := Try.underlying0
  a0 := Try.isAgg0
  z0 := Try.sizeOf0
  v0 := Try.zeroValue0
  t3 := Try.underlying3
  a3 := Try.isAgg3
  z3 := Try.sizeOf3
  v3 := Try.zeroValue3
  t4 := Try.underlying4
  a4 := Try.isAgg4
  z4 := Try.sizeOf4
  v4 := Try.zeroValue4
  t5 := Try.underlying5
  a5 := Try.isAgg5
  z5 := Try.sizeOf5
  v5 := Try.zeroValue5
  t9 := Try.underlying9
  a9 := Try.isAgg9
  z9 := Try.sizeOf9
  v9 := Try.zeroValue9
  t28 := Try.underlying22
  a28 := Try.isAgg22
  z28 := Try.sizeOf22
  v28 := Try.zeroValue22
  t46 := Try.underlying60
  a46 := Try.isAgg60
  z46 := Try.sizeOf60
  v46 := Try.zeroValue60
  t51 := Try.underlying79
  a51 := Try.isAgg79
  z51 := Try.sizeOf79
  v51 := Try.zeroValue79
  t53 := Try.underlying81
  a53 := Try.isAgg81
  z53 := Try.sizeOf81
  v53 := Try.zeroValue81
  t131 := Try.underlying76
  a131 := Try.isAgg76
  z131 := Try.sizeOf76
  v131 := Try.zeroValue76
  t182 := Try.underlying70
  a182 := Try.isAgg70
  z182 := Try.sizeOf70
  v182 := Try.zeroValue70
  t183 := Try.underlying71
  a183 := Try.isAgg71
  z183 := Try.sizeOf71
  v183 := Try.zeroValue71
  t218 := Try.underlying83
  a218 := Try.isAgg83
  z218 := Try.sizeOf83
  v218 := Try.zeroValue83
  t222 := Try.underlying87
  a222 := Try.isAgg87
  z222 := Try.sizeOf87
  v222 := Try.zeroValue87
  t228 := Try.underlying95
  a228 := Try.isAgg95
  z228 := Try.sizeOf95
  v228 := Try.zeroValue95
  t229 := Try.underlying96
  a229 := Try.isAgg96
  z229 := Try.sizeOf96
  v229 := Try.zeroValue96 }
open Go.Sort Go.RowKit in
theorem Try.slices_Sort_int (blk off cap : Nat) (zs : List Int) (w : World) (hH : Holds (Value.int .i64) w blk off zs.toArray) (hblk : blk < w.heap.size) (hsz : zs.length < 4611686018427387904) :
    Calls Try.prog 11 #[.slice (some ⟨blk, off, none⟩) zs.length cap] w fun e w' =>
      e = .returned (.tuple #[]) ∧ ∃ n os, w' = grow (putRow (Value.int .i64) (Sort.ahead w n) blk off (zs.mergeSort fun x y => decide (x ≤ y)).toArray) os := Any.slices_Sort_int Try.lays189 blk off cap zs w hH hblk hsz
open Go.RowKit Go.Sort in
/-- .. and plain. (LAID: no walk: one application.) -/
theorem Try.slices_Sort_int_none (p : Option Addr) (cap : Nat) (w : World) :
    Calls Try.prog 11 #[.slice p 0 cap] w fun e w' => e = .returned (.tuple #[]) ∧ w' = w := Any.slices_Sort_int_none Try.lays189 p cap w
end Go.Proofs
