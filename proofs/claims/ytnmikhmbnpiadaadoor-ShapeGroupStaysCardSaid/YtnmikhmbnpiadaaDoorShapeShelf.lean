/-
  DERIVED: THE SHELF's CONTRACTS AT THIS DUMP, IN PLAIN WORDS (tools/lay-plain.mjs out of 'TrydShelf.lean', which tools/lay-shelf.mjs wrote): THE SAME DECLARATIONS UNDER THE SAME NAMES: 'import', 'namespace', 'open', 'def', 'theorem' AND NOTHING ELSE: no command of the shelf's: FOR A HAND-IN. Each laying: the table of numbers ('.._ren') and one theorem, a field a fact of the dump's own or the kernel's comparison; each contract: ONE APPLICATION.
-/
import Derived.Shelf.Sort.Plain
import Derived.Shelf.Slices.Turned
import Derived.Ground.Names2Prog
import Derived.Shelf.Slices.SearchI
import Derived.Shelf.Slices.In.SortNone
import Derived.Test.YtnmikhmbnpiadaaDoorProg
namespace Go.Proofs
open Go.Shelf
def Tryd.lays189_ren : Go.Shelf.Ren := ⟨fun | 189 => 39 | 125 => 41 | 257 => 40 | 128 => 51 | 129 => 52 | 294 => 42 | 295 => 43 | 296 => 44 | 297 => 45 | 298 => 46 | 299 => 47 | 216 => 48 | 300 => 49 | 301 => 50 | 328 => 53 | 329 => 54 | 330 => 55 | 331 => 56 | 332 => 57 | 215 => 58 | 343 => 59 | n => n, fun | 28 => 32 | 3 => 3 | 46 => 80 | 0 => 0 | 51 => 91 | 53 => 93 | 4 => 4 | 183 => 83 | 182 => 82 | 131 => 88 | 5 => 5 | 9 => 9 | 218 => 94 | 222 => 98 | 228 => 101 | 229 => 56 | n => n, fun | n => n⟩
theorem Tryd.lays189 : Go.Proofs.Lays.n189 Tryd.prog Tryd.lays189_ren := {
  mixed := by kernel_rfl
  f125 := Tryd.func41.trans (congrArg some (by kernel_rfl))
  f128 := Tryd.func51.trans (congrArg some (by kernel_rfl))
  f129 := Tryd.func52.trans (congrArg some (by kernel_rfl))
  f189 := Tryd.func39.trans (congrArg some (by kernel_rfl))
  f215 := Tryd.func58.trans (congrArg some (by kernel_rfl))
  f216 := Tryd.func48.trans (congrArg some (by kernel_rfl))
  f257 := Tryd.func40.trans (congrArg some (by kernel_rfl))
  f294 := Tryd.func42.trans (congrArg some (by kernel_rfl))
  f295 := Tryd.func43.trans (congrArg some (by kernel_rfl))
  f296 := Tryd.func44.trans (congrArg some (by kernel_rfl))
  f297 := Tryd.func45.trans (congrArg some (by kernel_rfl))
  f298 := Tryd.func46.trans (congrArg some (by kernel_rfl))
  f299 := Tryd.func47.trans (congrArg some (by kernel_rfl))
  f300 := Tryd.func49.trans (congrArg some (by kernel_rfl))
  f301 := Tryd.func50.trans (congrArg some (by kernel_rfl))
  f328 := Tryd.func53.trans (congrArg some (by kernel_rfl))
  f329 := Tryd.func54.trans (congrArg some (by kernel_rfl))
  f330 := Tryd.func55.trans (congrArg some (by kernel_rfl))
  f331 := Tryd.func56.trans (congrArg some (by kernel_rfl))
  f332 := Tryd.func57.trans (congrArg some (by kernel_rfl))
  f343 := Tryd.func59.trans (congrArg some (by kernel_rfl))
  t0 := Tryd.underlying0
  a0 := Tryd.isAgg0
  z0 := Tryd.sizeOf0
  v0 := Tryd.zeroValue0
  t3 := Tryd.underlying3
  a3 := Tryd.isAgg3
  z3 := Tryd.sizeOf3
  v3 := Tryd.zeroValue3
  t4 := Tryd.underlying4
  a4 := Tryd.isAgg4
  z4 := Tryd.sizeOf4
  v4 := Tryd.zeroValue4
  t5 := Tryd.underlying5
  a5 := Tryd.isAgg5
  z5 := Tryd.sizeOf5
  v5 := Tryd.zeroValue5
  t9 := Tryd.underlying9
  a9 := Tryd.isAgg9
  z9 := Tryd.sizeOf9
  v9 := Tryd.zeroValue9
  t28 := Tryd.underlying32
  a28 := Tryd.isAgg32
  z28 := Tryd.sizeOf32
  v28 := Tryd.zeroValue32
  t46 := Tryd.underlying80
  a46 := Tryd.isAgg80
  z46 := Tryd.sizeOf80
  v46 := Tryd.zeroValue80
  t51 := Tryd.underlying91
  a51 := Tryd.isAgg91
  z51 := Tryd.sizeOf91
  v51 := Tryd.zeroValue91
  t53 := Tryd.underlying93
  a53 := Tryd.isAgg93
  z53 := Tryd.sizeOf93
  v53 := Tryd.zeroValue93
  t131 := Tryd.underlying88
  a131 := Tryd.isAgg88
  z131 := Tryd.sizeOf88
  v131 := Tryd.zeroValue88
  t182 := Tryd.underlying82
  a182 := Tryd.isAgg82
  z182 := Tryd.sizeOf82
  v182 := Tryd.zeroValue82
  t183 := Tryd.underlying83
  a183 := Tryd.isAgg83
  z183 := Tryd.sizeOf83
  v183 := Tryd.zeroValue83
  t218 := Tryd.underlying94
  a218 := Tryd.isAgg94
  z218 := Tryd.sizeOf94
  v218 := Tryd.zeroValue94
  t222 := Tryd.underlying98
  a222 := Tryd.isAgg98
  z222 := Tryd.sizeOf98
  v222 := Tryd.zeroValue98
  t228 := Tryd.underlying101
  a228 := Tryd.isAgg101
  z228 := Tryd.sizeOf101
  v228 := Tryd.zeroValue101
  t229 := Tryd.underlying56
  a229 := Tryd.isAgg56
  z229 := Tryd.sizeOf56
  v229 := Tryd.zeroValue56 }
open Go.Sort Go.RowKit in
theorem Tryd.slices_Sort_int (blk off cap : Nat) (zs : List Int) (w : World) (hH : Holds (Value.int .i64) w blk off zs.toArray) (hblk : blk < w.heap.size) (hsz : zs.length < 4611686018427387904) :
    Calls Tryd.prog 39 #[.slice (some ⟨blk, off, none⟩) zs.length cap] w fun e w' =>
      e = .returned (.tuple #[]) ∧ ∃ n os, w' = grow (putRow (Value.int .i64) (Sort.ahead w n) blk off (zs.mergeSort fun x y => decide (x ≤ y)).toArray) os := Any.slices_Sort_int Tryd.lays189 blk off cap zs w hH hblk hsz
def Tryd.lays108_ren : Go.Shelf.Ren := ⟨fun | 108 => 29 | n => n, fun | 28 => 32 | 3 => 3 | 0 => 0 | 4 => 4 | n => n, fun | n => n⟩
theorem Tryd.lays108 : Go.Proofs.Lays.n108 Tryd.prog Tryd.lays108_ren := {
  mixed := by kernel_rfl
  f108 := Tryd.func29.trans (congrArg some (by kernel_rfl))
  t0 := Tryd.underlying0
  a0 := Tryd.isAgg0
  z0 := Tryd.sizeOf0
  v0 := Tryd.zeroValue0
  t3 := Tryd.underlying3
  a3 := Tryd.isAgg3
  z3 := Tryd.sizeOf3
  v3 := Tryd.zeroValue3
  t4 := Tryd.underlying4
  a4 := Tryd.isAgg4
  z4 := Tryd.sizeOf4
  v4 := Tryd.zeroValue4
  t28 := Tryd.underlying32
  a28 := Tryd.isAgg32
  z28 := Tryd.sizeOf32
  v28 := Tryd.zeroValue32 }
open Go.Lib in
/-- slices.Index at []int: "Index returns the index of the first occurrence of v in s, or -1 if not present.": IT RETURNS 'Lib.idxOf (the elements) v'; the world is as it was. 'zs': what the cells behind the slice's address hold (its spare capacity too, if you have it); 'zs.take n': its elements. (LAID: no walk: one application.) -/
theorem Tryd.slices_Index_int (b off n c : Nat) (zs : List Int) (x : Int) (w : World) (hz : n ≤ zs.length) (hbig : n ≤ 9223372036854775807) (hc : ∀ j, j < zs.length → w.cell? ⟨b, off + j, none⟩ = some (.int .i64 (zs.getD j 0))) :
    Calls Tryd.prog 29 #[.slice (some ⟨b, off, none⟩) n c, .int .i64 x] w fun e w' => e = .returned (.int .i64 (Lib.idxOf (zs.take n) x)) ∧ w' = w := Any.slices_Index_int Tryd.lays108 b off n c zs x w hz hbig hc
open Go.Lib in
/-- The same at a slice of length 0, a nil one too: no cell is known, none is asked for. (LAID: no walk: one application.) -/
theorem Tryd.slices_Index_int_empty (a : Option Addr) (c : Nat) (x : Int) (w : World) :
    Calls Tryd.prog 29 #[.slice a 0 c, .int .i64 x] w fun e w' => e = .returned (.int .i64 (Lib.idxOf [] x)) ∧ w' = w := Any.slices_Index_int_empty Tryd.lays108 a c x w
def Tryd.lays107_ren : Go.Shelf.Ren := ⟨fun | 107 => 17 | 108 => 29 | n => n, fun | 28 => 32 | 3 => 3 | 4 => 4 | 0 => 0 | n => n, fun | n => n⟩
theorem Tryd.lays107 : Go.Proofs.Lays.n107 Tryd.prog Tryd.lays107_ren := {
  mixed := by kernel_rfl
  f107 := Tryd.func17.trans (congrArg some (by kernel_rfl))
  f108 := Tryd.func29.trans (congrArg some (by kernel_rfl))
  t0 := Tryd.underlying0
  a0 := Tryd.isAgg0
  z0 := Tryd.sizeOf0
  v0 := Tryd.zeroValue0
  t3 := Tryd.underlying3
  a3 := Tryd.isAgg3
  z3 := Tryd.sizeOf3
  v3 := Tryd.zeroValue3
  t4 := Tryd.underlying4
  a4 := Tryd.isAgg4
  z4 := Tryd.sizeOf4
  v4 := Tryd.zeroValue4
  t28 := Tryd.underlying32
  a28 := Tryd.isAgg32
  z28 := Tryd.sizeOf32
  v28 := Tryd.zeroValue32 }
open Go.Lib in
/-- slices.Contains at []int: "Contains reports whether v is present in s.": IT RETURNS 'elements.contains v'; the world is as it was. ITS CALLEE slices.Index IS MET BY ITS OWN CONTRACT OFF THE SHELF (lay that first): no loop is walked here. (LAID: no walk: one application.) -/
theorem Tryd.slices_Contains_int (b off n c : Nat) (zs : List Int) (x : Int) (w : World) (hz : n ≤ zs.length) (hbig : n ≤ 9223372036854775807) (hc : ∀ j, j < zs.length → w.cell? ⟨b, off + j, none⟩ = some (.int .i64 (zs.getD j 0))) :
    Calls Tryd.prog 17 #[.slice (some ⟨b, off, none⟩) n c, .int .i64 x] w fun e w' => e = .returned (.bool ((zs.take n).contains x)) ∧ w' = w := Any.slices_Contains_int Tryd.lays107 b off n c zs x w hz hbig hc
open Go.Lib in
/-- The same at a slice of length 0, a nil one too. (LAID: no walk: one application.) -/
theorem Tryd.slices_Contains_int_empty (a : Option Addr) (c : Nat) (x : Int) (w : World) :
    Calls Tryd.prog 17 #[.slice a 0 c, .int .i64 x] w fun e w' => e = .returned (.bool false) ∧ w' = w := Any.slices_Contains_int_empty Tryd.lays107 a c x w
open Go.RowKit Go.Sort in
/-- .. and plain. (LAID: no walk: one application.) -/
theorem Tryd.slices_Sort_int_none (p : Option Addr) (cap : Nat) (w : World) :
    Calls Tryd.prog 39 #[.slice p 0 cap] w fun e w' => e = .returned (.tuple #[]) ∧ w' = w := Any.slices_Sort_int_none Tryd.lays189 p cap w
end Go.Proofs
