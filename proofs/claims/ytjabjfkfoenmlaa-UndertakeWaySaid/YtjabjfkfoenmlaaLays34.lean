/- The library's sort of strings at this program (lay-shelf.mjs, lay-plain.mjs), and what it does to two. -/
import Derived.Shelf.Sort.Plain
import Derived.Shelf.Slices.Turned
import Derived.Shelf.Slices.In.SortNone
import Derived.Test.YtjabjfkfoenmlaaProg
namespace Go.Proofs
open Go.Shelf
def Try.lays190_ren : Go.Shelf.Ren := ⟨fun | 190 => 70 | 125 => 75 | 258 => 74 | 128 => 94 | 129 => 95 | 302 => 85 | 303 => 86 | 304 => 87 | 305 => 88 | 306 => 89 | 307 => 90 | 308 => 91 | 309 => 92 | 310 => 93 | 333 => 96 | 329 => 97 | 330 => 98 | 334 => 99 | 335 => 100 | 336 => 101 | 344 => 102 | n => n, fun | 31 => 41 | 9 => 9 | 3 => 3 | 46 => 97 | 0 => 0 | 51 => 113 | 53 => 115 | 4 => 4 | 183 => 105 | 182 => 104 | 131 => 110 | 5 => 5 | 218 => 117 | 222 => 121 | 228 => 123 | 229 => 124 | n => n, fun | n => n⟩
theorem Try.lays190 : Go.Proofs.Lays.n190 Try.prog Try.lays190_ren := {
  mixed := by kernel_rfl
  f125 := Try.func75.trans (congrArg some (by kernel_rfl))
  f128 := Try.func94.trans (congrArg some (by kernel_rfl))
  f129 := Try.func95.trans (congrArg some (by kernel_rfl))
  f190 := Try.func70.trans (congrArg some (by kernel_rfl))
  f258 := Try.func74.trans (congrArg some (by kernel_rfl))
  f302 := Try.func85.trans (congrArg some (by kernel_rfl))
  f303 := Try.func86.trans (congrArg some (by kernel_rfl))
  f304 := Try.func87.trans (congrArg some (by kernel_rfl))
  f305 := Try.func88.trans (congrArg some (by kernel_rfl))
  f306 := Try.func89.trans (congrArg some (by kernel_rfl))
  f307 := Try.func90.trans (congrArg some (by kernel_rfl))
  f308 := Try.func91.trans (congrArg some (by kernel_rfl))
  f309 := Try.func92.trans (congrArg some (by kernel_rfl))
  f310 := Try.func93.trans (congrArg some (by kernel_rfl))
  f329 := Try.func97.trans (congrArg some (by kernel_rfl))
  f330 := Try.func98.trans (congrArg some (by kernel_rfl))
  f333 := Try.func96.trans (congrArg some (by kernel_rfl))
  f334 := Try.func99.trans (congrArg some (by kernel_rfl))
  f335 := Try.func100.trans (congrArg some (by kernel_rfl))
  f336 := Try.func101.trans (congrArg some (by kernel_rfl))
  f344 := Try.func102.trans (congrArg some (by kernel_rfl))
  t0 := Try.underlying0
  a0 := Try.isAgg0
  z0 := Try.sizeOf0
  v0 := Try.zeroValue0
  t3 := Try.underlying3
  a3 := Try.isAgg3
  z3 := Try.sizeOf3
  v3 := Try.zeroValue3
  t4 := Try.underlying4
  a4 := Try.isAgg4
  z4 := Try.sizeOf4
  v4 := Try.zeroValue4
  t5 := Try.underlying5
  a5 := Try.isAgg5
  z5 := Try.sizeOf5
  v5 := Try.zeroValue5
  t9 := Try.underlying9
  a9 := Try.isAgg9
  z9 := Try.sizeOf9
  v9 := Try.zeroValue9
  t31 := Try.underlying41
  a31 := Try.isAgg41
  z31 := Try.sizeOf41
  v31 := Try.zeroValue41
  t46 := Try.underlying97
  a46 := Try.isAgg97
  z46 := Try.sizeOf97
  v46 := Try.zeroValue97
  t51 := Try.underlying113
  a51 := Try.isAgg113
  z51 := Try.sizeOf113
  v51 := Try.zeroValue113
  t53 := Try.underlying115
  a53 := Try.isAgg115
  z53 := Try.sizeOf115
  v53 := Try.zeroValue115
  t131 := Try.underlying110
  a131 := Try.isAgg110
  z131 := Try.sizeOf110
  v131 := Try.zeroValue110
  t182 := Try.underlying104
  a182 := Try.isAgg104
  z182 := Try.sizeOf104
  v182 := Try.zeroValue104
  t183 := Try.underlying105
  a183 := Try.isAgg105
  z183 := Try.sizeOf105
  v183 := Try.zeroValue105
  t218 := Try.underlying117
  a218 := Try.isAgg117
  z218 := Try.sizeOf117
  v218 := Try.zeroValue117
  t222 := Try.underlying121
  a222 := Try.isAgg121
  z222 := Try.sizeOf121
  v222 := Try.zeroValue121
  t228 := Try.underlying123
  a228 := Try.isAgg123
  z228 := Try.sizeOf123
  v228 := Try.zeroValue123
  t229 := Try.underlying124
  a229 := Try.isAgg124
  z229 := Try.sizeOf124
  v229 := Try.zeroValue124 }
open Go.Sort Go.RowKit in
theorem Try.slices_Sort_string (blk off cap : Nat) (ss : List (List UInt8)) (w : World) (hH : Holds encStr w blk off ss.toArray) (hblk : blk < w.heap.size) (hsz : ss.length < 4611686018427387904) :
    Calls Try.prog 70 #[.slice (some ⟨blk, off, none⟩) ss.length cap] w fun e w' =>
      e = .returned (.tuple #[]) ∧ ∃ n os, w' = grow (putRow encStr (Sort.ahead w n) blk off (ss.mergeSort fun x y => decide (x ≤ y)).toArray) os := Any.slices_Sort_string Try.lays190 blk off cap ss w hH hblk hsz
open Go.Sort Go.RowKit in
theorem Try.slices_Sort_string_none (p : Option Addr) (cap : Nat) (w : World) : Calls Try.prog 70 #[.slice p 0 cap] w fun e w' => e = .returned (.tuple #[]) ∧ w' = w := Any.slices_Sort_string_none Try.lays190 p cap w
end Go.Proofs
