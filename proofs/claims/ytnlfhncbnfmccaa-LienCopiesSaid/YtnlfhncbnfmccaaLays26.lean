/- The library functions that this chapter calls: their contracts at this program (laid by the kit's tools). -/
import Derived.Shelf.SlSortCmp.InsertionK
import Derived.Ground.SlsfProg
import Derived.Test.YtnlfhncbnfmccaaProg
namespace Go.Proofs
open Go.Shelf
def Try.insPg_ren : Go.Shelf.Ren := ⟨fun | 20 => 56 | n => n, fun | 24 => 37 | 22 => 26 | 3 => 3 | 25 => 62 | 4 => 4 | 0 => 0 | n => n, fun | n => n⟩
theorem Try.insPg : Go.Proofs.SlLaysF0.n20 Try.prog Try.insPg_ren := {
  mixed := by kernel_rfl
  f20 := ⟨Try.f56.name, by decide, Try.func56.trans (congrArg some (by kernel_rfl))⟩
  t0 := Try.underlying0
  a0 := Try.isAgg0
  z0 := Try.sizeOf0
  v0 := Try.zeroValue0
  t3 := Try.underlying3
  a3 := Try.isAgg3
  z3 := Try.sizeOf3
  v3 := Try.zeroValue3
  t4 := Try.underlying4
  a4 := Try.isAgg4
  z4 := Try.sizeOf4
  v4 := Try.zeroValue4
  t22 := Try.underlying26
  a22 := Try.isAgg26
  z22 := Try.sizeOf26
  v22 := Try.zeroValue26
  t25 := Try.underlying62
  a25 := Try.isAgg62
  z25 := Try.sizeOf62
  v25 := Try.zeroValue62 }
end Go.Proofs
