/- slices.Sorted(maps.Keys(m)): the contracts at this program (laid by the kit's tools). -/
import Derived.Shelf.SlIter.Nil
import Derived.Shelf.SortM.Plain
import Derived.Shelf.SortM.SortNone
import Derived.Ground.GgzProg
import Derived.Ground.SlgmProg
import Derived.Test.YtnlfhncbnfmccaaProg
namespace Go.Proofs
open Go.Shelf
def Try.keys34_ren : Go.Shelf.Ren := ⟨fun | 7 => 34 | 10 => 52 | n => n, fun | 23 => 58 | 26 => 9 | 3 => 26 | 28 => 69 | 0 => 0 | 27 => 68 | 33 => 42 | 4 => 4 | n => n, fun | n => n⟩
theorem Try.keys34 : Go.Proofs.SlLaysZ.n7 Try.prog Try.keys34_ren := {
  mixed := by kernel_rfl
  f7 := ⟨Try.f34.name, by decide, Try.func34.trans (congrArg some (by kernel_rfl))⟩
  f10 := ⟨Try.f52.name, by decide, Try.func52.trans (congrArg some (by kernel_rfl))⟩
  t0 := Try.underlying0
  a0 := Try.isAgg0
  z0 := Try.sizeOf0
  v0 := Try.zeroValue0
  t4 := Try.underlying4
  a4 := Try.isAgg4
  z4 := Try.sizeOf4
  v4 := Try.zeroValue4
  t23 := Try.underlying58
  a23 := Try.isAgg58
  z23 := Try.sizeOf58
  v23 := Try.zeroValue58
  t26 := Try.underlying9
  a26 := Try.isAgg9
  z26 := Try.sizeOf9
  v26 := Try.zeroValue9
  t27 := Try.underlying68
  a27 := Try.isAgg68
  z27 := Try.sizeOf68
  v27 := Try.zeroValue68
  t28 := Try.underlying69
  a28 := Try.isAgg69
  z28 := Try.sizeOf69
  v28 := Try.zeroValue69
  t33 := Try.underlying42
  a33 := Try.isAgg42
  z33 := Try.sizeOf42
  v33 := Try.zeroValue42 }
def Try.sorted33_ren : Go.Shelf.Ren := ⟨fun | 6 => 33 | 8 => 50 | 9 => 51 | 11 => 59 | 13 => 61 | 12 => 60 | 23 => 75 | 24 => 76 | 14 => 66 | 15 => 67 | 16 => 68 | 17 => 69 | 18 => 70 | 19 => 71 | 20 => 72 | 21 => 73 | 22 => 74 | 25 => 78 | 26 => 79 | 27 => 80 | 28 => 81 | 29 => 82 | 30 => 83 | 31 => 84 | n => n, fun | 26 => 9 | 28 => 69 | 24 => 49 | 0 => 0 | 3 => 3 | 37 => 92 | 48 => 103 | 50 => 105 | 4 => 4 | 40 => 96 | 39 => 95 | 45 => 100 | 5 => 5 | 9 => 9 | 51 => 106 | 55 => 110 | 57 => 112 | 58 => 113 | 33 => 42 | n => n, fun | n => n⟩
theorem Try.sorted33 : Go.Proofs.SlLaysZ.n6 Try.prog Try.sorted33_ren := {
  mixed := by kernel_rfl
  f6 := ⟨Try.f33.name, by decide, Try.func33.trans (congrArg some (by kernel_rfl))⟩
  f8 := ⟨Try.f50.name, by decide, Try.func50.trans (congrArg some (by kernel_rfl))⟩
  f11 := ⟨Try.f59.name, by decide, Try.func59.trans (congrArg some (by kernel_rfl))⟩
  t0 := Try.underlying0
  a0 := Try.isAgg0
  z0 := Try.sizeOf0
  v0 := Try.zeroValue0
  t24 := Try.underlying49
  a24 := Try.isAgg49
  z24 := Try.sizeOf49
  v24 := Try.zeroValue49
  t26 := Try.underlying9
  a26 := Try.isAgg9
  z26 := Try.sizeOf9
  v26 := Try.zeroValue9
  t28 := Try.underlying69
  a28 := Try.isAgg69
  z28 := Try.sizeOf69
  v28 := Try.zeroValue69
  i26 := by kernel_rfl }
def Try.sort51_ren : Go.Shelf.Ren := ⟨fun | 6 => 51 | 8 => 61 | 9 => 60 | 19 => 75 | 20 => 76 | 21 => 66 | 22 => 67 | 23 => 68 | 24 => 69 | 25 => 70 | 26 => 71 | 27 => 72 | 28 => 73 | 29 => 74 | 36 => 78 | 31 => 79 | 32 => 80 | 37 => 81 | 38 => 82 | 39 => 83 | 41 => 84 | n => n, fun | 27 => 49 | 29 => 9 | 3 => 3 | 32 => 92 | 26 => 49 | 0 => 0 | 44 => 103 | 46 => 105 | 4 => 4 | 36 => 96 | 35 => 95 | 41 => 100 | 5 => 5 | 9 => 9 | 53 => 106 | 57 => 110 | 63 => 112 | 64 => 113 | n => n, fun | n => n⟩
theorem Try.sort51 : Go.Proofs.SlLaysM.n6 Try.prog Try.sort51_ren := {
  mixed := by kernel_rfl
  f6 := ⟨Try.f51.name, by decide, Try.func51.trans (congrArg some (by kernel_rfl))⟩
  f8 := Try.func61.trans (congrArg some (by kernel_rfl))
  f9 := ⟨Try.f60.name, by decide, Try.func60.trans (congrArg some (by kernel_rfl))⟩
  f19 := Try.func75.trans (congrArg some (by kernel_rfl))
  f20 := Try.func76.trans (congrArg some (by kernel_rfl))
  f21 := ⟨Try.f66.name, by decide, Try.func66.trans (congrArg some (by kernel_rfl))⟩
  f22 := ⟨Try.f67.name, by decide, Try.func67.trans (congrArg some (by kernel_rfl))⟩
  f23 := ⟨Try.f68.name, by decide, Try.func68.trans (congrArg some (by kernel_rfl))⟩
  f24 := ⟨Try.f69.name, by decide, Try.func69.trans (congrArg some (by kernel_rfl))⟩
  f25 := ⟨Try.f70.name, by decide, Try.func70.trans (congrArg some (by kernel_rfl))⟩
  f26 := ⟨Try.f71.name, by decide, Try.func71.trans (congrArg some (by kernel_rfl))⟩
  f27 := ⟨Try.f72.name, by decide, Try.func72.trans (congrArg some (by kernel_rfl))⟩
  f28 := ⟨Try.f73.name, by decide, Try.func73.trans (congrArg some (by kernel_rfl))⟩
  f29 := ⟨Try.f74.name, by decide, Try.func74.trans (congrArg some (by kernel_rfl))⟩
  f31 := Try.func79.trans (congrArg some (by kernel_rfl))
  f32 := Try.func80.trans (congrArg some (by kernel_rfl))
  f36 := ⟨Try.f78.name, by decide, Try.func78.trans (congrArg some (by kernel_rfl))⟩
  f37 := ⟨Try.f81.name, by decide, Try.func81.trans (congrArg some (by kernel_rfl))⟩
  f38 := ⟨Try.f82.name, by decide, Try.func82.trans (congrArg some (by kernel_rfl))⟩
  f39 := ⟨Try.f83.name, by decide, Try.func83.trans (congrArg some (by kernel_rfl))⟩
  f41 := ⟨Try.f84.name, by decide, Try.func84.trans (congrArg some (by kernel_rfl))⟩
  t0 := Try.underlying0
  a0 := Try.isAgg0
  z0 := Try.sizeOf0
  v0 := Try.zeroValue0
  t3 := Try.underlying3
  a3 := Try.isAgg3
  z3 := Try.sizeOf3
  v3 := Try.zeroValue3
  t4 := Try.underlying4
  a4 := Try.isAgg4
  z4 := Try.sizeOf4
  v4 := Try.zeroValue4
  t5 := Try.underlying5
  a5 := Try.isAgg5
  z5 := Try.sizeOf5
  v5 := Try.zeroValue5
  t9 := Try.underlying9
  a9 := Try.isAgg9
  z9 := Try.sizeOf9
  v9 := Try.zeroValue9
  t26 := Try.underlying49
  a26 := Try.isAgg49
  z26 := Try.sizeOf49
  v26 := Try.zeroValue49
  t27 := Try.underlying49
  a27 := Try.isAgg49
  z27 := Try.sizeOf49
  v27 := Try.zeroValue49
  t29 := Try.underlying9
  a29 := Try.isAgg9
  z29 := Try.sizeOf9
  v29 := Try.zeroValue9
  t32 := Try.underlying92
  a32 := Try.isAgg92
  z32 := Try.sizeOf92
  v32 := Try.zeroValue92
  t35 := Try.underlying95
  a35 := Try.isAgg95
  z35 := Try.sizeOf95
  v35 := Try.zeroValue95
  t36 := Try.underlying96
  a36 := Try.isAgg96
  z36 := Try.sizeOf96
  v36 := Try.zeroValue96
  t41 := Try.underlying100
  a41 := Try.isAgg100
  z41 := Try.sizeOf100
  v41 := Try.zeroValue100
  t44 := Try.underlying103
  a44 := Try.isAgg103
  z44 := Try.sizeOf103
  v44 := Try.zeroValue103
  t46 := Try.underlying105
  a46 := Try.isAgg105
  z46 := Try.sizeOf105
  v46 := Try.zeroValue105
  t53 := Try.underlying106
  a53 := Try.isAgg106
  z53 := Try.sizeOf106
  v53 := Try.zeroValue106
  t57 := Try.underlying110
  a57 := Try.isAgg110
  z57 := Try.sizeOf110
  v57 := Try.zeroValue110
  t63 := Try.underlying112
  a63 := Try.isAgg112
  z63 := Try.sizeOf112
  v63 := Try.zeroValue112
  t64 := Try.underlying113
  a64 := Try.isAgg113
  z64 := Try.sizeOf113
  v64 := Try.zeroValue113 }
open Go.RowKit Go.Maps Go.Sort Go.Shelf
theorem Try.sorts33 (m : Nat) : AnyZ.SortsIn Try.prog Try.sorted33_ren Fence.wide m :=
  ⟨fun blk off cap ss W hH hblk hsz => callsIn_wide.2 (AnyM.slices_Sort_string Try.sort51 blk off cap ss W hH hblk hsz),
   fun p cap W => callsIn_wide.2 (AnyM.slices_Sort_string_none Try.sort51 p cap W)⟩

theorem Try.maps_Keys_34 (mb : Option Nat) (W : World) : CallsIn Fence.wide 5 Try.prog 34 #[.map mb] W fun e w' => e = .returned (.func (.func 52) #[] #[.pointer (some ⟨W.heap.size, 0, none⟩)]) ∧ w' = W.alloc (.cells #[.map mb] 58) :=
  AnyZ.keys_in Try.keys34 Fence.wide 5 trivial rfl mb W

set_option maxHeartbeats 1000000 in
theorem Try.slices_Sorted_keys_33_34 {H : Type} (b nn : Nat) (D0 : DataW H) (R : Value → Option (DataW H × List MemPlace)) (w : World) (hown : w.ownsMap Try.prog 9 R b nn D0) (hmax : Maps.size D0 ≤ maxLen) (hbytes : Maps.size D0 * 16 ≤ 140737488355328) :
    CallsIn Fence.wide 5 Try.prog 33 #[.func (.func 52) #[] #[.pointer (some ⟨w.heap.size, 0, none⟩)]] (w.alloc (.cells #[.map (some b)] 58)) fun e w' => ∃ (v : Value) (ss : List (List UInt8)), e = .returned v ∧ ss.Perm (strKeys D0) ∧
      w'.ownsRow (w.alloc (.cells #[.map (some b)] 58)).heap.size 9 1 v ss.length ((ss.mergeSort (fun x y => decide (x ≤ y))).map encStr) ∧ (v = .slice none 0 0 ↔ ss = []) ∧ Below (w.alloc (.cells #[.map (some b)] 58)).heap.size (w.alloc (.cells #[.map (some b)] 58)) w' := by
  have hbl := hown.lt
  have hseq : SeqGives Fence.wide 2 Try.prog 52 #[.pointer (some ⟨w.heap.size, 0, none⟩)] encStr (fun ss => ss.Perm (strKeys D0)) (Maps.size D0) (w.alloc (.cells #[.map (some b)] 58)) :=
    AnyZ.keys_gives (ρ := Try.keys34_ren) { Try.keys34 with } Fence.wide _ trivial rfl (by omega) w.heap.size b nn D0 _ (by simp) (by simp) (by
      obtain ⟨es, clock, hb, Ft, hs, hD⟩ := hown
      exact ⟨es, clock, (Below.heap_alloc _ _ b hbl).trans hb, Ft, hs, hD⟩)
  exact AnyZ.sorted_in Try.sorted33 Fence.wide 5 trivial trivial trivial trivial rfl (by omega) (Try.sorts33 _) (enters_of Try.func51 (by kernel_rfl) rfl) 52 #[.pointer (some ⟨w.heap.size, 0, none⟩)] trivial (enters_of Try.func52 (by kernel_rfl) rfl) _ _ hmax hbytes _ hseq

set_option maxHeartbeats 1000000 in
theorem Try.slices_Sorted_keys_nil_33_34 (w : World) :
    CallsIn Fence.wide 5 Try.prog 33 #[.func (.func 52) #[] #[.pointer (some ⟨w.heap.size, 0, none⟩)]] (w.alloc (.cells #[.map none] 58)) fun e w' => ∃ (v : Value) (ss : List (List UInt8)), e = .returned v ∧ ss = [] ∧
      w'.ownsRow (w.alloc (.cells #[.map none] 58)).heap.size 9 1 v ss.length ((ss.mergeSort (fun x y => decide (x ≤ y))).map encStr) ∧ (v = .slice none 0 0 ↔ ss = []) ∧ Below (w.alloc (.cells #[.map none] 58)).heap.size (w.alloc (.cells #[.map none] 58)) w' := by
  have hseq : SeqGives Fence.wide 2 Try.prog 52 #[.pointer (some ⟨w.heap.size, 0, none⟩)] encStr (fun ss : List (List UInt8) => ss = []) 0 (w.alloc (.cells #[.map none] 58)) :=
    AnyZ.keys_gives_nil (ρ := Try.keys34_ren) { Try.keys34 with } Fence.wide _ trivial rfl w.heap.size _ (by simp) (by simp)
  exact AnyZ.sorted_in Try.sorted33 Fence.wide 5 trivial trivial trivial trivial rfl (by omega) (Try.sorts33 _) (enters_of Try.func51 (by kernel_rfl) rfl) 52 #[.pointer (some ⟨w.heap.size, 0, none⟩)] trivial (enters_of Try.func52 (by kernel_rfl) rfl) _ 0 (Nat.zero_le _) (by omega) _ hseq


end Go.Proofs
