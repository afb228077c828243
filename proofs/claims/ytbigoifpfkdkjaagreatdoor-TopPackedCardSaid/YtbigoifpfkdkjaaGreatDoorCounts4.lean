/- counts: the base answers; by the program. -/
import Derived.Test.YtbigoifpfkdkjaaGreatDoorSplit4
namespace Go.Proofs.YtbigoifpfkdkjaaGreatDoor.Sc
open Go Go.RowKit Go.ChangeShapes Go.WideShapes Go.ChangeAt Go.Sort Go.Shelf
set_option maxRecDepth 100000

theorem split_ten : splitS 10 [1, 1, 1] = [4, 3, 3] := by decide +kernel
theorem sl_ones (w : World) : Sl (w.alloc (.cells #[.int .i64 1, .int .i64 1, .int .i64 1] 2)) 1 (.slice (some ⟨w.heap.size, 0, none⟩) 3 3) ([(1 : Int), 1, 1].map nRow) := by
  have hx := heap_alloc_new w (.cells #[.int .i64 1, .int .i64 1, .int .i64 1] 2)
  refine .inr ⟨w.heap.size, 0, 3, rfl, lt_blk hx, by simp, by decide, fun i r hr j u hu => ?_⟩
  match i, hr with
  | 0, hr =>
    obtain rfl : nRow 1 = r := by simpa using hr
    match j, hu with
    | 0, hu => exact (cell_blk hx _).trans (by simpa [nRow] using hu)
    | m + 1, hu => simp [nRow] at hu
  | 1, hr =>
    obtain rfl : nRow 1 = r := by simpa using hr
    match j, hu with
    | 0, hu => exact (cell_blk hx _).trans (by simpa [nRow] using hu)
    | m + 1, hu => simp [nRow] at hu
  | 2, hr =>
    obtain rfl : nRow 1 = r := by simpa using hr
    match j, hu with
    | 0, hu => exact (cell_blk hx _).trans (by simpa [nRow] using hu)
    | m + 1, hu => simp [nRow] at hu
  | m + 3, hr => simp at hr
set_option maxHeartbeats 4000000 in
theorem ten_any (w : World) : Calls Tryz.prog 13 #[] w (RetB w true) := by
  have HSP := Lib.hid (splitM_any 10 [1, 1, 1] _ _ (sl_ones w) (by decide) (by decide) (by decide) (by decide) (by decide) (by decide))
  have HB := Lib.hid (one_below w (.cells #[.int .i64 1, .int .i64 1, .int .i64 1] 2))
  go_enter Tryz.func13, Tryz.ntmps13
  go_wp2_with (first
    | ((with_reducible refine HSP.out.mono ?_); rintro e w2 ⟨hb2, ⟨h1, _⟩ | ⟨_, p, _, rfl, hp⟩⟩
       · exact absurd rfl h1
       rw [split_ten] at hp
       have c0 := cell_blk hp 0
       have c1 := cell_blk hp 1
       have c2 := cell_blk hp 2
       simp only [List.map_cons, List.map_nil, List.getElem?_toArray, List.getElem?_cons_zero, List.getElem?_cons_succ] at c0 c1 c2
       have HB2 := Lib.hid (HB.out.trans (hb2.mono HB.out.size))
       clear hb2 hp)
    | fail)
  go_ret
  exact retB rfl HB2.out
end Go.Proofs.YtbigoifpfkdkjaaGreatDoor.Sc
