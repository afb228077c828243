/- Copy of a bond. -/
import Derived.Test.YtehlhfcaajhhaaaCopyM45
namespace Go.Proofs.Ytehlhfcaajhhaaa.Sc
open Go Go.RowKit Go.ChangeShapes Go.WideShapes Go.ChangeAt
set_option maxRecDepth 100000

theorem lim_in {L : Int} (h : 0 ≤ L ∧ L ≤ 1099511627776) : limOf L = L := by unfold limOf; rw [if_neg (by omega), if_neg (by omega)]
/-- A bond of its own: its blocks are new. -/
def CopyP (w : World) (L : Int) (l : List Bx) (e : Ending) (w' : World) : Prop := ∃ bq bn, e = .returned (.pointer (some ⟨bq, 0, none⟩)) ∧ w.heap.size ≤ bq ∧ w.heap.size ≤ bn ∧ Bst w' bq bn L l ∧ Below w.heap.size w w'
set_option maxHeartbeats 4000000 in
theorem bcopy_any (l : List Bx) (L : Int) (bp bm : Nat) (w : World) (h : Bst w bp bm L l) :
    Calls Try.prog 24 #[.pointer (some ⟨bp, 0, none⟩)] w (CopyP w L l) := by
  have HB := Lib.hid h
  obtain ⟨es, hm, hp⟩ := h.map
  have HM := Lib.hid hm
  have HP := Lib.hid hp
  have c0 := cell_blk h.box 0
  have HO := Lib.hid (open_any L w)
  clear h hm hp
  go_enter Try.func24, Try.ntmps24
  go_wp2_with (first
    | ((with_reducible refine HO.out.mono ?_); rintro e w1 ⟨bq, bn, rfl, h1, h2, hs, hb1⟩; have H1 := Lib.hid h1; have H2 := Lib.hid h2; have HB1 := Lib.hid hb1; have HS := Lib.hid hs; have HX1 := Lib.hid (blk hb1 (lt_blk HB.out.box) HB.out.box); have x1 := cell_blk HX1.out 1; have f1 := free_blk hs.box 1; have y1 := cell_blk hs.box 1; clear h1 h2 hs hb1)
    | fail)
  obtain ⟨w2, hw2⟩ : ∃ x, x = w1.setCell ⟨bq, 1, none⟩ (.int .i64 (usedOf l)) := ⟨_, rfl⟩
  have HNQ : Hid (¬ bp = bq) := Lib.hid (by have := lt_blk HB.out.box; have := H1.out; omega)
  have HNN : Hid (¬ bm = bq ∧ ¬ bn = bm) := Lib.hid ⟨by have := HM.out.lt; have := H1.out; omega, by have := HM.out.lt; have := H2.out; omega⟩
  have HX2 : Hid (w2.heap[bp]? = some (.cells #[.int .i64 L, .int .i64 (usedOf l), .map (some bm)] 95 (0, 0))) := Lib.hid (by
    rw [hw2]; exact (Below.heap_setCell _ _ _ _ (fun e => HNQ.out e)).trans HX1.out)
  have HQ2 : Hid (w2.heap[bq]? = some (.cells #[.int .i64 L, .int .i64 (usedOf l), .map (some bn)] 95 (0, 0))) := Lib.hid (by
    rw [hw2]
    have hq := HS.out.box
    rw [lim_in HB.out.lim] at hq
    exact blk_set1 hq _)
  have HM2 : Hid (Mp.MapAt w2 bm es) := Lib.hid (by
    rw [hw2]; exact (HM.out.same (HB1.out.block _ HM.out.lt)).same (Below.heap_setCell _ _ _ _ (fun e => HNN.out.1 e)))
  have HN2 : Hid (Mp.MapAt w2 bn []) := Lib.hid (by
    obtain ⟨fs, hf, hfp⟩ := HS.out.map
    have : fs = [] := List.Perm.eq_nil hfp
    subst this
    rw [hw2]; exact hf.same (Below.heap_setCell _ _ _ _ (fun e => HS.out.ne e)))
  have HB2 : Hid (Below w.heap.size w w2) := Lib.hid (by rw [hw2]; exact HB1.out.setCell H1.out _)
  have HCP := Lib.hid (mapCopy_any es bn bm w2.drew (HN2.out.same rfl) (HM2.out.same rfl) HNN.out.2 (three_of HP.out))
  rw [← hw2]
  clear hw2 x1 f1 y1
  have x2 := cell_blk HX2.out 2
  have y2 := cell_blk HQ2.out 2
  go_still_tail 8, (by kernel_rfl)
  change wpList _ _ _ _ _ w2.drew
  go_wp2_with (first
    | ((with_reducible refine HCP.out.mono ?_); rintro e w3 ⟨rfl, hf, hk⟩; have HF := Lib.hid hf; have HK := Lib.hid hk; clear hf hk)
    | fail)
  go_ret
  obtain ⟨fs, hf, hfp⟩ := HF.out
  exact ⟨bq, bn, rfl, H1.out, H2.out, ⟨HK.out.undrew.blk HQ2.out (fun e => HS.out.ne e.symm), ⟨fs, hf, hfp.trans HP.out⟩, HS.out.ne, HB.out.good, HB.out.lim, HB.out.us⟩, HK.out.undrew.behind HB2.out HB2.out.size (fun k hk e => by have := H2.out; omega)⟩
end Go.Proofs.Ytehlhfcaajhhaaa.Sc
