/- Which claimant is better: judge, Better. -/
import Derived.Test.YtbigoifpfkdkjaaGreatDisA4
import Derived.Test.YtbigoifpfkdkjaaGreatNetC4
import Derived.Deep.CutRange
namespace Go.Proofs.YtbigoifpfkdkjaaGreat.Sc
open Go Go.RowKit Go.ChangeShapes Go.WideShapes Go.ChangeAt Go.Sort Go.Shelf
set_option maxRecDepth 100000

/-- The world has grown, and nothing else. -/
def Gr (w w' : World) : Prop := ∃ os, w' = Go.Sort.grow w os
theorem Gr.refl (w : World) : Gr w w := ⟨#[], by simp [Go.Sort.grow]⟩
theorem Gr.trans {a b c : World} (h : Gr a b) (k : Gr b c) : Gr a c := by
  obtain ⟨o1, rfl⟩ := h
  obtain ⟨o2, rfl⟩ := k
  exact ⟨_, grow_grow _ _ _⟩
theorem one_gr (w : World) (o : Obj) : Gr w (w.alloc o) := ⟨_, alloc_eq_grow _ _⟩
theorem Gr.alloc {w w' : World} (h : Gr w w') (o : Obj) : Gr w (w'.alloc o) := h.trans (one_gr _ _)
theorem Gr.blk {w w' : World} {k : Nat} {o : Obj} (h : Gr w w') (hb : w.heap[k]? = some o) : w'.heap[k]? = some o := by
  obtain ⟨os, rfl⟩ := h
  rw [Go.Sort.heap_grow_old _ _ (lt_blk hb)]
  exact hb
theorem Gr.below {w w' : World} (h : Gr w w') : Below w.heap.size w w' := by
  obtain ⟨os, rfl⟩ := h
  exact ⟨rfl, rfl, rfl, by simp [Go.Sort.grow], fun k hk => Go.Sort.heap_grow_old _ _ hk⟩
theorem size_al (w : World) (o : Obj) : (w.alloc o).heap.size = w.heap.size + 1 := by simp
def or5 (a b c d e : Int) : Int := if a ≠ 0 then a else if b ≠ 0 then b else if c ≠ 0 then c else if d ≠ 0 then d else e
def cmpC (x y : Clm) : Int := or5 (cmpI x.rt y.rt) (cmpI x.dy y.dy) (cmpS x.nm y.nm) (cmpI y.am x.am) (cmpS x.tg y.tg)
set_option maxHeartbeats 8000000 in
theorem judge_any (x y : Clm) (w : World) : Calls Tryz.prog 38 #[.agg x.cells, .agg y.cells] w (fun e w' => ∃ s, e = .returned (.tuple #[s, .int .i64 (cmpC x y)]) ∧ Gr w w') := by
  have HJ0 := Lib.hid (fun W => judge1_any x y W)
  have HJ1 := Lib.hid (fun W => judge2_any x y W)
  have HJ2 := Lib.hid (fun W => judge3_any x y W)
  have HJ3 := Lib.hid (fun W => judge4_any x y W)
  have HJ4 := Lib.hid (fun W => judge5_any x y W)
  obtain ⟨x0, x1, x2, x3, x4⟩ := x
  obtain ⟨y0, y1, y2, y3, y4⟩ := y
  simp only [Clm.cells, cmpC] at *
  generalize cmpI x2 y2 = c0 at *
  generalize cmpI x3 y3 = c1 at *
  generalize cmpS x0 y0 = c2 at *
  generalize cmpI y4 x4 = c3 at *
  generalize cmpS x1 y1 = c4 at *
  obtain ⟨w2, hw2⟩ : ∃ W, W = ((w.alloc (.cells #[.string x0, .string x1, .int .i64 x2, .int .i64 x3, .int .i64 x4] 33)).alloc (.cells #[.string y0, .string y1, .int .i64 y2, .int .i64 y3, .int .i64 y4] 33)).alloc (.cells #[.string ⟨#[114, 105, 103, 104, 116]⟩, .func (.func 55) #[] #[], .string ⟨#[100, 97, 121]⟩, .func (.func 56) #[] #[], .string ⟨#[110, 97, 109, 101]⟩, .func (.func 57) #[] #[], .string ⟨#[97, 109, 111, 117, 110, 116]⟩, .func (.func 58) #[] #[], .string ⟨#[116, 104, 105, 110, 103]⟩, .func (.func 60) #[] #[]] 98) := ⟨_, rfl⟩
  have HG2 : Hid (Gr w w2) := Lib.hid (hw2 ▸ (((Gr.refl w).alloc _).alloc _).alloc _)
  have hx : w2.heap[w.heap.size]? = some (.cells #[.string x0, .string x1, .int .i64 x2, .int .i64 x3, .int .i64 x4] 33) := hw2 ▸ (one_gr _ _).blk ((one_gr _ _).blk (heap_alloc_new w _))
  have hy : w2.heap[w.heap.size + 1]? = some (.cells #[.string y0, .string y1, .int .i64 y2, .int .i64 y3, .int .i64 y4] 33) := hw2 ▸ (one_gr _ _).blk (by rw [← size_al w]; exact heap_alloc_new _ _)
  have hr : w2.heap[w.heap.size + 1 + 1]? = some (.cells #[.string ⟨#[114, 105, 103, 104, 116]⟩, .func (.func 55) #[] #[], .string ⟨#[100, 97, 121]⟩, .func (.func 56) #[] #[], .string ⟨#[110, 97, 109, 101]⟩, .func (.func 57) #[] #[], .string ⟨#[97, 109, 111, 117, 110, 116]⟩, .func (.func 58) #[] #[], .string ⟨#[116, 104, 105, 110, 103]⟩, .func (.func 60) #[] #[]] 98) := hw2 ▸ (by rw [← size_al w, ← size_al]; exact heap_alloc_new _ _)
  have HXY : Hid (∀ W, Gr w2 W → (W.cell? ⟨w.heap.size, 0, none⟩ = some (.string x0) ∧ W.cell? ⟨w.heap.size, 1, none⟩ = some (.string x1) ∧ W.cell? ⟨w.heap.size, 2, none⟩ = some (.int .i64 x2) ∧ W.cell? ⟨w.heap.size, 3, none⟩ = some (.int .i64 x3) ∧ W.cell? ⟨w.heap.size, 4, none⟩ = some (.int .i64 x4)) ∧ (W.cell? ⟨w.heap.size + 1, 0, none⟩ = some (.string y0) ∧ W.cell? ⟨w.heap.size + 1, 1, none⟩ = some (.string y1) ∧ W.cell? ⟨w.heap.size + 1, 2, none⟩ = some (.int .i64 y2) ∧ W.cell? ⟨w.heap.size + 1, 3, none⟩ = some (.int .i64 y3) ∧ W.cell? ⟨w.heap.size + 1, 4, none⟩ = some (.int .i64 y4))) := Lib.hid (fun W h => ⟨⟨cell_blk (h.blk hx) 0, cell_blk (h.blk hx) 1, cell_blk (h.blk hx) 2, cell_blk (h.blk hx) 3, cell_blk (h.blk hx) 4⟩, cell_blk (h.blk hy) 0, cell_blk (h.blk hy) 1, cell_blk (h.blk hy) 2, cell_blk (h.blk hy) 3, cell_blk (h.blk hy) 4⟩)
  have HN0 : Hid (∀ W, Gr w2 W → W.cell? ⟨w.heap.size + 1 + 1, 0, none⟩ = some (.string ⟨#[114, 105, 103, 104, 116]⟩) ∧ W.cell? ⟨w.heap.size + 1 + 1, 1, none⟩ = some (.func (.func 55) #[] #[])) := Lib.hid (fun W h => ⟨cell_blk (h.blk hr) 0, cell_blk (h.blk hr) 1⟩)
  have HN1 : Hid (∀ W, Gr w2 W → W.cell? ⟨w.heap.size + 1 + 1, 2, none⟩ = some (.string ⟨#[100, 97, 121]⟩) ∧ W.cell? ⟨w.heap.size + 1 + 1, 3, none⟩ = some (.func (.func 56) #[] #[])) := Lib.hid (fun W h => ⟨cell_blk (h.blk hr) 2, cell_blk (h.blk hr) 3⟩)
  have HN2 : Hid (∀ W, Gr w2 W → W.cell? ⟨w.heap.size + 1 + 1, 4, none⟩ = some (.string ⟨#[110, 97, 109, 101]⟩) ∧ W.cell? ⟨w.heap.size + 1 + 1, 5, none⟩ = some (.func (.func 57) #[] #[])) := Lib.hid (fun W h => ⟨cell_blk (h.blk hr) 4, cell_blk (h.blk hr) 5⟩)
  have HN3 : Hid (∀ W, Gr w2 W → W.cell? ⟨w.heap.size + 1 + 1, 6, none⟩ = some (.string ⟨#[97, 109, 111, 117, 110, 116]⟩) ∧ W.cell? ⟨w.heap.size + 1 + 1, 7, none⟩ = some (.func (.func 58) #[] #[])) := Lib.hid (fun W h => ⟨cell_blk (h.blk hr) 6, cell_blk (h.blk hr) 7⟩)
  have HN4 : Hid (∀ W, Gr w2 W → W.cell? ⟨w.heap.size + 1 + 1, 8, none⟩ = some (.string ⟨#[116, 104, 105, 110, 103]⟩) ∧ W.cell? ⟨w.heap.size + 1 + 1, 9, none⟩ = some (.func (.func 60) #[] #[])) := Lib.hid (fun W h => ⟨cell_blk (h.blk hr) 8, cell_blk (h.blk hr) 9⟩)
  have HW2 := Lib.hid hw2.symm
  clear hx hy hr hw2
  go_enter Tryz.func38, Tryz.ntmps38
  go_wp2_with fail
  try simp only [size_al]
  rw [HW2.out]
  go_loopw [16] (fun i wr => ∃ k : Nat, k ≤ 5 ∧ i = .int .i64 k ∧ ((0 < k → c0 = 0) ∧ (1 < k → c1 = 0) ∧ (2 < k → c2 = 0) ∧ (3 < k → c3 = 0) ∧ (4 < k → c4 = 0)) ∧ Gr w2 wr) (fun i _ => 5 - (intOf i).toNat)
  case atStart => exact ⟨0, by decide, rfl, ⟨fun h => absurd h (by decide), fun h => absurd h (by decide), fun h => absurd h (by decide), fun h => absurd h (by decide), fun h => absurd h (by decide)⟩, Gr.refl _⟩
  case round =>
    obtain ⟨k, hk, rfl, hz, hgr⟩ := hrel
    have HZ := Lib.hid hz
    clear hz
    obtain rfl | rfl | rfl | rfl | rfl | rfl : k = 0 ∨ k = 1 ∨ k = 2 ∨ k = 3 ∨ k = 4 ∨ k = 5 := by omega
    · obtain ⟨n0, n1⟩ := HN0.out _ hgr
      have HG0 := Lib.hid hgr
      obtain ⟨wk, hwk⟩ : ∃ x, x = wr.alloc (.cells #[.string ⟨#[114, 105, 103, 104, 116]⟩, .func (.func 55) #[] #[]] 98 (0, 0)) := ⟨_, rfl⟩
      have HWK := Lib.hid hwk
      have hgk : Gr w2 wk := hwk ▸ hgr.alloc _
      have HGK := Lib.hid hgk
      have hxk : wk.heap[wr.heap.size]? = some (.cells #[.string ⟨#[114, 105, 103, 104, 116]⟩, .func (.func 55) #[] #[]] 98 (0, 0)) := hwk ▸ heap_alloc_new wr _
      have HXK := Lib.hid hxk
      clear hwk
      go_upto_region 4 with (first
        | (refine wpList_store_row (P := Tryz.prog) rfl 98 (.tmp 7) (.tmp 19) rfl wr.heap.size #[.string ⟨#[114, 105, 103, 104, 116]⟩, .func (.func 55) #[] #[]] rfl rfl _ _ (heap_alloc_new wr _) (by kernel_rfl) rfl (by simp [Value.oneCell']) ?_; rw [setRow_new4, ← HWK.out])
        | fail)
      clear n0 n1
      have m1 := cell_blk hxk 1
      obtain ⟨⟨x0, x1, x2, x3, x4⟩, y0, y1, y2, y3, y4⟩ := HXY.out _ hgk
      clear hgr hgk hxk
      by_cases hc : c0 = 0
      · have t1 : (c0 != 0) = false := by simp [hc]
        have HC := Lib.hid hc
        clear hc
        go_wp2_with (first
          | ((with_reducible refine (HJ0.out _).mono ?_); rintro e w5 ⟨rfl, hg5⟩; have HG5 := Lib.hid (HGK.out.trans hg5); have e1 : w5.cell? ⟨wr.heap.size, 0, none⟩ = some (.string ⟨#[114, 105, 103, 104, 116]⟩) := cell_blk (Gr.blk hg5 HXK.out) 0; clear hg5)
          | fail)
        go_roundw
        case rel => exact ⟨1, by decide, rfl, ⟨fun _ => HC.out, fun h => absurd h (by decide), fun h => absurd h (by decide), fun h => absurd h (by decide), fun h => absurd h (by decide)⟩, HG5.out⟩
        case measure => simp [intOf]
      · have t1 : (c0 != 0) = true := by simp [hc]
        have HC : Hid (or5 c0 c1 c2 c3 c4 = c0) := Lib.hid (by simp [or5, hc])
        clear hc
        go_wp2_with (first
          | ((with_reducible refine (HJ0.out _).mono ?_); rintro e w5 ⟨rfl, hg5⟩; have HG5 := Lib.hid (HGK.out.trans hg5); have e1 : w5.cell? ⟨wr.heap.size, 0, none⟩ = some (.string ⟨#[114, 105, 103, 104, 116]⟩) := cell_blk (Gr.blk hg5 HXK.out) 0; clear hg5)
          | fail)
        go_ret2
        exact ⟨_, by rw [HC.out]; rfl, HG2.out.trans HG5.out⟩
    · obtain ⟨n0, n1⟩ := HN1.out _ hgr
      have HG0 := Lib.hid hgr
      obtain ⟨wk, hwk⟩ : ∃ x, x = wr.alloc (.cells #[.string ⟨#[100, 97, 121]⟩, .func (.func 56) #[] #[]] 98 (0, 0)) := ⟨_, rfl⟩
      have HWK := Lib.hid hwk
      have hgk : Gr w2 wk := hwk ▸ hgr.alloc _
      have HGK := Lib.hid hgk
      have hxk : wk.heap[wr.heap.size]? = some (.cells #[.string ⟨#[100, 97, 121]⟩, .func (.func 56) #[] #[]] 98 (0, 0)) := hwk ▸ heap_alloc_new wr _
      have HXK := Lib.hid hxk
      clear hwk
      go_upto_region 4 with (first
        | (refine wpList_store_row (P := Tryz.prog) rfl 98 (.tmp 7) (.tmp 19) rfl wr.heap.size #[.string ⟨#[100, 97, 121]⟩, .func (.func 56) #[] #[]] rfl rfl _ _ (heap_alloc_new wr _) (by kernel_rfl) rfl (by simp [Value.oneCell']) ?_; rw [setRow_new4, ← HWK.out])
        | fail)
      clear n0 n1
      have m1 := cell_blk hxk 1
      obtain ⟨⟨x0, x1, x2, x3, x4⟩, y0, y1, y2, y3, y4⟩ := HXY.out _ hgk
      clear hgr hgk hxk
      by_cases hc : c1 = 0
      · have t1 : (c1 != 0) = false := by simp [hc]
        have HC := Lib.hid hc
        clear hc
        go_wp2_with (first
          | ((with_reducible refine (HJ1.out _).mono ?_); rintro e w5 ⟨rfl, hg5⟩; have HG5 := Lib.hid (HGK.out.trans hg5); have e1 : w5.cell? ⟨wr.heap.size, 0, none⟩ = some (.string ⟨#[100, 97, 121]⟩) := cell_blk (Gr.blk hg5 HXK.out) 0; clear hg5)
          | fail)
        go_roundw
        case rel => exact ⟨2, by decide, rfl, ⟨fun _ => HZ.out.1 (by decide), fun _ => HC.out, fun h => absurd h (by decide), fun h => absurd h (by decide), fun h => absurd h (by decide)⟩, HG5.out⟩
        case measure => simp [intOf]
      · have t1 : (c1 != 0) = true := by simp [hc]
        have HC : Hid (or5 c0 c1 c2 c3 c4 = c1) := Lib.hid (by simp [or5, HZ.out.1 (by decide), hc])
        clear hc
        go_wp2_with (first
          | ((with_reducible refine (HJ1.out _).mono ?_); rintro e w5 ⟨rfl, hg5⟩; have HG5 := Lib.hid (HGK.out.trans hg5); have e1 : w5.cell? ⟨wr.heap.size, 0, none⟩ = some (.string ⟨#[100, 97, 121]⟩) := cell_blk (Gr.blk hg5 HXK.out) 0; clear hg5)
          | fail)
        go_ret2
        exact ⟨_, by rw [HC.out]; rfl, HG2.out.trans HG5.out⟩
    · obtain ⟨n0, n1⟩ := HN2.out _ hgr
      have HG0 := Lib.hid hgr
      obtain ⟨wk, hwk⟩ : ∃ x, x = wr.alloc (.cells #[.string ⟨#[110, 97, 109, 101]⟩, .func (.func 57) #[] #[]] 98 (0, 0)) := ⟨_, rfl⟩
      have HWK := Lib.hid hwk
      have hgk : Gr w2 wk := hwk ▸ hgr.alloc _
      have HGK := Lib.hid hgk
      have hxk : wk.heap[wr.heap.size]? = some (.cells #[.string ⟨#[110, 97, 109, 101]⟩, .func (.func 57) #[] #[]] 98 (0, 0)) := hwk ▸ heap_alloc_new wr _
      have HXK := Lib.hid hxk
      clear hwk
      go_upto_region 4 with (first
        | (refine wpList_store_row (P := Tryz.prog) rfl 98 (.tmp 7) (.tmp 19) rfl wr.heap.size #[.string ⟨#[110, 97, 109, 101]⟩, .func (.func 57) #[] #[]] rfl rfl _ _ (heap_alloc_new wr _) (by kernel_rfl) rfl (by simp [Value.oneCell']) ?_; rw [setRow_new4, ← HWK.out])
        | fail)
      clear n0 n1
      have m1 := cell_blk hxk 1
      obtain ⟨⟨x0, x1, x2, x3, x4⟩, y0, y1, y2, y3, y4⟩ := HXY.out _ hgk
      clear hgr hgk hxk
      by_cases hc : c2 = 0
      · have t1 : (c2 != 0) = false := by simp [hc]
        have HC := Lib.hid hc
        clear hc
        go_wp2_with (first
          | ((with_reducible refine (HJ2.out _).mono ?_); rintro e w5 ⟨rfl, hg5⟩; have HG5 := Lib.hid (HGK.out.trans hg5); have e1 : w5.cell? ⟨wr.heap.size, 0, none⟩ = some (.string ⟨#[110, 97, 109, 101]⟩) := cell_blk (Gr.blk hg5 HXK.out) 0; clear hg5)
          | fail)
        go_roundw
        case rel => exact ⟨3, by decide, rfl, ⟨fun _ => HZ.out.1 (by decide), fun _ => HZ.out.2.1 (by decide), fun _ => HC.out, fun h => absurd h (by decide), fun h => absurd h (by decide)⟩, HG5.out⟩
        case measure => simp [intOf]
      · have t1 : (c2 != 0) = true := by simp [hc]
        have HC : Hid (or5 c0 c1 c2 c3 c4 = c2) := Lib.hid (by simp [or5, HZ.out.1 (by decide), HZ.out.2.1 (by decide), hc])
        clear hc
        go_wp2_with (first
          | ((with_reducible refine (HJ2.out _).mono ?_); rintro e w5 ⟨rfl, hg5⟩; have HG5 := Lib.hid (HGK.out.trans hg5); have e1 : w5.cell? ⟨wr.heap.size, 0, none⟩ = some (.string ⟨#[110, 97, 109, 101]⟩) := cell_blk (Gr.blk hg5 HXK.out) 0; clear hg5)
          | fail)
        go_ret2
        exact ⟨_, by rw [HC.out]; rfl, HG2.out.trans HG5.out⟩
    · obtain ⟨n0, n1⟩ := HN3.out _ hgr
      have HG0 := Lib.hid hgr
      obtain ⟨wk, hwk⟩ : ∃ x, x = wr.alloc (.cells #[.string ⟨#[97, 109, 111, 117, 110, 116]⟩, .func (.func 58) #[] #[]] 98 (0, 0)) := ⟨_, rfl⟩
      have HWK := Lib.hid hwk
      have hgk : Gr w2 wk := hwk ▸ hgr.alloc _
      have HGK := Lib.hid hgk
      have hxk : wk.heap[wr.heap.size]? = some (.cells #[.string ⟨#[97, 109, 111, 117, 110, 116]⟩, .func (.func 58) #[] #[]] 98 (0, 0)) := hwk ▸ heap_alloc_new wr _
      have HXK := Lib.hid hxk
      clear hwk
      go_upto_region 4 with (first
        | (refine wpList_store_row (P := Tryz.prog) rfl 98 (.tmp 7) (.tmp 19) rfl wr.heap.size #[.string ⟨#[97, 109, 111, 117, 110, 116]⟩, .func (.func 58) #[] #[]] rfl rfl _ _ (heap_alloc_new wr _) (by kernel_rfl) rfl (by simp [Value.oneCell']) ?_; rw [setRow_new4, ← HWK.out])
        | fail)
      clear n0 n1
      have m1 := cell_blk hxk 1
      obtain ⟨⟨x0, x1, x2, x3, x4⟩, y0, y1, y2, y3, y4⟩ := HXY.out _ hgk
      clear hgr hgk hxk
      by_cases hc : c3 = 0
      · have t1 : (c3 != 0) = false := by simp [hc]
        have HC := Lib.hid hc
        clear hc
        go_wp2_with (first
          | ((with_reducible refine (HJ3.out _).mono ?_); rintro e w5 ⟨rfl, hg5⟩; have HG5 := Lib.hid (HGK.out.trans hg5); have e1 : w5.cell? ⟨wr.heap.size, 0, none⟩ = some (.string ⟨#[97, 109, 111, 117, 110, 116]⟩) := cell_blk (Gr.blk hg5 HXK.out) 0; clear hg5)
          | fail)
        go_roundw
        case rel => exact ⟨4, by decide, rfl, ⟨fun _ => HZ.out.1 (by decide), fun _ => HZ.out.2.1 (by decide), fun _ => HZ.out.2.2.1 (by decide), fun _ => HC.out, fun h => absurd h (by decide)⟩, HG5.out⟩
        case measure => simp [intOf]
      · have t1 : (c3 != 0) = true := by simp [hc]
        have HC : Hid (or5 c0 c1 c2 c3 c4 = c3) := Lib.hid (by simp [or5, HZ.out.1 (by decide), HZ.out.2.1 (by decide), HZ.out.2.2.1 (by decide), hc])
        clear hc
        go_wp2_with (first
          | ((with_reducible refine (HJ3.out _).mono ?_); rintro e w5 ⟨rfl, hg5⟩; have HG5 := Lib.hid (HGK.out.trans hg5); have e1 : w5.cell? ⟨wr.heap.size, 0, none⟩ = some (.string ⟨#[97, 109, 111, 117, 110, 116]⟩) := cell_blk (Gr.blk hg5 HXK.out) 0; clear hg5)
          | fail)
        go_ret2
        exact ⟨_, by rw [HC.out]; rfl, HG2.out.trans HG5.out⟩
    · obtain ⟨n0, n1⟩ := HN4.out _ hgr
      have HG0 := Lib.hid hgr
      obtain ⟨wk, hwk⟩ : ∃ x, x = wr.alloc (.cells #[.string ⟨#[116, 104, 105, 110, 103]⟩, .func (.func 60) #[] #[]] 98 (0, 0)) := ⟨_, rfl⟩
      have HWK := Lib.hid hwk
      have hgk : Gr w2 wk := hwk ▸ hgr.alloc _
      have HGK := Lib.hid hgk
      have hxk : wk.heap[wr.heap.size]? = some (.cells #[.string ⟨#[116, 104, 105, 110, 103]⟩, .func (.func 60) #[] #[]] 98 (0, 0)) := hwk ▸ heap_alloc_new wr _
      have HXK := Lib.hid hxk
      clear hwk
      go_upto_region 4 with (first
        | (refine wpList_store_row (P := Tryz.prog) rfl 98 (.tmp 7) (.tmp 19) rfl wr.heap.size #[.string ⟨#[116, 104, 105, 110, 103]⟩, .func (.func 60) #[] #[]] rfl rfl _ _ (heap_alloc_new wr _) (by kernel_rfl) rfl (by simp [Value.oneCell']) ?_; rw [setRow_new4, ← HWK.out])
        | fail)
      clear n0 n1
      have m1 := cell_blk hxk 1
      obtain ⟨⟨x0, x1, x2, x3, x4⟩, y0, y1, y2, y3, y4⟩ := HXY.out _ hgk
      clear hgr hgk hxk
      by_cases hc : c4 = 0
      · have t1 : (c4 != 0) = false := by simp [hc]
        have HC := Lib.hid hc
        clear hc
        go_wp2_with (first
          | ((with_reducible refine (HJ4.out _).mono ?_); rintro e w5 ⟨rfl, hg5⟩; have HG5 := Lib.hid (HGK.out.trans hg5); have e1 : w5.cell? ⟨wr.heap.size, 0, none⟩ = some (.string ⟨#[116, 104, 105, 110, 103]⟩) := cell_blk (Gr.blk hg5 HXK.out) 0; clear hg5)
          | fail)
        go_roundw
        case rel => exact ⟨5, by decide, rfl, ⟨fun _ => HZ.out.1 (by decide), fun _ => HZ.out.2.1 (by decide), fun _ => HZ.out.2.2.1 (by decide), fun _ => HZ.out.2.2.2.1 (by decide), fun _ => HC.out⟩, HG5.out⟩
        case measure => simp [intOf]
      · have t1 : (c4 != 0) = true := by simp [hc]
        have HC : Hid (or5 c0 c1 c2 c3 c4 = c4) := Lib.hid (by simp [or5, HZ.out.1 (by decide), HZ.out.2.1 (by decide), HZ.out.2.2.1 (by decide), HZ.out.2.2.2.1 (by decide)])
        clear hc
        go_wp2_with (first
          | ((with_reducible refine (HJ4.out _).mono ?_); rintro e w5 ⟨rfl, hg5⟩; have HG5 := Lib.hid (HGK.out.trans hg5); have e1 : w5.cell? ⟨wr.heap.size, 0, none⟩ = some (.string ⟨#[116, 104, 105, 110, 103]⟩) := cell_blk (Gr.blk hg5 HXK.out) 0; clear hg5)
          | fail)
        go_ret2
        exact ⟨_, by rw [HC.out]; rfl, HG2.out.trans HG5.out⟩
    · have HG0 := Lib.hid hgr
      have HC : Hid (or5 c0 c1 c2 c3 c4 = 0) := Lib.hid (by simp [or5, HZ.out.1 (by decide), HZ.out.2.1 (by decide), HZ.out.2.2.1 (by decide), HZ.out.2.2.2.1 (by decide), HZ.out.2.2.2.2 (by decide)])
      clear hgr hk
      go_wp2_with fail
      go_ret2
      exact ⟨_, by rw [HC.out]; rfl, HG2.out.trans HG0.out⟩
theorem cmpI_rng (a b : Int) : -1 ≤ cmpI a b ∧ cmpI a b ≤ 1 := by unfold cmpI; split; decide; split <;> decide
theorem cmpS_rng (a b : ByteArray) : -1 ≤ cmpS a b ∧ cmpS a b ≤ 1 := by unfold cmpS; split; decide; split <;> decide
theorem cmpC_rng (x y : Clm) : -1 ≤ cmpC x y ∧ cmpC x y ≤ 1 := by
  unfold cmpC or5
  split
  · exact cmpI_rng _ _
  split
  · exact cmpI_rng _ _
  split
  · exact cmpS_rng _ _
  split
  · exact cmpI_rng _ _
  exact cmpS_rng _ _
set_option maxHeartbeats 2000000 in
theorem better_any (x y : Clm) (w : World) : Calls Tryz.prog 22 #[.agg x.cells, .agg y.cells] w (fun e w' => e = .returned (.int .i64 (-(cmpC x y))) ∧ Gr w w') := by
  have HJ := Lib.hid (fun W => judge_any x y W)
  have hr := cmpC_rng x y
  generalize cmpC x y = c at *
  obtain ⟨x0, x1, x2, x3, x4⟩ := x
  obtain ⟨y0, y1, y2, y3, y4⟩ := y
  simp only [Clm.cells] at *
  have hw : IntKind.i64.wrap (-c) = -c := by rw [IntKind.wrap_i64]; omega
  have HG := Lib.hid (((Gr.refl w).alloc (.cells #[.string x0, .string x1, .int .i64 x2, .int .i64 x3, .int .i64 x4] 33)).alloc (.cells #[.string y0, .string y1, .int .i64 y2, .int .i64 y3, .int .i64 y4] 33))
  clear hr
  go_enter Tryz.func22, Tryz.ntmps22
  go_wp2_with (first
    | ((with_reducible refine (HJ.out _).mono ?_); rintro e w5 ⟨s, rfl, hg5⟩; have HG5 := Lib.hid (HG.out.trans hg5); clear hg5)
    | fail)
  go_ret
  exact ⟨by simp, HG5.out⟩
set_option maxHeartbeats 2000000 in
theorem rank1_any (x y : Clm) (w : World) : Calls Tryz.prog 28 #[.agg x.cells, .agg y.cells] w (fun e w' => e = .returned (.int .i64 (cmpC x y)) ∧ Gr w w') := by
  have HJ := Lib.hid (fun W => better_any x y W)
  have hr := cmpC_rng x y
  generalize cmpC x y = c at *
  obtain ⟨x0, x1, x2, x3, x4⟩ := x
  obtain ⟨y0, y1, y2, y3, y4⟩ := y
  simp only [Clm.cells] at *
  have HR := Lib.hid hr
  have HG := Lib.hid (((Gr.refl w).alloc (.cells #[.string x0, .string x1, .int .i64 x2, .int .i64 x3, .int .i64 x4] 33)).alloc (.cells #[.string y0, .string y1, .int .i64 y2, .int .i64 y3, .int .i64 y4] 33))
  clear hr
  go_enter Tryz.func28, Tryz.ntmps28
  go_wp2_with (first
    | ((with_reducible refine (HJ.out _).mono ?_); rintro e w5 ⟨rfl, hg5⟩; have HG5 := Lib.hid (HG.out.trans hg5); clear hg5)
    | fail)
  go_ret
  exact ⟨by have := HR.out; simp; unfold wrap64; omega, HG5.out⟩
end Go.Proofs.YtbigoifpfkdkjaaGreat.Sc
