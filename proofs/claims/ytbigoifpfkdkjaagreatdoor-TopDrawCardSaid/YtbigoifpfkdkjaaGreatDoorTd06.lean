/- What may still be drawn: allow.Left. The contracts of the reference of layer 30: its bounds, the most and the least. -/
import Derived.Test.YtbigoifpfkdkjaaGreatDoorTd05
import Derived.Test.YtbigoifpfkdkjaaGreatDoorTd02
namespace Go.Proofs.YtbigoifpfkdkjaaGreatDoor.Sc
open Go Go.RowKit Go.ChangeShapes Go.WideShapes Go.ChangeAt
set_option maxRecDepth 100000

/-- What may still be drawn. -/
def leftOk (c : Cr) (l : List Dr) : Bool := draws l && c.bnd
def RetLeft (w : World) (c : Cr) (l : List Dr) : Ending → World → Prop := Ret w (.tuple #[.int .i64 (if leftOk c l then (if c.most - dsum l < 0 then 0 else c.most - dsum l) else 0), .int .i64 (if leftOk c l then 0 else 1)])
theorem retLeft_no {w w' : World} {c : Cr} {l : List Dr} (h : leftOk c l = false) (hb : Below w.heap.size w w') : RetLeft w c l (.returned (.tuple #[.int .i64 0, .int .i64 1])) w' := ⟨by simp [h], hb⟩
theorem retLeft_yes {w w' : World} {c : Cr} {l : List Dr} {x : Int} (h : leftOk c l = true) (hx : x = if c.most - dsum l < 0 then 0 else c.most - dsum l) (hb : Below w.heap.size w w') : RetLeft w c l (.returned (.tuple #[.int .i64 x, .int .i64 0])) w' := ⟨by simp [h, hx], hb⟩

theorem Drawn_yes (l : List Dr) (h : draws l = true) (v : Value) (w : World) (hs : Sl w 2 v (l.map Dr.row)) : Calls Tryz.prog 48 #[v] w (Ret w (.tuple #[.int .i64 (dsum l), .bool true])) :=
  (Drawn_any l v w hs).mono fun e w' h' => by simpa [RetD, drawnR, h] using h'
theorem Drawn_no (l : List Dr) (h : draws l = false) (v : Value) (w : World) (hs : Sl w 2 v (l.map Dr.row)) : Calls Tryz.prog 48 #[v] w (Ret w (.tuple #[.int .i64 0, .bool false])) :=
  (Drawn_any l v w hs).mono fun e w' h' => by simpa [RetD, drawnR, h] using h'

theorem most_range (c : Cr) (h : Bnd c) : 1 ≤ c.most ∧ c.most ≤ 2199023255552 := by
  obtain ⟨h1, h2, h3, h4, h5, h6, h7, h8⟩ := h
  obtain ⟨m1, m2, m3, m4⟩ := most_bd c.sum c.above h1 h2 h3 h4
  simp only [Cr.most]
  omega
theorem draws_range (l : List Dr) (h : draws l = true) : 0 ≤ dsum l ∧ dsum l ≤ 4503599627370496 := by
  simp only [draws, Bool.and_eq_true, decide_eq_true_eq] at h
  have := drawsFrom_bd l 0 h.2
  omega

set_option maxHeartbeats 1000000 in
theorem Left_any (c : Cr) (l : List Dr) (v : Value) (w : World) (hsl : Sl w 2 v (l.map Dr.row)) : Calls Tryz.prog 12 #[.agg c.cells, v] w (RetLeft w c l) := by
  have h0 := heap_alloc_new w (.cells c.cells 30)
  cases hd : draws l
  · have HL := Lib.hid (show leftOk c l = false by simp [leftOk, hd])
    have HD := Lib.hid (fun (w' : World) (hb : Below w.heap.size w w') => Drawn_no l hd v w' (hsl.below hb (Nat.le_refl _)))
    clear hd hsl
    go_enter Tryz.func12, Tryz.ntmps12
    go_wp2_with fail
    refine (HD.out _ (one_below _ _)).mono ?_
    rintro e w1 ⟨rfl, hb⟩
    go_wp2_with fail
    go_ret2
    exact retLeft_no HL.out (below_new hb)
  · have HD := Lib.hid (fun (w' : World) (hb : Below w.heap.size w w') => Drawn_yes l hd v w' (hsl.below hb (Nat.le_refl _)))
    obtain ⟨r1, r2⟩ := draws_range l hd
    cases hc : c.bnd
    · have HL := Lib.hid (show leftOk c l = false by simp [leftOk, hd, hc])
      have HB := Lib.hid (fun w => bounded_no c hc w)
      clear hd hsl hc
      go_enter Tryz.func12, Tryz.ntmps12
      go_wp2_with fail
      refine (HD.out _ (one_below _ _)).mono ?_
      rintro e w1 ⟨rfl, hb⟩
      have h1 := blk hb (by simp) h0
      have hb1 := below_new hb
      clear hb h0
      go_wp2_with (first | (refine load_cr (.tmp 2) w.heap.size c _ rfl rfl h1 ?_) | fail)
      refine (HB.out _).mono ?_
      rintro e w2 ⟨rfl, hb2⟩
      go_wp2_with fail
      go_ret2
      exact retLeft_no HL.out (below_then hb1 hb2)
    · have HL := Lib.hid (show leftOk c l = true by simp [leftOk, hd, hc])
      have HB := Lib.hid (fun w => bounded_yes c hc w)
      have hbd := (bnd_iff c).1 hc
      obtain ⟨m1, m2⟩ := most_range c hbd
      have HM := Lib.hid (fun w => most_any c w hbd)
      clear hd hsl hc hbd
      go_enter Tryz.func12, Tryz.ntmps12
      go_wp2_with fail
      refine (HD.out _ (one_below _ _)).mono ?_
      rintro e w1 ⟨rfl, hb⟩
      have h1 := blk hb (by simp) h0
      have hz := size_new hb
      have hb1 := below_new hb
      clear hb h0
      go_wp2_with (first | (refine load_cr (.tmp 2) w.heap.size c _ rfl rfl h1 ?_) | fail)
      refine (HB.out _).mono ?_
      rintro e w2 ⟨rfl, hb⟩
      have h1 := blk hb (by omega) h1
      have hb2 := below_then hb1 hb
      clear hb
      go_wp2_with (first | (refine load_cr (.tmp 2) w.heap.size c _ rfl rfl h1 ?_) | fail)
      refine (HM.out _).mono ?_
      rintro e w3 ⟨rfl, hb⟩
      have hb3 := below_then hb2 hb
      clear hb
      go_wp2_with fail
      all_goals
        go_ret2
        exact retLeft_yes HL.out (by first | rfl | (rw [if_pos (by omega)]) | (rw [if_neg (by omega)])) hb3
end Go.Proofs.YtbigoifpfkdkjaaGreatDoor.Sc
namespace Go.Proofs.YtbigoifpfkdkjaaGreatDoor.Sc
open Go Go.RowKit Go.ChangeShapes Go.WideShapes Go.ChangeAt


theorem tol_def (n : Int) : tol n = (decide (0 ≤ n) && decide (n ≤ 1000)) := rfl
end Go.Proofs.YtbigoifpfkdkjaaGreatDoor.Sc
