/- Goods: the plain law; May of both, Find. -/
import Derived.Test.YtbigoifpfkdkjaaGreatDoorMarkN
import Derived.Test.YtbigoifpfkdkjaaGreatDoorKeep
namespace Go.Proofs.YtbigoifpfkdkjaaGreatDoor.Sc
open Go Go.RowKit Go.ChangeShapes Go.WideShapes Go.ChangeAt
set_option maxRecDepth 100000

structure Gd where
  code : ByteArray
  cls : Int
  wt : Int
  vol : Int
def Gd.row (g : Gd) : List Value := [.string g.code, .int .i64 g.cls, .int .i64 g.wt, .int .i64 g.vol]
def Gd.val (g : Gd) : Value := .agg #[.string g.code, .int .i64 g.cls, .int .i64 g.wt, .int .i64 g.vol]
structure Gd.fit (g : Gd) : Prop where
  code : g.code.size ≤ maxLen
def cntOk (n : Int) : Bool := decide (1 ≤ n) && decide (n ≤ 1048576)
def gdOk (g : Gd) : Bool := nameOk g.code && (decide (0 ≤ g.cls) && (decide (g.cls < 10) && (cntOk g.wt && cntOk g.vol)))
theorem cnt_any (n : Int) (w : World) : Calls Tryz.prog 140 #[.int .i64 n] w (RetB w (cntOk n)) := by
  go_enter Tryz.func140, Tryz.ntmps140
  go_wp2
  all_goals
    go_ret
    exact retB (by rw [Bool.eq_iff_iff]; simp only [cntOk, Bool.and_eq_true, decide_eq_true_eq, Bool.false_eq_true, false_iff]; omega) (Below.refl _ _)
theorem gd_cells {w : World} {b : Nat} {x0 x1 x2 x3 : Value} {T : TypeId} (h : w.heap[b]? = some (.cells #[x0, x1, x2, x3] T (0, 0))) :
    w.cell? ⟨b, 0, none⟩ = some x0 ∧ w.cell? ⟨b, 1, none⟩ = some x1 ∧ w.cell? ⟨b, 2, none⟩ = some x2 ∧ w.cell? ⟨b, 3, none⟩ = some x3 := ⟨cell_blk h 0, cell_blk h 1, cell_blk h 2, cell_blk h 3⟩
set_option maxHeartbeats 4000000 in
theorem mayG_any (g : Gd) (w : World) (hf : g.fit) : Calls Tryz.prog 80 #[g.val] w (RetB w (gdOk g)) := by
  obtain ⟨n, c, wt, vo⟩ := g
  have HN := fun W => markName_any n W
  have HC1 := fun W => cnt_any wt W
  have HC2 := fun W => cnt_any vo W
  have HX0 := Lib.hid (heap_alloc_new w (.cells #[.string n, .int .i64 c, .int .i64 wt, .int .i64 vo] 84))
  obtain ⟨R, hR⟩ : ∃ R, R = gdOk ⟨n, c, wt, vo⟩ := ⟨_, rfl⟩
  rw [← hR]
  simp only [gdOk] at hR
  simp only [Gd.val]
  obtain ⟨b0, t0⟩ : ∃ b, nameOk n = b := ⟨_, rfl⟩
  rw [t0] at hR HN
  clear t0
  obtain ⟨b1, t1⟩ : ∃ b, decide (0 ≤ c) = b := ⟨_, rfl⟩
  rw [t1] at hR
  obtain ⟨b2, t2⟩ : ∃ b, decide (c < 10) = b := ⟨_, rfl⟩
  rw [t2] at hR
  obtain ⟨b3, t3⟩ : ∃ b, cntOk wt = b := ⟨_, rfl⟩
  rw [t3] at hR HC1
  clear t3
  obtain ⟨b4, t4⟩ : ∃ b, cntOk vo = b := ⟨_, rfl⟩
  rw [t4] at hR HC2
  clear t4
  have HR := Lib.hid hR
  clear hf hR
  cases b0
  · skip
    go_enter Tryz.func80, Tryz.ntmps80
    go_wp2_with (first
      | ((with_reducible refine (HN _).mono ?_); rintro e w1 ⟨rfl, hb1⟩; have HB := Lib.hid (below_then (one_below _ _) hb1); have HX := Lib.hid (blk hb1 (lt_blk HX0.out) HX0.out); obtain ⟨x0, x1, x2, x3⟩ := gd_cells HX.out; clear hb1)
      | ((with_reducible refine (HC1 _).mono ?_); rintro e w2 ⟨rfl, hb2⟩; have HX := Lib.hid (blk hb2 (lt_blk HX.out) HX.out); have HB := Lib.hid (HB.out.trans (hb2.mono HB.out.size)); obtain ⟨x0, x1, x2, x3⟩ := gd_cells HX.out; clear hb2)
      | ((with_reducible refine (HC2 _).mono ?_); rintro e w3 ⟨rfl, hb3⟩; have HX := Lib.hid (blk hb3 (lt_blk HX.out) HX.out); have HB := Lib.hid (HB.out.trans (hb3.mono HB.out.size)); obtain ⟨x0, x1, x2, x3⟩ := gd_cells HX.out; clear hb3)
      | fail)
    go_ret
    exact retB (by rw [HR.out]; rfl) HB.out
  · skip
    cases b1
    · skip
      go_enter Tryz.func80, Tryz.ntmps80
      go_wp2_with (first
        | ((with_reducible refine (HN _).mono ?_); rintro e w1 ⟨rfl, hb1⟩; have HB := Lib.hid (below_then (one_below _ _) hb1); have HX := Lib.hid (blk hb1 (lt_blk HX0.out) HX0.out); obtain ⟨x0, x1, x2, x3⟩ := gd_cells HX.out; clear hb1)
        | ((with_reducible refine (HC1 _).mono ?_); rintro e w2 ⟨rfl, hb2⟩; have HX := Lib.hid (blk hb2 (lt_blk HX.out) HX.out); have HB := Lib.hid (HB.out.trans (hb2.mono HB.out.size)); obtain ⟨x0, x1, x2, x3⟩ := gd_cells HX.out; clear hb2)
        | ((with_reducible refine (HC2 _).mono ?_); rintro e w3 ⟨rfl, hb3⟩; have HX := Lib.hid (blk hb3 (lt_blk HX.out) HX.out); have HB := Lib.hid (HB.out.trans (hb3.mono HB.out.size)); obtain ⟨x0, x1, x2, x3⟩ := gd_cells HX.out; clear hb3)
        | fail)
      go_ret
      exact retB (by rw [HR.out]; rfl) HB.out
    · skip
      cases b2
      · skip
        go_enter Tryz.func80, Tryz.ntmps80
        go_wp2_with (first
          | ((with_reducible refine (HN _).mono ?_); rintro e w1 ⟨rfl, hb1⟩; have HB := Lib.hid (below_then (one_below _ _) hb1); have HX := Lib.hid (blk hb1 (lt_blk HX0.out) HX0.out); obtain ⟨x0, x1, x2, x3⟩ := gd_cells HX.out; clear hb1)
          | ((with_reducible refine (HC1 _).mono ?_); rintro e w2 ⟨rfl, hb2⟩; have HX := Lib.hid (blk hb2 (lt_blk HX.out) HX.out); have HB := Lib.hid (HB.out.trans (hb2.mono HB.out.size)); obtain ⟨x0, x1, x2, x3⟩ := gd_cells HX.out; clear hb2)
          | ((with_reducible refine (HC2 _).mono ?_); rintro e w3 ⟨rfl, hb3⟩; have HX := Lib.hid (blk hb3 (lt_blk HX.out) HX.out); have HB := Lib.hid (HB.out.trans (hb3.mono HB.out.size)); obtain ⟨x0, x1, x2, x3⟩ := gd_cells HX.out; clear hb3)
          | fail)
        go_ret
        exact retB (by rw [HR.out]; rfl) HB.out
      · skip
        cases b3
        · skip
          go_enter Tryz.func80, Tryz.ntmps80
          go_wp2_with (first
            | ((with_reducible refine (HN _).mono ?_); rintro e w1 ⟨rfl, hb1⟩; have HB := Lib.hid (below_then (one_below _ _) hb1); have HX := Lib.hid (blk hb1 (lt_blk HX0.out) HX0.out); obtain ⟨x0, x1, x2, x3⟩ := gd_cells HX.out; clear hb1)
            | ((with_reducible refine (HC1 _).mono ?_); rintro e w2 ⟨rfl, hb2⟩; have HX := Lib.hid (blk hb2 (lt_blk HX.out) HX.out); have HB := Lib.hid (HB.out.trans (hb2.mono HB.out.size)); obtain ⟨x0, x1, x2, x3⟩ := gd_cells HX.out; clear hb2)
            | ((with_reducible refine (HC2 _).mono ?_); rintro e w3 ⟨rfl, hb3⟩; have HX := Lib.hid (blk hb3 (lt_blk HX.out) HX.out); have HB := Lib.hid (HB.out.trans (hb3.mono HB.out.size)); obtain ⟨x0, x1, x2, x3⟩ := gd_cells HX.out; clear hb3)
            | fail)
          go_ret
          exact retB (by rw [HR.out]; rfl) HB.out
        · skip
          cases b4
          · skip
            go_enter Tryz.func80, Tryz.ntmps80
            go_wp2_with (first
              | ((with_reducible refine (HN _).mono ?_); rintro e w1 ⟨rfl, hb1⟩; have HB := Lib.hid (below_then (one_below _ _) hb1); have HX := Lib.hid (blk hb1 (lt_blk HX0.out) HX0.out); obtain ⟨x0, x1, x2, x3⟩ := gd_cells HX.out; clear hb1)
              | ((with_reducible refine (HC1 _).mono ?_); rintro e w2 ⟨rfl, hb2⟩; have HX := Lib.hid (blk hb2 (lt_blk HX.out) HX.out); have HB := Lib.hid (HB.out.trans (hb2.mono HB.out.size)); obtain ⟨x0, x1, x2, x3⟩ := gd_cells HX.out; clear hb2)
              | ((with_reducible refine (HC2 _).mono ?_); rintro e w3 ⟨rfl, hb3⟩; have HX := Lib.hid (blk hb3 (lt_blk HX.out) HX.out); have HB := Lib.hid (HB.out.trans (hb3.mono HB.out.size)); obtain ⟨x0, x1, x2, x3⟩ := gd_cells HX.out; clear hb3)
              | fail)
            go_ret
            exact retB (by rw [HR.out]; rfl) HB.out
          · skip
            go_enter Tryz.func80, Tryz.ntmps80
            go_wp2_with (first
              | ((with_reducible refine (HN _).mono ?_); rintro e w1 ⟨rfl, hb1⟩; have HB := Lib.hid (below_then (one_below _ _) hb1); have HX := Lib.hid (blk hb1 (lt_blk HX0.out) HX0.out); obtain ⟨x0, x1, x2, x3⟩ := gd_cells HX.out; clear hb1)
              | ((with_reducible refine (HC1 _).mono ?_); rintro e w2 ⟨rfl, hb2⟩; have HX := Lib.hid (blk hb2 (lt_blk HX.out) HX.out); have HB := Lib.hid (HB.out.trans (hb2.mono HB.out.size)); obtain ⟨x0, x1, x2, x3⟩ := gd_cells HX.out; clear hb2)
              | ((with_reducible refine (HC2 _).mono ?_); rintro e w3 ⟨rfl, hb3⟩; have HX := Lib.hid (blk hb3 (lt_blk HX.out) HX.out); have HB := Lib.hid (HB.out.trans (hb3.mono HB.out.size)); obtain ⟨x0, x1, x2, x3⟩ := gd_cells HX.out; clear hb3)
              | fail)
            go_ret
            exact retB (by rw [HR.out]; rfl) HB.out
/-- Where a good stands; -1: nowhere. -/
def gFind (n : ByteArray) : Nat → List Gd → Int
  | _, [] => -1
  | k, g :: l => if g.code = n then k else gFind n (k + 1) l
def gOf (l : List Gd) (n : ByteArray) : Option Gd := l.find? fun g => decide (g.code = n)
theorem gFind_of (n : ByteArray) : ∀ (l : List Gd) (k : Nat), (gFind n k l = -1 ∧ gOf l n = none) ∨ ∃ j, ∃ h : j < l.length, gFind n k l = ((k + j : Nat) : Int) ∧ gOf l n = some l[j]
  | [], k => .inl ⟨rfl, rfl⟩
  | g :: l, k => by
    by_cases h : g.code = n
    · exact .inr ⟨0, by simp, by simp [gFind, h], by rw [gOf, List.find?_cons_of_pos (by simpa using h)]; rfl⟩
    · rw [gFind, if_neg h, gOf, List.find?_cons_of_neg (by simpa using h)]
      rcases gFind_of n l (k + 1) with h1 | ⟨j, hj, h1, h2⟩
      · exact .inl h1
      · exact .inr ⟨j + 1, by simp; omega, by rw [h1]; congr 1; omega, by rw [← gOf, h2]; rfl⟩
end Go.Proofs.YtbigoifpfkdkjaaGreatDoor.Sc
