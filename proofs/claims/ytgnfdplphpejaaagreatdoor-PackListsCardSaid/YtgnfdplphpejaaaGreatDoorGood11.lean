/- Goods: the plain law; May of both, Find. -/
import Derived.Test.YtgnfdplphpejaaaGreatDoorMarkN
import Derived.Test.YtgnfdplphpejaaaGreatDoorKeep
namespace Go.Proofs.YtgnfdplphpejaaaGreatDoor.Sc
open Go Go.RowKit Go.ChangeShapes Go.WideShapes Go.ChangeAt
set_option maxRecDepth 100000

structure Gd where
  code : ByteArray
  cls : Int
  wt : Int
  vol : Int
def Gd.row (g : Gd) : List Value := [.string g.code, .int .i64 g.cls, .int .i64 g.wt, .int .i64 g.vol]
def Gd.val (g : Gd) : Value := .agg #[.string g.code, .int .i64 g.cls, .int .i64 g.wt, .int .i64 g.vol]
structure Gd.fit (g : Gd) : Prop where
  code : g.code.size ≤ maxLen
def cntOk (n : Int) : Bool := decide (1 ≤ n) && decide (n ≤ 1048576)
def gdOk (g : Gd) : Bool := nameOk g.code && (decide (0 ≤ g.cls) && (decide (g.cls < 10) && (cntOk g.wt && cntOk g.vol)))
theorem cnt_any (n : Int) (w : World) : Calls Tryz.prog 82 #[.int .i64 n] w (RetB w (cntOk n)) := by
  go_enter Tryz.func82, Tryz.ntmps82
  go_wp2
  all_goals
    go_ret
    exact retB (by rw [Bool.eq_iff_iff]; simp only [cntOk, Bool.and_eq_true, decide_eq_true_eq, Bool.false_eq_true, false_iff]; omega) (Below.refl _ _)
theorem letter3_any (c : Int) (w : World) : Calls Tryz.prog 83 #[.int .u8 c] w (RetB w (letter c)) := by
  go_enter Tryz.func83, Tryz.ntmps83
  go_wp2
  all_goals
    go_ret
    exact retB (by rw [Bool.eq_iff_iff]; simp only [letter, Bool.and_eq_true, decide_eq_true_eq, Bool.false_eq_true, false_iff]; omega) (Below.refl _ _)
theorem digit3_any (c : Int) (w : World) : Calls Tryz.prog 73 #[.int .u8 c] w (RetB w (digit c)) := by
  go_enter Tryz.func73, Tryz.ntmps73
  go_wp2
  all_goals
    go_ret
    exact retB (by rw [Bool.eq_iff_iff]; simp only [digit, Bool.and_eq_true, decide_eq_true_eq, Bool.false_eq_true, false_iff]; omega) (Below.refl _ _)
set_option maxHeartbeats 4000000 in
theorem refName3_any (s : ByteArray) (w : World) (hm : s.size ≤ 9223372036854775807) : Calls Tryz.prog 52 #[.string s] w (RetB w (nameOk s)) := by
  go_enter Tryz.func52, Tryz.ntmps52
  go_wp2
  go_loopw [3] (fun i wr => ∃ k : Nat, k ≤ s.size ∧ i = .int .i64 k ∧ charsOk s.data.toList = charsOk (s.data.toList.drop k) ∧ Below w.heap.size w wr) (fun i _ => s.size - (intOf i).toNat)
  case atStart => exact ⟨0, Nat.zero_le _, rfl, rfl, Below.refl _ _⟩
  case round =>
    obtain ⟨k, hk, rfl, hrel, hbel⟩ := hrel
    by_cases hlt : k < s.size
    · rw [chars_step s k hlt, chI_eq] at hrel
      have HR := Lib.hid hrel
      have HBEL := Lib.hid hbel
      clear hrel hbel
      have HL := letter3_any ((s[k]'hlt).toNat : Int)
      have HD := digit3_any ((s[k]'hlt).toNat : Int)
      generalize hlv : letter ((s[k]'hlt).toNat : Int) = bl at HL HR
      generalize hdv : digit ((s[k]'hlt).toNat : Int) = bd at HD HR
      clear hlv hdv
      cases bl <;> cases bd
      all_goals
        go_wp2_with (first
          | ((with_reducible refine (HL _).mono ?_); rintro e w2 ⟨rfl, hb2⟩; have HB2 := Lib.hid (HBEL.out.trans (hb2.mono HBEL.out.size)); clear hb2)
          | ((with_reducible refine (HD _).mono ?_); rintro e w3 ⟨rfl, hb3⟩; have HB3 := Lib.hid (HB2.out.trans (hb3.mono HB2.out.size)); clear hb3)
          | fail)
      all_goals first
        | (go_roundw
           case rel => exact ⟨k + 1, by omega, by go_num, by
              have hr := HR.out
              first
                | simpa using hr
                | (generalize ((s[k]'hlt).toNat : Int) = c at *
                   simp at *
                   simp [*]), by first | exact HB3.out | exact HB2.out⟩
           case measure => simp [intOf]; omega)
        | (go_ret
           exact retB (by
              have hr := HR.out
              generalize ((s[k]'hlt).toNat : Int) = c at *
              simp at *
              simp [nameOk, *]) (by first | exact HB3.out | exact HB2.out))
    · have HR := Lib.hid hrel
      clear hrel
      go_wp2
      all_goals
        go_ret
        exact retB (by rw [nameOk, HR.out, chars_end s k (by omega), Bool.and_true, Bool.eq_iff_iff]; simp only [Bool.and_eq_true, decide_eq_true_eq, Bool.false_eq_true, false_iff]; omega) hbel
theorem gd_cells {w : World} {b : Nat} {x0 x1 x2 x3 : Value} {T : TypeId} (h : w.heap[b]? = some (.cells #[x0, x1, x2, x3] T (0, 0))) :
    w.cell? ⟨b, 0, none⟩ = some x0 ∧ w.cell? ⟨b, 1, none⟩ = some x1 ∧ w.cell? ⟨b, 2, none⟩ = some x2 ∧ w.cell? ⟨b, 3, none⟩ = some x3 := ⟨cell_blk h 0, cell_blk h 1, cell_blk h 2, cell_blk h 3⟩
set_option maxHeartbeats 4000000 in
theorem mayG_any (g : Gd) (w : World) (hf : g.fit) : Calls Tryz.prog 51 #[g.val] w (RetB w (gdOk g)) := by
  obtain ⟨n, c, wt, vo⟩ := g
  have HN := fun W => markName_any n W
  have HC1 := fun W => cnt_any wt W
  have HC2 := fun W => cnt_any vo W
  have HX0 := Lib.hid (heap_alloc_new w (.cells #[.string n, .int .i64 c, .int .i64 wt, .int .i64 vo] 51))
  obtain ⟨R, hR⟩ : ∃ R, R = gdOk ⟨n, c, wt, vo⟩ := ⟨_, rfl⟩
  rw [← hR]
  simp only [gdOk] at hR
  simp only [Gd.val]
  obtain ⟨b0, t0⟩ : ∃ b, nameOk n = b := ⟨_, rfl⟩
  rw [t0] at hR HN
  clear t0
  obtain ⟨b1, t1⟩ : ∃ b, decide (0 ≤ c) = b := ⟨_, rfl⟩
  rw [t1] at hR
  obtain ⟨b2, t2⟩ : ∃ b, decide (c < 10) = b := ⟨_, rfl⟩
  rw [t2] at hR
  obtain ⟨b3, t3⟩ : ∃ b, cntOk wt = b := ⟨_, rfl⟩
  rw [t3] at hR HC1
  clear t3
  obtain ⟨b4, t4⟩ : ∃ b, cntOk vo = b := ⟨_, rfl⟩
  rw [t4] at hR HC2
  clear t4
  have HR := Lib.hid hR
  clear hf hR
  cases b0
  · skip
    go_enter Tryz.func51, Tryz.ntmps51
    go_wp2_with (first
      | ((with_reducible refine (HN _).mono ?_); rintro e w1 ⟨rfl, hb1⟩; have HB := Lib.hid (below_then (one_below _ _) hb1); have HX := Lib.hid (blk hb1 (lt_blk HX0.out) HX0.out); obtain ⟨x0, x1, x2, x3⟩ := gd_cells HX.out; clear hb1)
      | ((with_reducible refine (HC1 _).mono ?_); rintro e w2 ⟨rfl, hb2⟩; have HX := Lib.hid (blk hb2 (lt_blk HX.out) HX.out); have HB := Lib.hid (HB.out.trans (hb2.mono HB.out.size)); obtain ⟨x0, x1, x2, x3⟩ := gd_cells HX.out; clear hb2)
      | ((with_reducible refine (HC2 _).mono ?_); rintro e w3 ⟨rfl, hb3⟩; have HX := Lib.hid (blk hb3 (lt_blk HX.out) HX.out); have HB := Lib.hid (HB.out.trans (hb3.mono HB.out.size)); obtain ⟨x0, x1, x2, x3⟩ := gd_cells HX.out; clear hb3)
      | fail)
    go_ret
    exact retB (by rw [HR.out]; rfl) HB.out
  · skip
    cases b1
    · skip
      go_enter Tryz.func51, Tryz.ntmps51
      go_wp2_with (first
        | ((with_reducible refine (HN _).mono ?_); rintro e w1 ⟨rfl, hb1⟩; have HB := Lib.hid (below_then (one_below _ _) hb1); have HX := Lib.hid (blk hb1 (lt_blk HX0.out) HX0.out); obtain ⟨x0, x1, x2, x3⟩ := gd_cells HX.out; clear hb1)
        | ((with_reducible refine (HC1 _).mono ?_); rintro e w2 ⟨rfl, hb2⟩; have HX := Lib.hid (blk hb2 (lt_blk HX.out) HX.out); have HB := Lib.hid (HB.out.trans (hb2.mono HB.out.size)); obtain ⟨x0, x1, x2, x3⟩ := gd_cells HX.out; clear hb2)
        | ((with_reducible refine (HC2 _).mono ?_); rintro e w3 ⟨rfl, hb3⟩; have HX := Lib.hid (blk hb3 (lt_blk HX.out) HX.out); have HB := Lib.hid (HB.out.trans (hb3.mono HB.out.size)); obtain ⟨x0, x1, x2, x3⟩ := gd_cells HX.out; clear hb3)
        | fail)
      go_ret
      exact retB (by rw [HR.out]; rfl) HB.out
    · skip
      cases b2
      · skip
        go_enter Tryz.func51, Tryz.ntmps51
        go_wp2_with (first
          | ((with_reducible refine (HN _).mono ?_); rintro e w1 ⟨rfl, hb1⟩; have HB := Lib.hid (below_then (one_below _ _) hb1); have HX := Lib.hid (blk hb1 (lt_blk HX0.out) HX0.out); obtain ⟨x0, x1, x2, x3⟩ := gd_cells HX.out; clear hb1)
          | ((with_reducible refine (HC1 _).mono ?_); rintro e w2 ⟨rfl, hb2⟩; have HX := Lib.hid (blk hb2 (lt_blk HX.out) HX.out); have HB := Lib.hid (HB.out.trans (hb2.mono HB.out.size)); obtain ⟨x0, x1, x2, x3⟩ := gd_cells HX.out; clear hb2)
          | ((with_reducible refine (HC2 _).mono ?_); rintro e w3 ⟨rfl, hb3⟩; have HX := Lib.hid (blk hb3 (lt_blk HX.out) HX.out); have HB := Lib.hid (HB.out.trans (hb3.mono HB.out.size)); obtain ⟨x0, x1, x2, x3⟩ := gd_cells HX.out; clear hb3)
          | fail)
        go_ret
        exact retB (by rw [HR.out]; rfl) HB.out
      · skip
        cases b3
        · skip
          go_enter Tryz.func51, Tryz.ntmps51
          go_wp2_with (first
            | ((with_reducible refine (HN _).mono ?_); rintro e w1 ⟨rfl, hb1⟩; have HB := Lib.hid (below_then (one_below _ _) hb1); have HX := Lib.hid (blk hb1 (lt_blk HX0.out) HX0.out); obtain ⟨x0, x1, x2, x3⟩ := gd_cells HX.out; clear hb1)
            | ((with_reducible refine (HC1 _).mono ?_); rintro e w2 ⟨rfl, hb2⟩; have HX := Lib.hid (blk hb2 (lt_blk HX.out) HX.out); have HB := Lib.hid (HB.out.trans (hb2.mono HB.out.size)); obtain ⟨x0, x1, x2, x3⟩ := gd_cells HX.out; clear hb2)
            | ((with_reducible refine (HC2 _).mono ?_); rintro e w3 ⟨rfl, hb3⟩; have HX := Lib.hid (blk hb3 (lt_blk HX.out) HX.out); have HB := Lib.hid (HB.out.trans (hb3.mono HB.out.size)); obtain ⟨x0, x1, x2, x3⟩ := gd_cells HX.out; clear hb3)
            | fail)
          go_ret
          exact retB (by rw [HR.out]; rfl) HB.out
        · skip
          cases b4
          · skip
            go_enter Tryz.func51, Tryz.ntmps51
            go_wp2_with (first
              | ((with_reducible refine (HN _).mono ?_); rintro e w1 ⟨rfl, hb1⟩; have HB := Lib.hid (below_then (one_below _ _) hb1); have HX := Lib.hid (blk hb1 (lt_blk HX0.out) HX0.out); obtain ⟨x0, x1, x2, x3⟩ := gd_cells HX.out; clear hb1)
              | ((with_reducible refine (HC1 _).mono ?_); rintro e w2 ⟨rfl, hb2⟩; have HX := Lib.hid (blk hb2 (lt_blk HX.out) HX.out); have HB := Lib.hid (HB.out.trans (hb2.mono HB.out.size)); obtain ⟨x0, x1, x2, x3⟩ := gd_cells HX.out; clear hb2)
              | ((with_reducible refine (HC2 _).mono ?_); rintro e w3 ⟨rfl, hb3⟩; have HX := Lib.hid (blk hb3 (lt_blk HX.out) HX.out); have HB := Lib.hid (HB.out.trans (hb3.mono HB.out.size)); obtain ⟨x0, x1, x2, x3⟩ := gd_cells HX.out; clear hb3)
              | fail)
            go_ret
            exact retB (by rw [HR.out]; rfl) HB.out
          · skip
            go_enter Tryz.func51, Tryz.ntmps51
            go_wp2_with (first
              | ((with_reducible refine (HN _).mono ?_); rintro e w1 ⟨rfl, hb1⟩; have HB := Lib.hid (below_then (one_below _ _) hb1); have HX := Lib.hid (blk hb1 (lt_blk HX0.out) HX0.out); obtain ⟨x0, x1, x2, x3⟩ := gd_cells HX.out; clear hb1)
              | ((with_reducible refine (HC1 _).mono ?_); rintro e w2 ⟨rfl, hb2⟩; have HX := Lib.hid (blk hb2 (lt_blk HX.out) HX.out); have HB := Lib.hid (HB.out.trans (hb2.mono HB.out.size)); obtain ⟨x0, x1, x2, x3⟩ := gd_cells HX.out; clear hb2)
              | ((with_reducible refine (HC2 _).mono ?_); rintro e w3 ⟨rfl, hb3⟩; have HX := Lib.hid (blk hb3 (lt_blk HX.out) HX.out); have HB := Lib.hid (HB.out.trans (hb3.mono HB.out.size)); obtain ⟨x0, x1, x2, x3⟩ := gd_cells HX.out; clear hb3)
              | fail)
            go_ret
            exact retB (by rw [HR.out]; rfl) HB.out
set_option maxHeartbeats 4000000 in
theorem refMayG_any (g : Gd) (w : World) (hf : g.fit) : Calls Tryz.prog 26 #[g.val] w (RetB w (gdOk g)) := by
  obtain ⟨n, c, wt, vo⟩ := g
  have HN := fun W => refName3_any n W hf.code
  have HX0 := Lib.hid (heap_alloc_new w (.cells #[.string n, .int .i64 c, .int .i64 wt, .int .i64 vo] 51))
  obtain ⟨R, hR⟩ : ∃ R, R = gdOk ⟨n, c, wt, vo⟩ := ⟨_, rfl⟩
  rw [← hR]
  simp only [gdOk] at hR
  rw [show decide (c < 10) = decide (c ≤ 9) from by rw [Bool.eq_iff_iff]; simp only [decide_eq_true_eq]; omega] at hR
  simp only [cntOk, Bool.and_assoc] at hR
  simp only [Gd.val]
  obtain ⟨b0, t0⟩ : ∃ b, nameOk n = b := ⟨_, rfl⟩
  rw [t0] at hR HN
  clear t0
  obtain ⟨b1, t1⟩ : ∃ b, decide (0 ≤ c) = b := ⟨_, rfl⟩
  rw [t1] at hR
  obtain ⟨b2, t2⟩ : ∃ b, decide (c ≤ 9) = b := ⟨_, rfl⟩
  rw [t2] at hR
  obtain ⟨b3, t3⟩ : ∃ b, decide (1 ≤ wt) = b := ⟨_, rfl⟩
  rw [t3] at hR
  obtain ⟨b4, t4⟩ : ∃ b, decide (wt ≤ 1048576) = b := ⟨_, rfl⟩
  rw [t4] at hR
  obtain ⟨b5, t5⟩ : ∃ b, decide (1 ≤ vo) = b := ⟨_, rfl⟩
  rw [t5] at hR
  obtain ⟨b6, t6⟩ : ∃ b, decide (vo ≤ 1048576) = b := ⟨_, rfl⟩
  rw [t6] at hR
  have HR := Lib.hid hR
  clear hf hR
  cases b0
  · skip
    go_enter Tryz.func26, Tryz.ntmps26
    go_wp2_with (first
      | ((with_reducible refine (HN _).mono ?_); rintro e w1 ⟨rfl, hb1⟩; have HB := Lib.hid (below_then (one_below _ _) hb1); have HX := Lib.hid (blk hb1 (lt_blk HX0.out) HX0.out); obtain ⟨x0, x1, x2, x3⟩ := gd_cells HX.out; clear hb1)
      | fail)
    go_ret
    exact retB (by rw [HR.out]; rfl) HB.out
  · skip
    cases b1
    · skip
      go_enter Tryz.func26, Tryz.ntmps26
      go_wp2_with (first
        | ((with_reducible refine (HN _).mono ?_); rintro e w1 ⟨rfl, hb1⟩; have HB := Lib.hid (below_then (one_below _ _) hb1); have HX := Lib.hid (blk hb1 (lt_blk HX0.out) HX0.out); obtain ⟨x0, x1, x2, x3⟩ := gd_cells HX.out; clear hb1)
        | fail)
      go_ret
      exact retB (by rw [HR.out]; rfl) HB.out
    · skip
      cases b2
      · skip
        go_enter Tryz.func26, Tryz.ntmps26
        go_wp2_with (first
          | ((with_reducible refine (HN _).mono ?_); rintro e w1 ⟨rfl, hb1⟩; have HB := Lib.hid (below_then (one_below _ _) hb1); have HX := Lib.hid (blk hb1 (lt_blk HX0.out) HX0.out); obtain ⟨x0, x1, x2, x3⟩ := gd_cells HX.out; clear hb1)
          | fail)
        go_ret
        exact retB (by rw [HR.out]; rfl) HB.out
      · skip
        cases b3
        · skip
          go_enter Tryz.func26, Tryz.ntmps26
          go_wp2_with (first
            | ((with_reducible refine (HN _).mono ?_); rintro e w1 ⟨rfl, hb1⟩; have HB := Lib.hid (below_then (one_below _ _) hb1); have HX := Lib.hid (blk hb1 (lt_blk HX0.out) HX0.out); obtain ⟨x0, x1, x2, x3⟩ := gd_cells HX.out; clear hb1)
            | fail)
          go_ret
          exact retB (by rw [HR.out]; rfl) HB.out
        · skip
          cases b4
          · skip
            go_enter Tryz.func26, Tryz.ntmps26
            go_wp2_with (first
              | ((with_reducible refine (HN _).mono ?_); rintro e w1 ⟨rfl, hb1⟩; have HB := Lib.hid (below_then (one_below _ _) hb1); have HX := Lib.hid (blk hb1 (lt_blk HX0.out) HX0.out); obtain ⟨x0, x1, x2, x3⟩ := gd_cells HX.out; clear hb1)
              | fail)
            go_ret
            exact retB (by rw [HR.out]; rfl) HB.out
          · skip
            cases b5
            · skip
              go_enter Tryz.func26, Tryz.ntmps26
              go_wp2_with (first
                | ((with_reducible refine (HN _).mono ?_); rintro e w1 ⟨rfl, hb1⟩; have HB := Lib.hid (below_then (one_below _ _) hb1); have HX := Lib.hid (blk hb1 (lt_blk HX0.out) HX0.out); obtain ⟨x0, x1, x2, x3⟩ := gd_cells HX.out; clear hb1)
                | fail)
              go_ret
              exact retB (by rw [HR.out]; rfl) HB.out
            · skip
              cases b6
              · skip
                go_enter Tryz.func26, Tryz.ntmps26
                go_wp2_with (first
                  | ((with_reducible refine (HN _).mono ?_); rintro e w1 ⟨rfl, hb1⟩; have HB := Lib.hid (below_then (one_below _ _) hb1); have HX := Lib.hid (blk hb1 (lt_blk HX0.out) HX0.out); obtain ⟨x0, x1, x2, x3⟩ := gd_cells HX.out; clear hb1)
                  | fail)
                go_ret
                exact retB (by rw [HR.out]; rfl) HB.out
              · skip
                go_enter Tryz.func26, Tryz.ntmps26
                go_wp2_with (first
                  | ((with_reducible refine (HN _).mono ?_); rintro e w1 ⟨rfl, hb1⟩; have HB := Lib.hid (below_then (one_below _ _) hb1); have HX := Lib.hid (blk hb1 (lt_blk HX0.out) HX0.out); obtain ⟨x0, x1, x2, x3⟩ := gd_cells HX.out; clear hb1)
                  | fail)
                go_ret
                exact retB (by rw [HR.out]; rfl) HB.out

/-- Where a good stands; -1: nowhere. -/
def gFind (n : ByteArray) : Nat → List Gd → Int
  | _, [] => -1
  | k, g :: l => if g.code = n then k else gFind n (k + 1) l
def gOf (l : List Gd) (n : ByteArray) : Option Gd := l.find? fun g => decide (g.code = n)
theorem gFind_of (n : ByteArray) : ∀ (l : List Gd) (k : Nat), (gFind n k l = -1 ∧ gOf l n = none) ∨ ∃ j, ∃ h : j < l.length, gFind n k l = ((k + j : Nat) : Int) ∧ gOf l n = some l[j]
  | [], k => .inl ⟨rfl, rfl⟩
  | g :: l, k => by
    by_cases h : g.code = n
    · exact .inr ⟨0, by simp, by simp [gFind, h], by rw [gOf, List.find?_cons_of_pos (by simpa using h)]; rfl⟩
    · rw [gFind, if_neg h, gOf, List.find?_cons_of_neg (by simpa using h)]
      rcases gFind_of n l (k + 1) with h1 | ⟨j, hj, h1, h2⟩
      · exact .inl h1
      · exact .inr ⟨j + 1, by simp; omega, by rw [h1]; congr 1; omega, by rw [← gOf, h2]; rfl⟩
set_option maxHeartbeats 4000000 in
theorem gFind_any (l : List Gd) (x : ByteArray) (v : Value) (w : World) (hs : Sl w 4 v (l.map Gd.row)) :
    Calls Tryz.prog 27 #[v, .string x] w (Ret w (.int .i64 (gFind x 0 l))) := by
  have hll : l.length ≤ 9223372036854775807 := by have := hs.len_le; simp only [List.length_map, maxLen] at this; omega
  obtain ⟨a, c, rfl⟩ : ∃ a c, v = .slice a l.length c := by simpa using hs.shape
  have HS := Lib.hid hs
  clear hs
  go_enter Tryz.func27, Tryz.ntmps27
  go_wp2_with fail
  go_loopw [5] (fun i wr => ∃ k : Nat, k ≤ l.length ∧ i = .int .i64 k ∧ gFind x 0 l = gFind x k (l.drop k) ∧ Below w.heap.size w wr) (fun i _ => l.length - (intOf i).toNat)
  case atStart => exact ⟨0, Nat.zero_le _, rfl, rfl, Below.refl _ _⟩
  case round =>
    obtain ⟨k, hk, rfl, hrel, hbel⟩ := hrel
    by_cases hlt : k < l.length
    · obtain ⟨b, off, rfl, -, hb, hc⟩ := HS.out.at (i := k) (by simpa using hlt)
      have d0 := (hbel.cell (p := ⟨b, off + k * 4, none⟩) hb).trans (hc k l[k].row (by simp [hlt]) 0 _ rfl)
      rw [List.drop_eq_getElem_cons hlt, gFind] at hrel
      have HR := Lib.hid hrel
      have HBEL := Lib.hid hbel
      clear hrel hc hbel
      generalize l[k] = y at *
      obtain ⟨xn, xd, xy, xs⟩ := y
      simp only at d0 HR
      by_cases h1 : xn = x
      · have t1 := str_yes h1
        have HQ : Hid (gFind x 0 l = k) := Lib.hid (by rw [HR.out, if_pos h1])
        clear h1
        go_wp2_with fail
        go_ret
        exact ⟨by rw [HQ.out]; rfl, HBEL.out⟩
      · have t1 := str_no h1
        have HQ : Hid (gFind x 0 l = gFind x (k + 1) (l.drop (k + 1))) := Lib.hid (by rw [HR.out, if_neg h1])
        clear h1
        go_wp2_with fail
        go_roundw
        case rel => exact ⟨k + 1, by omega, by go_num, HQ.out, HBEL.out⟩
        case measure => (simp [intOf]) <;> omega
    · have HR : Hid (gFind x 0 l = -1) := Lib.hid (by rw [hrel, List.drop_of_length_le (by omega)]; rfl)
      have HBEL := Lib.hid hbel
      clear hrel hbel
      go_wp2_with fail
      go_ret
      exact ⟨by rw [HR.out]; rfl, HBEL.out⟩
end Go.Proofs.YtgnfdplphpejaaaGreatDoor.Sc
