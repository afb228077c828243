/- May a pledge be: by the program and by the reference; the closures. -/
import Derived.Test.YtnlfhncbnfmccaaMem26
import Derived.Test.YtnlfhncbnfmccaaMark
namespace Go.Proofs.Ytnlfhncbnfmccaa.Sc
open Go Go.RowKit Go.ChangeShapes Go.WideShapes Go.ChangeAt
set_option maxRecDepth 100000

theorem c44_any (x p : Pg) (b3 : Nat) (W : World) (h : W.heap[b3]? = some (.cells p.cells 37 (0, 0))) :
    Calls Try.prog 44 #[.agg x.cells, .pointer (some ⟨b3, 0, none⟩)] W (RetB W (!decide (x.debtor = p.debtor))) := by
  have y := pgBox_of (heap_alloc_new W (.cells x.cells 37))
  have z := pgBox_of (p := p) (blk (one_below W (.cells x.cells 37)) (lt_blk h) h)
  obtain ⟨xt, xd, xc, xy, xa, xh⟩ := x
  obtain ⟨pt, pd, pc, py, pa, ph⟩ := p
  obtain ⟨-, y1, -⟩ := y
  obtain ⟨-, z1, -⟩ := z
  have t1 := str_beq xd pd
  simp only [Pg.cells] at y1 z1 ⊢
  generalize decide (xd = pd) = r at *
  clear h
  go_enter Try.func44, Try.ntmps44
  go_wp2_with fail
  go_ret
  exact ⟨rfl, one_below _ _⟩
theorem c45_any (x p : Pg) (b3 : Nat) (W : World) (h : W.heap[b3]? = some (.cells p.cells 37 (0, 0))) :
    Calls Try.prog 45 #[.agg x.cells, .pointer (some ⟨b3, 0, none⟩)] W (RetB W (decide (x.cred = p.cred))) := by
  have y := pgBox_of (heap_alloc_new W (.cells x.cells 37))
  have z := pgBox_of (p := p) (blk (one_below W (.cells x.cells 37)) (lt_blk h) h)
  obtain ⟨xt, xd, xc, xy, xa, xh⟩ := x
  obtain ⟨pt, pd, pc, py, pa, ph⟩ := p
  obtain ⟨-, -, y1, -⟩ := y
  obtain ⟨-, -, z1, -⟩ := z
  have t1 := str_beq xc pc
  simp only [Pg.cells] at y1 z1 ⊢
  generalize decide (xc = pc) = r at *
  clear h
  go_enter Try.func45, Try.ntmps45
  go_wp2_with fail
  go_ret
  exact ⟨rfl, one_below _ _⟩
theorem c46_any (x : Pg) (W : World) : Calls Try.prog 46 #[.agg x.cells] W (RetB W x.held) := by
  have y := pgBox_of (heap_alloc_new W (.cells x.cells 37))
  obtain ⟨xt, xd, xc, xy, xa, xh⟩ := x
  obtain ⟨-, -, -, -, -, y1⟩ := y
  simp only [Pg.cells] at y1 ⊢
  go_enter Try.func46, Try.ntmps46
  go_wp2_with fail
  go_ret
  exact ⟨rfl, one_below _ _⟩
theorem c29_any (x : Pg) (W : World) : Calls Try.prog 29 #[.agg x.cells] W (RetB W (decide (0 < x.amt))) := by
  have y := pgBox_of (heap_alloc_new W (.cells x.cells 37))
  obtain ⟨xt, xd, xc, xy, xa, xh⟩ := x
  obtain ⟨-, -, -, -, y1, -⟩ := y
  simp only [Pg.cells] at y1 ⊢
  go_enter Try.func29, Try.ntmps29
  go_wp2_with fail
  go_ret
  exact ⟨rfl, one_below _ _⟩
theorem c30_any (x : Pg) (c : ByteArray) (b1 : Nat) (W : World) (h : W.heap[b1]? = some (.cells #[.string c] 9 (0, 0))) :
    Calls Try.prog 30 #[.agg x.cells, .pointer (some ⟨b1, 0, none⟩)] W (RetB W (!decide (x.cred = c))) := by
  have y := pgBox_of (heap_alloc_new W (.cells x.cells 37))
  have z := cell_blk (blk (one_below W (.cells x.cells 37)) (lt_blk h) h) 0
  obtain ⟨xt, xd, xc, xy, xa, xh⟩ := x
  obtain ⟨-, -, y1, -⟩ := y
  have t1 := str_beq xc c
  simp only [Pg.cells] at y1 z ⊢
  generalize decide (xc = c) = r at *
  clear h
  go_enter Try.func30, Try.ntmps30
  go_wp2_with fail
  go_ret
  exact ⟨rfl, one_below _ _⟩
set_option maxHeartbeats 8000000 in
theorem may_any (p : Pg) (w : World) : Calls Try.prog 42 #[.agg p.cells] w (RetB w (mayP p)) := by
  obtain ⟨pt, pd, pc, py, pa, ph⟩ := p
  obtain ⟨R, hR⟩ : ∃ R, R = mayP ⟨pt, pd, pc, py, pa, ph⟩ := ⟨_, rfl⟩
  rw [← hR]
  simp only [mayP] at hR
  have HX := Lib.hid (heap_alloc_new w (.cells (Pg.cells ⟨pt, pd, pc, py, pa, ph⟩) 37))
  have HB := Lib.hid (one_below w (.cells (Pg.cells ⟨pt, pd, pc, py, pa, ph⟩) 37))
  obtain ⟨x0, x1, x2, x3, x4, x5⟩ := pgBox_of (p := ⟨pt, pd, pc, py, pa, ph⟩) HX.out
  simp only [Pg.cells] at HX HB x0 x1 x2 x3 x4 x5 ⊢
  have H1 := Lib.hid (fun W => markName_any pt W)
  have H2 := Lib.hid (fun W => markName_any pd W)
  have H3 := Lib.hid (fun W => markName_any pc W)
  have t4 := str_beq pd pc
  generalize nameOk pt = b1 at *
  generalize nameOk pd = b2 at *
  generalize nameOk pc = b3 at *
  generalize decide (pd = pc) = b4 at *
  obtain ⟨b5, t5⟩ : ∃ b, decide (0 ≤ py) = b := ⟨_, rfl⟩
  obtain ⟨b6, t6⟩ : ∃ b, decide (py ≤ 1048576) = b := ⟨_, rfl⟩
  obtain ⟨b7, t7⟩ : ∃ b, decide (1 ≤ pa) = b := ⟨_, rfl⟩
  obtain ⟨b8, t8⟩ : ∃ b, decide (pa ≤ 1099511627776) = b := ⟨_, rfl⟩
  rw [t5, t6, t7, t8] at hR
  have HR := Lib.hid hR
  clear hR
  cases b1
  case false =>
    go_enter Try.func42, Try.ntmps42
    go_wp2_with (first
      | ((with_reducible refine (H1.out _).mono ?_); rintro e w1 ⟨rfl, hb1⟩; have HX := Lib.hid (blk hb1 (lt_blk HX.out) HX.out); have HB := Lib.hid (HB.out.trans (hb1.mono HB.out.size)); obtain ⟨x0, x1, x2, x3, x4, x5⟩ := pgBox_of (p := ⟨pt, pd, pc, py, pa, ph⟩) HX.out; clear hb1)
      | ((with_reducible refine (H2.out _).mono ?_); rintro e w2 ⟨rfl, hb2⟩; have HX := Lib.hid (blk hb2 (lt_blk HX.out) HX.out); have HB := Lib.hid (HB.out.trans (hb2.mono HB.out.size)); obtain ⟨x0, x1, x2, x3, x4, x5⟩ := pgBox_of (p := ⟨pt, pd, pc, py, pa, ph⟩) HX.out; clear hb2)
      | ((with_reducible refine (H3.out _).mono ?_); rintro e w3 ⟨rfl, hb3⟩; have HX := Lib.hid (blk hb3 (lt_blk HX.out) HX.out); have HB := Lib.hid (HB.out.trans (hb3.mono HB.out.size)); obtain ⟨x0, x1, x2, x3, x4, x5⟩ := pgBox_of (p := ⟨pt, pd, pc, py, pa, ph⟩) HX.out; clear hb3)
      | fail)
    go_ret
    exact ⟨by rw [HR.out]; rfl, HB.out⟩
  case true =>
    cases b2
    case false =>
      go_enter Try.func42, Try.ntmps42
      go_wp2_with (first
        | ((with_reducible refine (H1.out _).mono ?_); rintro e w1 ⟨rfl, hb1⟩; have HX := Lib.hid (blk hb1 (lt_blk HX.out) HX.out); have HB := Lib.hid (HB.out.trans (hb1.mono HB.out.size)); obtain ⟨x0, x1, x2, x3, x4, x5⟩ := pgBox_of (p := ⟨pt, pd, pc, py, pa, ph⟩) HX.out; clear hb1)
        | ((with_reducible refine (H2.out _).mono ?_); rintro e w2 ⟨rfl, hb2⟩; have HX := Lib.hid (blk hb2 (lt_blk HX.out) HX.out); have HB := Lib.hid (HB.out.trans (hb2.mono HB.out.size)); obtain ⟨x0, x1, x2, x3, x4, x5⟩ := pgBox_of (p := ⟨pt, pd, pc, py, pa, ph⟩) HX.out; clear hb2)
        | ((with_reducible refine (H3.out _).mono ?_); rintro e w3 ⟨rfl, hb3⟩; have HX := Lib.hid (blk hb3 (lt_blk HX.out) HX.out); have HB := Lib.hid (HB.out.trans (hb3.mono HB.out.size)); obtain ⟨x0, x1, x2, x3, x4, x5⟩ := pgBox_of (p := ⟨pt, pd, pc, py, pa, ph⟩) HX.out; clear hb3)
        | fail)
      go_ret
      exact ⟨by rw [HR.out]; rfl, HB.out⟩
    case true =>
      cases b3
      case false =>
        go_enter Try.func42, Try.ntmps42
        go_wp2_with (first
          | ((with_reducible refine (H1.out _).mono ?_); rintro e w1 ⟨rfl, hb1⟩; have HX := Lib.hid (blk hb1 (lt_blk HX.out) HX.out); have HB := Lib.hid (HB.out.trans (hb1.mono HB.out.size)); obtain ⟨x0, x1, x2, x3, x4, x5⟩ := pgBox_of (p := ⟨pt, pd, pc, py, pa, ph⟩) HX.out; clear hb1)
          | ((with_reducible refine (H2.out _).mono ?_); rintro e w2 ⟨rfl, hb2⟩; have HX := Lib.hid (blk hb2 (lt_blk HX.out) HX.out); have HB := Lib.hid (HB.out.trans (hb2.mono HB.out.size)); obtain ⟨x0, x1, x2, x3, x4, x5⟩ := pgBox_of (p := ⟨pt, pd, pc, py, pa, ph⟩) HX.out; clear hb2)
          | ((with_reducible refine (H3.out _).mono ?_); rintro e w3 ⟨rfl, hb3⟩; have HX := Lib.hid (blk hb3 (lt_blk HX.out) HX.out); have HB := Lib.hid (HB.out.trans (hb3.mono HB.out.size)); obtain ⟨x0, x1, x2, x3, x4, x5⟩ := pgBox_of (p := ⟨pt, pd, pc, py, pa, ph⟩) HX.out; clear hb3)
          | fail)
        go_ret
        exact ⟨by rw [HR.out]; rfl, HB.out⟩
      case true =>
        cases b4
        case true =>
          go_enter Try.func42, Try.ntmps42
          go_wp2_with (first
            | ((with_reducible refine (H1.out _).mono ?_); rintro e w1 ⟨rfl, hb1⟩; have HX := Lib.hid (blk hb1 (lt_blk HX.out) HX.out); have HB := Lib.hid (HB.out.trans (hb1.mono HB.out.size)); obtain ⟨x0, x1, x2, x3, x4, x5⟩ := pgBox_of (p := ⟨pt, pd, pc, py, pa, ph⟩) HX.out; clear hb1)
            | ((with_reducible refine (H2.out _).mono ?_); rintro e w2 ⟨rfl, hb2⟩; have HX := Lib.hid (blk hb2 (lt_blk HX.out) HX.out); have HB := Lib.hid (HB.out.trans (hb2.mono HB.out.size)); obtain ⟨x0, x1, x2, x3, x4, x5⟩ := pgBox_of (p := ⟨pt, pd, pc, py, pa, ph⟩) HX.out; clear hb2)
            | ((with_reducible refine (H3.out _).mono ?_); rintro e w3 ⟨rfl, hb3⟩; have HX := Lib.hid (blk hb3 (lt_blk HX.out) HX.out); have HB := Lib.hid (HB.out.trans (hb3.mono HB.out.size)); obtain ⟨x0, x1, x2, x3, x4, x5⟩ := pgBox_of (p := ⟨pt, pd, pc, py, pa, ph⟩) HX.out; clear hb3)
            | fail)
          go_ret
          exact ⟨by rw [HR.out]; rfl, HB.out⟩
        case false =>
          cases b5
          case false =>
            go_enter Try.func42, Try.ntmps42
            go_wp2_with (first
              | ((with_reducible refine (H1.out _).mono ?_); rintro e w1 ⟨rfl, hb1⟩; have HX := Lib.hid (blk hb1 (lt_blk HX.out) HX.out); have HB := Lib.hid (HB.out.trans (hb1.mono HB.out.size)); obtain ⟨x0, x1, x2, x3, x4, x5⟩ := pgBox_of (p := ⟨pt, pd, pc, py, pa, ph⟩) HX.out; clear hb1)
              | ((with_reducible refine (H2.out _).mono ?_); rintro e w2 ⟨rfl, hb2⟩; have HX := Lib.hid (blk hb2 (lt_blk HX.out) HX.out); have HB := Lib.hid (HB.out.trans (hb2.mono HB.out.size)); obtain ⟨x0, x1, x2, x3, x4, x5⟩ := pgBox_of (p := ⟨pt, pd, pc, py, pa, ph⟩) HX.out; clear hb2)
              | ((with_reducible refine (H3.out _).mono ?_); rintro e w3 ⟨rfl, hb3⟩; have HX := Lib.hid (blk hb3 (lt_blk HX.out) HX.out); have HB := Lib.hid (HB.out.trans (hb3.mono HB.out.size)); obtain ⟨x0, x1, x2, x3, x4, x5⟩ := pgBox_of (p := ⟨pt, pd, pc, py, pa, ph⟩) HX.out; clear hb3)
              | fail)
            go_ret
            exact ⟨by rw [HR.out]; rfl, HB.out⟩
          case true =>
            cases b6
            case false =>
              go_enter Try.func42, Try.ntmps42
              go_wp2_with (first
                | ((with_reducible refine (H1.out _).mono ?_); rintro e w1 ⟨rfl, hb1⟩; have HX := Lib.hid (blk hb1 (lt_blk HX.out) HX.out); have HB := Lib.hid (HB.out.trans (hb1.mono HB.out.size)); obtain ⟨x0, x1, x2, x3, x4, x5⟩ := pgBox_of (p := ⟨pt, pd, pc, py, pa, ph⟩) HX.out; clear hb1)
                | ((with_reducible refine (H2.out _).mono ?_); rintro e w2 ⟨rfl, hb2⟩; have HX := Lib.hid (blk hb2 (lt_blk HX.out) HX.out); have HB := Lib.hid (HB.out.trans (hb2.mono HB.out.size)); obtain ⟨x0, x1, x2, x3, x4, x5⟩ := pgBox_of (p := ⟨pt, pd, pc, py, pa, ph⟩) HX.out; clear hb2)
                | ((with_reducible refine (H3.out _).mono ?_); rintro e w3 ⟨rfl, hb3⟩; have HX := Lib.hid (blk hb3 (lt_blk HX.out) HX.out); have HB := Lib.hid (HB.out.trans (hb3.mono HB.out.size)); obtain ⟨x0, x1, x2, x3, x4, x5⟩ := pgBox_of (p := ⟨pt, pd, pc, py, pa, ph⟩) HX.out; clear hb3)
                | fail)
              go_ret
              exact ⟨by rw [HR.out]; rfl, HB.out⟩
            case true =>
              cases b7
              case false =>
                go_enter Try.func42, Try.ntmps42
                go_wp2_with (first
                  | ((with_reducible refine (H1.out _).mono ?_); rintro e w1 ⟨rfl, hb1⟩; have HX := Lib.hid (blk hb1 (lt_blk HX.out) HX.out); have HB := Lib.hid (HB.out.trans (hb1.mono HB.out.size)); obtain ⟨x0, x1, x2, x3, x4, x5⟩ := pgBox_of (p := ⟨pt, pd, pc, py, pa, ph⟩) HX.out; clear hb1)
                  | ((with_reducible refine (H2.out _).mono ?_); rintro e w2 ⟨rfl, hb2⟩; have HX := Lib.hid (blk hb2 (lt_blk HX.out) HX.out); have HB := Lib.hid (HB.out.trans (hb2.mono HB.out.size)); obtain ⟨x0, x1, x2, x3, x4, x5⟩ := pgBox_of (p := ⟨pt, pd, pc, py, pa, ph⟩) HX.out; clear hb2)
                  | ((with_reducible refine (H3.out _).mono ?_); rintro e w3 ⟨rfl, hb3⟩; have HX := Lib.hid (blk hb3 (lt_blk HX.out) HX.out); have HB := Lib.hid (HB.out.trans (hb3.mono HB.out.size)); obtain ⟨x0, x1, x2, x3, x4, x5⟩ := pgBox_of (p := ⟨pt, pd, pc, py, pa, ph⟩) HX.out; clear hb3)
                  | fail)
                go_ret
                exact ⟨by rw [HR.out]; rfl, HB.out⟩
              case true =>
                cases b8
                case false =>
                  go_enter Try.func42, Try.ntmps42
                  go_wp2_with (first
                    | ((with_reducible refine (H1.out _).mono ?_); rintro e w1 ⟨rfl, hb1⟩; have HX := Lib.hid (blk hb1 (lt_blk HX.out) HX.out); have HB := Lib.hid (HB.out.trans (hb1.mono HB.out.size)); obtain ⟨x0, x1, x2, x3, x4, x5⟩ := pgBox_of (p := ⟨pt, pd, pc, py, pa, ph⟩) HX.out; clear hb1)
                    | ((with_reducible refine (H2.out _).mono ?_); rintro e w2 ⟨rfl, hb2⟩; have HX := Lib.hid (blk hb2 (lt_blk HX.out) HX.out); have HB := Lib.hid (HB.out.trans (hb2.mono HB.out.size)); obtain ⟨x0, x1, x2, x3, x4, x5⟩ := pgBox_of (p := ⟨pt, pd, pc, py, pa, ph⟩) HX.out; clear hb2)
                    | ((with_reducible refine (H3.out _).mono ?_); rintro e w3 ⟨rfl, hb3⟩; have HX := Lib.hid (blk hb3 (lt_blk HX.out) HX.out); have HB := Lib.hid (HB.out.trans (hb3.mono HB.out.size)); obtain ⟨x0, x1, x2, x3, x4, x5⟩ := pgBox_of (p := ⟨pt, pd, pc, py, pa, ph⟩) HX.out; clear hb3)
                    | fail)
                  go_ret
                  exact ⟨by rw [HR.out]; rfl, HB.out⟩
                case true =>
                  go_enter Try.func42, Try.ntmps42
                  go_wp2_with (first
                    | ((with_reducible refine (H1.out _).mono ?_); rintro e w1 ⟨rfl, hb1⟩; have HX := Lib.hid (blk hb1 (lt_blk HX.out) HX.out); have HB := Lib.hid (HB.out.trans (hb1.mono HB.out.size)); obtain ⟨x0, x1, x2, x3, x4, x5⟩ := pgBox_of (p := ⟨pt, pd, pc, py, pa, ph⟩) HX.out; clear hb1)
                    | ((with_reducible refine (H2.out _).mono ?_); rintro e w2 ⟨rfl, hb2⟩; have HX := Lib.hid (blk hb2 (lt_blk HX.out) HX.out); have HB := Lib.hid (HB.out.trans (hb2.mono HB.out.size)); obtain ⟨x0, x1, x2, x3, x4, x5⟩ := pgBox_of (p := ⟨pt, pd, pc, py, pa, ph⟩) HX.out; clear hb2)
                    | ((with_reducible refine (H3.out _).mono ?_); rintro e w3 ⟨rfl, hb3⟩; have HX := Lib.hid (blk hb3 (lt_blk HX.out) HX.out); have HB := Lib.hid (HB.out.trans (hb3.mono HB.out.size)); obtain ⟨x0, x1, x2, x3, x4, x5⟩ := pgBox_of (p := ⟨pt, pd, pc, py, pa, ph⟩) HX.out; clear hb3)
                    | fail)
                  go_ret
                  exact ⟨by rw [HR.out]; rfl, HB.out⟩
set_option maxHeartbeats 8000000 in
theorem refMay_any (p : Pg) (w : World) (hm1 : p.thing.size ≤ 9223372036854775807) (hm2 : p.debtor.size ≤ 9223372036854775807) (hm3 : p.cred.size ≤ 9223372036854775807) : Calls Try.prog 54 #[.agg p.cells] w (RetB w (mayP p)) := by
  obtain ⟨pt, pd, pc, py, pa, ph⟩ := p
  obtain ⟨R, hR⟩ : ∃ R, R = mayP ⟨pt, pd, pc, py, pa, ph⟩ := ⟨_, rfl⟩
  rw [← hR]
  simp only [mayP] at hR
  have HX := Lib.hid (heap_alloc_new w (.cells (Pg.cells ⟨pt, pd, pc, py, pa, ph⟩) 37))
  have HB := Lib.hid (one_below w (.cells (Pg.cells ⟨pt, pd, pc, py, pa, ph⟩) 37))
  obtain ⟨x0, x1, x2, x3, x4, x5⟩ := pgBox_of (p := ⟨pt, pd, pc, py, pa, ph⟩) HX.out
  simp only [Pg.cells] at HX HB x0 x1 x2 x3 x4 x5 ⊢
  have H1 := Lib.hid (fun W => refName6_any pt W (by first | exact hm1 | exact hm2 | exact hm3))
  have H2 := Lib.hid (fun W => refName6_any pd W (by first | exact hm1 | exact hm2 | exact hm3))
  have H3 := Lib.hid (fun W => refName6_any pc W (by first | exact hm1 | exact hm2 | exact hm3))
  have t4 := str_beq pd pc
  generalize nameOk pt = b1 at *
  generalize nameOk pd = b2 at *
  generalize nameOk pc = b3 at *
  generalize decide (pd = pc) = b4 at *
  obtain ⟨b5, t5⟩ : ∃ b, decide (0 ≤ py) = b := ⟨_, rfl⟩
  obtain ⟨b6, t6⟩ : ∃ b, decide (py ≤ 1048576) = b := ⟨_, rfl⟩
  obtain ⟨b7, t7⟩ : ∃ b, decide (1 ≤ pa) = b := ⟨_, rfl⟩
  obtain ⟨b8, t8⟩ : ∃ b, decide (pa ≤ 1099511627776) = b := ⟨_, rfl⟩
  rw [t5, t6, t7, t8] at hR
  have HR := Lib.hid hR
  clear hR
  cases b1
  case false =>
    go_enter Try.func54, Try.ntmps54
    go_wp2_with (first
      | ((with_reducible refine (H1.out _).mono ?_); rintro e w1 ⟨rfl, hb1⟩; have HX := Lib.hid (blk hb1 (lt_blk HX.out) HX.out); have HB := Lib.hid (HB.out.trans (hb1.mono HB.out.size)); obtain ⟨x0, x1, x2, x3, x4, x5⟩ := pgBox_of (p := ⟨pt, pd, pc, py, pa, ph⟩) HX.out; clear hb1)
      | ((with_reducible refine (H2.out _).mono ?_); rintro e w2 ⟨rfl, hb2⟩; have HX := Lib.hid (blk hb2 (lt_blk HX.out) HX.out); have HB := Lib.hid (HB.out.trans (hb2.mono HB.out.size)); obtain ⟨x0, x1, x2, x3, x4, x5⟩ := pgBox_of (p := ⟨pt, pd, pc, py, pa, ph⟩) HX.out; clear hb2)
      | ((with_reducible refine (H3.out _).mono ?_); rintro e w3 ⟨rfl, hb3⟩; have HX := Lib.hid (blk hb3 (lt_blk HX.out) HX.out); have HB := Lib.hid (HB.out.trans (hb3.mono HB.out.size)); obtain ⟨x0, x1, x2, x3, x4, x5⟩ := pgBox_of (p := ⟨pt, pd, pc, py, pa, ph⟩) HX.out; clear hb3)
      | fail)
    go_ret
    exact ⟨by rw [HR.out]; rfl, HB.out⟩
  case true =>
    cases b2
    case false =>
      go_enter Try.func54, Try.ntmps54
      go_wp2_with (first
        | ((with_reducible refine (H1.out _).mono ?_); rintro e w1 ⟨rfl, hb1⟩; have HX := Lib.hid (blk hb1 (lt_blk HX.out) HX.out); have HB := Lib.hid (HB.out.trans (hb1.mono HB.out.size)); obtain ⟨x0, x1, x2, x3, x4, x5⟩ := pgBox_of (p := ⟨pt, pd, pc, py, pa, ph⟩) HX.out; clear hb1)
        | ((with_reducible refine (H2.out _).mono ?_); rintro e w2 ⟨rfl, hb2⟩; have HX := Lib.hid (blk hb2 (lt_blk HX.out) HX.out); have HB := Lib.hid (HB.out.trans (hb2.mono HB.out.size)); obtain ⟨x0, x1, x2, x3, x4, x5⟩ := pgBox_of (p := ⟨pt, pd, pc, py, pa, ph⟩) HX.out; clear hb2)
        | ((with_reducible refine (H3.out _).mono ?_); rintro e w3 ⟨rfl, hb3⟩; have HX := Lib.hid (blk hb3 (lt_blk HX.out) HX.out); have HB := Lib.hid (HB.out.trans (hb3.mono HB.out.size)); obtain ⟨x0, x1, x2, x3, x4, x5⟩ := pgBox_of (p := ⟨pt, pd, pc, py, pa, ph⟩) HX.out; clear hb3)
        | fail)
      go_ret
      exact ⟨by rw [HR.out]; rfl, HB.out⟩
    case true =>
      cases b3
      case false =>
        go_enter Try.func54, Try.ntmps54
        go_wp2_with (first
          | ((with_reducible refine (H1.out _).mono ?_); rintro e w1 ⟨rfl, hb1⟩; have HX := Lib.hid (blk hb1 (lt_blk HX.out) HX.out); have HB := Lib.hid (HB.out.trans (hb1.mono HB.out.size)); obtain ⟨x0, x1, x2, x3, x4, x5⟩ := pgBox_of (p := ⟨pt, pd, pc, py, pa, ph⟩) HX.out; clear hb1)
          | ((with_reducible refine (H2.out _).mono ?_); rintro e w2 ⟨rfl, hb2⟩; have HX := Lib.hid (blk hb2 (lt_blk HX.out) HX.out); have HB := Lib.hid (HB.out.trans (hb2.mono HB.out.size)); obtain ⟨x0, x1, x2, x3, x4, x5⟩ := pgBox_of (p := ⟨pt, pd, pc, py, pa, ph⟩) HX.out; clear hb2)
          | ((with_reducible refine (H3.out _).mono ?_); rintro e w3 ⟨rfl, hb3⟩; have HX := Lib.hid (blk hb3 (lt_blk HX.out) HX.out); have HB := Lib.hid (HB.out.trans (hb3.mono HB.out.size)); obtain ⟨x0, x1, x2, x3, x4, x5⟩ := pgBox_of (p := ⟨pt, pd, pc, py, pa, ph⟩) HX.out; clear hb3)
          | fail)
        go_ret
        exact ⟨by rw [HR.out]; rfl, HB.out⟩
      case true =>
        cases b4
        case true =>
          go_enter Try.func54, Try.ntmps54
          go_wp2_with (first
            | ((with_reducible refine (H1.out _).mono ?_); rintro e w1 ⟨rfl, hb1⟩; have HX := Lib.hid (blk hb1 (lt_blk HX.out) HX.out); have HB := Lib.hid (HB.out.trans (hb1.mono HB.out.size)); obtain ⟨x0, x1, x2, x3, x4, x5⟩ := pgBox_of (p := ⟨pt, pd, pc, py, pa, ph⟩) HX.out; clear hb1)
            | ((with_reducible refine (H2.out _).mono ?_); rintro e w2 ⟨rfl, hb2⟩; have HX := Lib.hid (blk hb2 (lt_blk HX.out) HX.out); have HB := Lib.hid (HB.out.trans (hb2.mono HB.out.size)); obtain ⟨x0, x1, x2, x3, x4, x5⟩ := pgBox_of (p := ⟨pt, pd, pc, py, pa, ph⟩) HX.out; clear hb2)
            | ((with_reducible refine (H3.out _).mono ?_); rintro e w3 ⟨rfl, hb3⟩; have HX := Lib.hid (blk hb3 (lt_blk HX.out) HX.out); have HB := Lib.hid (HB.out.trans (hb3.mono HB.out.size)); obtain ⟨x0, x1, x2, x3, x4, x5⟩ := pgBox_of (p := ⟨pt, pd, pc, py, pa, ph⟩) HX.out; clear hb3)
            | fail)
          go_ret
          exact ⟨by rw [HR.out]; rfl, HB.out⟩
        case false =>
          cases b5
          case false =>
            go_enter Try.func54, Try.ntmps54
            go_wp2_with (first
              | ((with_reducible refine (H1.out _).mono ?_); rintro e w1 ⟨rfl, hb1⟩; have HX := Lib.hid (blk hb1 (lt_blk HX.out) HX.out); have HB := Lib.hid (HB.out.trans (hb1.mono HB.out.size)); obtain ⟨x0, x1, x2, x3, x4, x5⟩ := pgBox_of (p := ⟨pt, pd, pc, py, pa, ph⟩) HX.out; clear hb1)
              | ((with_reducible refine (H2.out _).mono ?_); rintro e w2 ⟨rfl, hb2⟩; have HX := Lib.hid (blk hb2 (lt_blk HX.out) HX.out); have HB := Lib.hid (HB.out.trans (hb2.mono HB.out.size)); obtain ⟨x0, x1, x2, x3, x4, x5⟩ := pgBox_of (p := ⟨pt, pd, pc, py, pa, ph⟩) HX.out; clear hb2)
              | ((with_reducible refine (H3.out _).mono ?_); rintro e w3 ⟨rfl, hb3⟩; have HX := Lib.hid (blk hb3 (lt_blk HX.out) HX.out); have HB := Lib.hid (HB.out.trans (hb3.mono HB.out.size)); obtain ⟨x0, x1, x2, x3, x4, x5⟩ := pgBox_of (p := ⟨pt, pd, pc, py, pa, ph⟩) HX.out; clear hb3)
              | fail)
            go_ret
            exact ⟨by rw [HR.out]; rfl, HB.out⟩
          case true =>
            cases b6
            case false =>
              go_enter Try.func54, Try.ntmps54
              go_wp2_with (first
                | ((with_reducible refine (H1.out _).mono ?_); rintro e w1 ⟨rfl, hb1⟩; have HX := Lib.hid (blk hb1 (lt_blk HX.out) HX.out); have HB := Lib.hid (HB.out.trans (hb1.mono HB.out.size)); obtain ⟨x0, x1, x2, x3, x4, x5⟩ := pgBox_of (p := ⟨pt, pd, pc, py, pa, ph⟩) HX.out; clear hb1)
                | ((with_reducible refine (H2.out _).mono ?_); rintro e w2 ⟨rfl, hb2⟩; have HX := Lib.hid (blk hb2 (lt_blk HX.out) HX.out); have HB := Lib.hid (HB.out.trans (hb2.mono HB.out.size)); obtain ⟨x0, x1, x2, x3, x4, x5⟩ := pgBox_of (p := ⟨pt, pd, pc, py, pa, ph⟩) HX.out; clear hb2)
                | ((with_reducible refine (H3.out _).mono ?_); rintro e w3 ⟨rfl, hb3⟩; have HX := Lib.hid (blk hb3 (lt_blk HX.out) HX.out); have HB := Lib.hid (HB.out.trans (hb3.mono HB.out.size)); obtain ⟨x0, x1, x2, x3, x4, x5⟩ := pgBox_of (p := ⟨pt, pd, pc, py, pa, ph⟩) HX.out; clear hb3)
                | fail)
              go_ret
              exact ⟨by rw [HR.out]; rfl, HB.out⟩
            case true =>
              cases b7
              case false =>
                go_enter Try.func54, Try.ntmps54
                go_wp2_with (first
                  | ((with_reducible refine (H1.out _).mono ?_); rintro e w1 ⟨rfl, hb1⟩; have HX := Lib.hid (blk hb1 (lt_blk HX.out) HX.out); have HB := Lib.hid (HB.out.trans (hb1.mono HB.out.size)); obtain ⟨x0, x1, x2, x3, x4, x5⟩ := pgBox_of (p := ⟨pt, pd, pc, py, pa, ph⟩) HX.out; clear hb1)
                  | ((with_reducible refine (H2.out _).mono ?_); rintro e w2 ⟨rfl, hb2⟩; have HX := Lib.hid (blk hb2 (lt_blk HX.out) HX.out); have HB := Lib.hid (HB.out.trans (hb2.mono HB.out.size)); obtain ⟨x0, x1, x2, x3, x4, x5⟩ := pgBox_of (p := ⟨pt, pd, pc, py, pa, ph⟩) HX.out; clear hb2)
                  | ((with_reducible refine (H3.out _).mono ?_); rintro e w3 ⟨rfl, hb3⟩; have HX := Lib.hid (blk hb3 (lt_blk HX.out) HX.out); have HB := Lib.hid (HB.out.trans (hb3.mono HB.out.size)); obtain ⟨x0, x1, x2, x3, x4, x5⟩ := pgBox_of (p := ⟨pt, pd, pc, py, pa, ph⟩) HX.out; clear hb3)
                  | fail)
                go_ret
                exact ⟨by rw [HR.out]; rfl, HB.out⟩
              case true =>
                cases b8
                case false =>
                  go_enter Try.func54, Try.ntmps54
                  go_wp2_with (first
                    | ((with_reducible refine (H1.out _).mono ?_); rintro e w1 ⟨rfl, hb1⟩; have HX := Lib.hid (blk hb1 (lt_blk HX.out) HX.out); have HB := Lib.hid (HB.out.trans (hb1.mono HB.out.size)); obtain ⟨x0, x1, x2, x3, x4, x5⟩ := pgBox_of (p := ⟨pt, pd, pc, py, pa, ph⟩) HX.out; clear hb1)
                    | ((with_reducible refine (H2.out _).mono ?_); rintro e w2 ⟨rfl, hb2⟩; have HX := Lib.hid (blk hb2 (lt_blk HX.out) HX.out); have HB := Lib.hid (HB.out.trans (hb2.mono HB.out.size)); obtain ⟨x0, x1, x2, x3, x4, x5⟩ := pgBox_of (p := ⟨pt, pd, pc, py, pa, ph⟩) HX.out; clear hb2)
                    | ((with_reducible refine (H3.out _).mono ?_); rintro e w3 ⟨rfl, hb3⟩; have HX := Lib.hid (blk hb3 (lt_blk HX.out) HX.out); have HB := Lib.hid (HB.out.trans (hb3.mono HB.out.size)); obtain ⟨x0, x1, x2, x3, x4, x5⟩ := pgBox_of (p := ⟨pt, pd, pc, py, pa, ph⟩) HX.out; clear hb3)
                    | fail)
                  go_ret
                  exact ⟨by rw [HR.out]; rfl, HB.out⟩
                case true =>
                  go_enter Try.func54, Try.ntmps54
                  go_wp2_with (first
                    | ((with_reducible refine (H1.out _).mono ?_); rintro e w1 ⟨rfl, hb1⟩; have HX := Lib.hid (blk hb1 (lt_blk HX.out) HX.out); have HB := Lib.hid (HB.out.trans (hb1.mono HB.out.size)); obtain ⟨x0, x1, x2, x3, x4, x5⟩ := pgBox_of (p := ⟨pt, pd, pc, py, pa, ph⟩) HX.out; clear hb1)
                    | ((with_reducible refine (H2.out _).mono ?_); rintro e w2 ⟨rfl, hb2⟩; have HX := Lib.hid (blk hb2 (lt_blk HX.out) HX.out); have HB := Lib.hid (HB.out.trans (hb2.mono HB.out.size)); obtain ⟨x0, x1, x2, x3, x4, x5⟩ := pgBox_of (p := ⟨pt, pd, pc, py, pa, ph⟩) HX.out; clear hb2)
                    | ((with_reducible refine (H3.out _).mono ?_); rintro e w3 ⟨rfl, hb3⟩; have HX := Lib.hid (blk hb3 (lt_blk HX.out) HX.out); have HB := Lib.hid (HB.out.trans (hb3.mono HB.out.size)); obtain ⟨x0, x1, x2, x3, x4, x5⟩ := pgBox_of (p := ⟨pt, pd, pc, py, pa, ph⟩) HX.out; clear hb3)
                    | fail)
                  go_ret
                  exact ⟨by rw [HR.out]; rfl, HB.out⟩
end Go.Proofs.Ytnlfhncbnfmccaa.Sc
