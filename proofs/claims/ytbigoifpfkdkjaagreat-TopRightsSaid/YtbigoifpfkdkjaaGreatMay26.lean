/- May a pledge be: by the program and by the reference; the closures. -/
import Derived.Test.YtbigoifpfkdkjaaGreatMem26
import Derived.Test.YtbigoifpfkdkjaaGreatMark
namespace Go.Proofs.YtbigoifpfkdkjaaGreat.Sc
open Go Go.RowKit Go.ChangeShapes Go.WideShapes Go.ChangeAt
set_option maxRecDepth 100000

theorem c44_any (x p : Pg) (b3 : Nat) (W : World) (h : W.heap[b3]? = some (.cells p.cells 27 (0, 0))) :
    Calls Tryz.prog 15 #[.agg x.cells, .pointer (some ⟨b3, 0, none⟩)] W (RetB W (!decide (x.debtor = p.debtor))) := by
  have y := pgBox_of (heap_alloc_new W (.cells x.cells 27))
  have z := pgBox_of (p := p) (blk (one_below W (.cells x.cells 27)) (lt_blk h) h)
  obtain ⟨xt, xd, xc, xy, xa, xh⟩ := x
  obtain ⟨pt, pd, pc, py, pa, ph⟩ := p
  obtain ⟨-, y1, -⟩ := y
  obtain ⟨-, z1, -⟩ := z
  have t1 := str_beq xd pd
  simp only [Pg.cells] at y1 z1 ⊢
  generalize decide (xd = pd) = r at *
  clear h
  go_enter Tryz.func15, Tryz.ntmps15
  go_wp2_with fail
  go_ret
  exact ⟨rfl, one_below _ _⟩
theorem c45_any (x p : Pg) (b3 : Nat) (W : World) (h : W.heap[b3]? = some (.cells p.cells 27 (0, 0))) :
    Calls Tryz.prog 16 #[.agg x.cells, .pointer (some ⟨b3, 0, none⟩)] W (RetB W (decide (x.cred = p.cred))) := by
  have y := pgBox_of (heap_alloc_new W (.cells x.cells 27))
  have z := pgBox_of (p := p) (blk (one_below W (.cells x.cells 27)) (lt_blk h) h)
  obtain ⟨xt, xd, xc, xy, xa, xh⟩ := x
  obtain ⟨pt, pd, pc, py, pa, ph⟩ := p
  obtain ⟨-, -, y1, -⟩ := y
  obtain ⟨-, -, z1, -⟩ := z
  have t1 := str_beq xc pc
  simp only [Pg.cells] at y1 z1 ⊢
  generalize decide (xc = pc) = r at *
  clear h
  go_enter Tryz.func16, Tryz.ntmps16
  go_wp2_with fail
  go_ret
  exact ⟨rfl, one_below _ _⟩
theorem c46_any (x : Pg) (W : World) : Calls Tryz.prog 17 #[.agg x.cells] W (RetB W x.held) := by
  have y := pgBox_of (heap_alloc_new W (.cells x.cells 27))
  obtain ⟨xt, xd, xc, xy, xa, xh⟩ := x
  obtain ⟨-, -, -, -, -, y1⟩ := y
  simp only [Pg.cells] at y1 ⊢
  go_enter Tryz.func17, Tryz.ntmps17
  go_wp2_with fail
  go_ret
  exact ⟨rfl, one_below _ _⟩
set_option maxHeartbeats 8000000 in
theorem may_any (p : Pg) (w : World) : Calls Tryz.prog 12 #[.agg p.cells] w (RetB w (mayP p)) := by
  obtain ⟨pt, pd, pc, py, pa, ph⟩ := p
  obtain ⟨R, hR⟩ : ∃ R, R = mayP ⟨pt, pd, pc, py, pa, ph⟩ := ⟨_, rfl⟩
  rw [← hR]
  simp only [mayP] at hR
  have HX := Lib.hid (heap_alloc_new w (.cells (Pg.cells ⟨pt, pd, pc, py, pa, ph⟩) 27))
  have HB := Lib.hid (one_below w (.cells (Pg.cells ⟨pt, pd, pc, py, pa, ph⟩) 27))
  obtain ⟨x0, x1, x2, x3, x4, x5⟩ := pgBox_of (p := ⟨pt, pd, pc, py, pa, ph⟩) HX.out
  simp only [Pg.cells] at HX HB x0 x1 x2 x3 x4 x5 ⊢
  have H1 := Lib.hid (fun W => markName_any pt W)
  have H2 := Lib.hid (fun W => markName_any pd W)
  have H3 := Lib.hid (fun W => markName_any pc W)
  have t4 := str_beq pd pc
  generalize nameOk pt = b1 at *
  generalize nameOk pd = b2 at *
  generalize nameOk pc = b3 at *
  generalize decide (pd = pc) = b4 at *
  obtain ⟨b5, t5⟩ : ∃ b, decide (0 ≤ py) = b := ⟨_, rfl⟩
  obtain ⟨b6, t6⟩ : ∃ b, decide (py ≤ 1048576) = b := ⟨_, rfl⟩
  obtain ⟨b7, t7⟩ : ∃ b, decide (1 ≤ pa) = b := ⟨_, rfl⟩
  obtain ⟨b8, t8⟩ : ∃ b, decide (pa ≤ 1099511627776) = b := ⟨_, rfl⟩
  rw [t5, t6, t7, t8] at hR
  have HR := Lib.hid hR
  clear hR
  cases b1
  case false =>
    go_enter Tryz.func12, Tryz.ntmps12
    go_wp2_with (first
      | ((with_reducible refine (H1.out _).mono ?_); rintro e w1 ⟨rfl, hb1⟩; have HX := Lib.hid (blk hb1 (lt_blk HX.out) HX.out); have HB := Lib.hid (HB.out.trans (hb1.mono HB.out.size)); obtain ⟨x0, x1, x2, x3, x4, x5⟩ := pgBox_of (p := ⟨pt, pd, pc, py, pa, ph⟩) HX.out; clear hb1)
      | ((with_reducible refine (H2.out _).mono ?_); rintro e w2 ⟨rfl, hb2⟩; have HX := Lib.hid (blk hb2 (lt_blk HX.out) HX.out); have HB := Lib.hid (HB.out.trans (hb2.mono HB.out.size)); obtain ⟨x0, x1, x2, x3, x4, x5⟩ := pgBox_of (p := ⟨pt, pd, pc, py, pa, ph⟩) HX.out; clear hb2)
      | ((with_reducible refine (H3.out _).mono ?_); rintro e w3 ⟨rfl, hb3⟩; have HX := Lib.hid (blk hb3 (lt_blk HX.out) HX.out); have HB := Lib.hid (HB.out.trans (hb3.mono HB.out.size)); obtain ⟨x0, x1, x2, x3, x4, x5⟩ := pgBox_of (p := ⟨pt, pd, pc, py, pa, ph⟩) HX.out; clear hb3)
      | fail)
    go_ret
    exact ⟨by rw [HR.out]; rfl, HB.out⟩
  case true =>
    cases b2
    case false =>
      go_enter Tryz.func12, Tryz.ntmps12
      go_wp2_with (first
        | ((with_reducible refine (H1.out _).mono ?_); rintro e w1 ⟨rfl, hb1⟩; have HX := Lib.hid (blk hb1 (lt_blk HX.out) HX.out); have HB := Lib.hid (HB.out.trans (hb1.mono HB.out.size)); obtain ⟨x0, x1, x2, x3, x4, x5⟩ := pgBox_of (p := ⟨pt, pd, pc, py, pa, ph⟩) HX.out; clear hb1)
        | ((with_reducible refine (H2.out _).mono ?_); rintro e w2 ⟨rfl, hb2⟩; have HX := Lib.hid (blk hb2 (lt_blk HX.out) HX.out); have HB := Lib.hid (HB.out.trans (hb2.mono HB.out.size)); obtain ⟨x0, x1, x2, x3, x4, x5⟩ := pgBox_of (p := ⟨pt, pd, pc, py, pa, ph⟩) HX.out; clear hb2)
        | ((with_reducible refine (H3.out _).mono ?_); rintro e w3 ⟨rfl, hb3⟩; have HX := Lib.hid (blk hb3 (lt_blk HX.out) HX.out); have HB := Lib.hid (HB.out.trans (hb3.mono HB.out.size)); obtain ⟨x0, x1, x2, x3, x4, x5⟩ := pgBox_of (p := ⟨pt, pd, pc, py, pa, ph⟩) HX.out; clear hb3)
        | fail)
      go_ret
      exact ⟨by rw [HR.out]; rfl, HB.out⟩
    case true =>
      cases b3
      case false =>
        go_enter Tryz.func12, Tryz.ntmps12
        go_wp2_with (first
          | ((with_reducible refine (H1.out _).mono ?_); rintro e w1 ⟨rfl, hb1⟩; have HX := Lib.hid (blk hb1 (lt_blk HX.out) HX.out); have HB := Lib.hid (HB.out.trans (hb1.mono HB.out.size)); obtain ⟨x0, x1, x2, x3, x4, x5⟩ := pgBox_of (p := ⟨pt, pd, pc, py, pa, ph⟩) HX.out; clear hb1)
          | ((with_reducible refine (H2.out _).mono ?_); rintro e w2 ⟨rfl, hb2⟩; have HX := Lib.hid (blk hb2 (lt_blk HX.out) HX.out); have HB := Lib.hid (HB.out.trans (hb2.mono HB.out.size)); obtain ⟨x0, x1, x2, x3, x4, x5⟩ := pgBox_of (p := ⟨pt, pd, pc, py, pa, ph⟩) HX.out; clear hb2)
          | ((with_reducible refine (H3.out _).mono ?_); rintro e w3 ⟨rfl, hb3⟩; have HX := Lib.hid (blk hb3 (lt_blk HX.out) HX.out); have HB := Lib.hid (HB.out.trans (hb3.mono HB.out.size)); obtain ⟨x0, x1, x2, x3, x4, x5⟩ := pgBox_of (p := ⟨pt, pd, pc, py, pa, ph⟩) HX.out; clear hb3)
          | fail)
        go_ret
        exact ⟨by rw [HR.out]; rfl, HB.out⟩
      case true =>
        cases b4
        case true =>
          go_enter Tryz.func12, Tryz.ntmps12
          go_wp2_with (first
            | ((with_reducible refine (H1.out _).mono ?_); rintro e w1 ⟨rfl, hb1⟩; have HX := Lib.hid (blk hb1 (lt_blk HX.out) HX.out); have HB := Lib.hid (HB.out.trans (hb1.mono HB.out.size)); obtain ⟨x0, x1, x2, x3, x4, x5⟩ := pgBox_of (p := ⟨pt, pd, pc, py, pa, ph⟩) HX.out; clear hb1)
            | ((with_reducible refine (H2.out _).mono ?_); rintro e w2 ⟨rfl, hb2⟩; have HX := Lib.hid (blk hb2 (lt_blk HX.out) HX.out); have HB := Lib.hid (HB.out.trans (hb2.mono HB.out.size)); obtain ⟨x0, x1, x2, x3, x4, x5⟩ := pgBox_of (p := ⟨pt, pd, pc, py, pa, ph⟩) HX.out; clear hb2)
            | ((with_reducible refine (H3.out _).mono ?_); rintro e w3 ⟨rfl, hb3⟩; have HX := Lib.hid (blk hb3 (lt_blk HX.out) HX.out); have HB := Lib.hid (HB.out.trans (hb3.mono HB.out.size)); obtain ⟨x0, x1, x2, x3, x4, x5⟩ := pgBox_of (p := ⟨pt, pd, pc, py, pa, ph⟩) HX.out; clear hb3)
            | fail)
          go_ret
          exact ⟨by rw [HR.out]; rfl, HB.out⟩
        case false =>
          cases b5
          case false =>
            go_enter Tryz.func12, Tryz.ntmps12
            go_wp2_with (first
              | ((with_reducible refine (H1.out _).mono ?_); rintro e w1 ⟨rfl, hb1⟩; have HX := Lib.hid (blk hb1 (lt_blk HX.out) HX.out); have HB := Lib.hid (HB.out.trans (hb1.mono HB.out.size)); obtain ⟨x0, x1, x2, x3, x4, x5⟩ := pgBox_of (p := ⟨pt, pd, pc, py, pa, ph⟩) HX.out; clear hb1)
              | ((with_reducible refine (H2.out _).mono ?_); rintro e w2 ⟨rfl, hb2⟩; have HX := Lib.hid (blk hb2 (lt_blk HX.out) HX.out); have HB := Lib.hid (HB.out.trans (hb2.mono HB.out.size)); obtain ⟨x0, x1, x2, x3, x4, x5⟩ := pgBox_of (p := ⟨pt, pd, pc, py, pa, ph⟩) HX.out; clear hb2)
              | ((with_reducible refine (H3.out _).mono ?_); rintro e w3 ⟨rfl, hb3⟩; have HX := Lib.hid (blk hb3 (lt_blk HX.out) HX.out); have HB := Lib.hid (HB.out.trans (hb3.mono HB.out.size)); obtain ⟨x0, x1, x2, x3, x4, x5⟩ := pgBox_of (p := ⟨pt, pd, pc, py, pa, ph⟩) HX.out; clear hb3)
              | fail)
            go_ret
            exact ⟨by rw [HR.out]; rfl, HB.out⟩
          case true =>
            cases b6
            case false =>
              go_enter Tryz.func12, Tryz.ntmps12
              go_wp2_with (first
                | ((with_reducible refine (H1.out _).mono ?_); rintro e w1 ⟨rfl, hb1⟩; have HX := Lib.hid (blk hb1 (lt_blk HX.out) HX.out); have HB := Lib.hid (HB.out.trans (hb1.mono HB.out.size)); obtain ⟨x0, x1, x2, x3, x4, x5⟩ := pgBox_of (p := ⟨pt, pd, pc, py, pa, ph⟩) HX.out; clear hb1)
                | ((with_reducible refine (H2.out _).mono ?_); rintro e w2 ⟨rfl, hb2⟩; have HX := Lib.hid (blk hb2 (lt_blk HX.out) HX.out); have HB := Lib.hid (HB.out.trans (hb2.mono HB.out.size)); obtain ⟨x0, x1, x2, x3, x4, x5⟩ := pgBox_of (p := ⟨pt, pd, pc, py, pa, ph⟩) HX.out; clear hb2)
                | ((with_reducible refine (H3.out _).mono ?_); rintro e w3 ⟨rfl, hb3⟩; have HX := Lib.hid (blk hb3 (lt_blk HX.out) HX.out); have HB := Lib.hid (HB.out.trans (hb3.mono HB.out.size)); obtain ⟨x0, x1, x2, x3, x4, x5⟩ := pgBox_of (p := ⟨pt, pd, pc, py, pa, ph⟩) HX.out; clear hb3)
                | fail)
              go_ret
              exact ⟨by rw [HR.out]; rfl, HB.out⟩
            case true =>
              cases b7
              case false =>
                go_enter Tryz.func12, Tryz.ntmps12
                go_wp2_with (first
                  | ((with_reducible refine (H1.out _).mono ?_); rintro e w1 ⟨rfl, hb1⟩; have HX := Lib.hid (blk hb1 (lt_blk HX.out) HX.out); have HB := Lib.hid (HB.out.trans (hb1.mono HB.out.size)); obtain ⟨x0, x1, x2, x3, x4, x5⟩ := pgBox_of (p := ⟨pt, pd, pc, py, pa, ph⟩) HX.out; clear hb1)
                  | ((with_reducible refine (H2.out _).mono ?_); rintro e w2 ⟨rfl, hb2⟩; have HX := Lib.hid (blk hb2 (lt_blk HX.out) HX.out); have HB := Lib.hid (HB.out.trans (hb2.mono HB.out.size)); obtain ⟨x0, x1, x2, x3, x4, x5⟩ := pgBox_of (p := ⟨pt, pd, pc, py, pa, ph⟩) HX.out; clear hb2)
                  | ((with_reducible refine (H3.out _).mono ?_); rintro e w3 ⟨rfl, hb3⟩; have HX := Lib.hid (blk hb3 (lt_blk HX.out) HX.out); have HB := Lib.hid (HB.out.trans (hb3.mono HB.out.size)); obtain ⟨x0, x1, x2, x3, x4, x5⟩ := pgBox_of (p := ⟨pt, pd, pc, py, pa, ph⟩) HX.out; clear hb3)
                  | fail)
                go_ret
                exact ⟨by rw [HR.out]; rfl, HB.out⟩
              case true =>
                cases b8
                case false =>
                  go_enter Tryz.func12, Tryz.ntmps12
                  go_wp2_with (first
                    | ((with_reducible refine (H1.out _).mono ?_); rintro e w1 ⟨rfl, hb1⟩; have HX := Lib.hid (blk hb1 (lt_blk HX.out) HX.out); have HB := Lib.hid (HB.out.trans (hb1.mono HB.out.size)); obtain ⟨x0, x1, x2, x3, x4, x5⟩ := pgBox_of (p := ⟨pt, pd, pc, py, pa, ph⟩) HX.out; clear hb1)
                    | ((with_reducible refine (H2.out _).mono ?_); rintro e w2 ⟨rfl, hb2⟩; have HX := Lib.hid (blk hb2 (lt_blk HX.out) HX.out); have HB := Lib.hid (HB.out.trans (hb2.mono HB.out.size)); obtain ⟨x0, x1, x2, x3, x4, x5⟩ := pgBox_of (p := ⟨pt, pd, pc, py, pa, ph⟩) HX.out; clear hb2)
                    | ((with_reducible refine (H3.out _).mono ?_); rintro e w3 ⟨rfl, hb3⟩; have HX := Lib.hid (blk hb3 (lt_blk HX.out) HX.out); have HB := Lib.hid (HB.out.trans (hb3.mono HB.out.size)); obtain ⟨x0, x1, x2, x3, x4, x5⟩ := pgBox_of (p := ⟨pt, pd, pc, py, pa, ph⟩) HX.out; clear hb3)
                    | fail)
                  go_ret
                  exact ⟨by rw [HR.out]; rfl, HB.out⟩
                case true =>
                  go_enter Tryz.func12, Tryz.ntmps12
                  go_wp2_with (first
                    | ((with_reducible refine (H1.out _).mono ?_); rintro e w1 ⟨rfl, hb1⟩; have HX := Lib.hid (blk hb1 (lt_blk HX.out) HX.out); have HB := Lib.hid (HB.out.trans (hb1.mono HB.out.size)); obtain ⟨x0, x1, x2, x3, x4, x5⟩ := pgBox_of (p := ⟨pt, pd, pc, py, pa, ph⟩) HX.out; clear hb1)
                    | ((with_reducible refine (H2.out _).mono ?_); rintro e w2 ⟨rfl, hb2⟩; have HX := Lib.hid (blk hb2 (lt_blk HX.out) HX.out); have HB := Lib.hid (HB.out.trans (hb2.mono HB.out.size)); obtain ⟨x0, x1, x2, x3, x4, x5⟩ := pgBox_of (p := ⟨pt, pd, pc, py, pa, ph⟩) HX.out; clear hb2)
                    | ((with_reducible refine (H3.out _).mono ?_); rintro e w3 ⟨rfl, hb3⟩; have HX := Lib.hid (blk hb3 (lt_blk HX.out) HX.out); have HB := Lib.hid (HB.out.trans (hb3.mono HB.out.size)); obtain ⟨x0, x1, x2, x3, x4, x5⟩ := pgBox_of (p := ⟨pt, pd, pc, py, pa, ph⟩) HX.out; clear hb3)
                    | fail)
                  go_ret
                  exact ⟨by rw [HR.out]; rfl, HB.out⟩
end Go.Proofs.YtbigoifpfkdkjaaGreat.Sc
