/- May a voyage be: by the program. -/
import Derived.Test.YtbmjficiceiekaaDoorVy16
import Derived.Test.YtbmjficiceiekaaDoorLaw
namespace Go.Proofs.YtbmjficiceiekaaDoor.Sc
open Go Go.RowKit Go.ChangeShapes Go.WideShapes Go.ChangeAt
set_option maxRecDepth 100000

theorem okAt_zero {l : List Cl} (h : 0 < l.length) : okAt l 0 = (okC l[0] && true) := by unfold okAt; rw [List.getElem?_eq_getElem h]
theorem okAt_succ {l : List Cl} {m : Nat} (h : m + 1 < l.length) : okAt l (m + 1) = (okC l[m + 1] && adjC (l[m]'(by omega)) l[m + 1]) := by
  unfold okAt
  rw [List.getElem?_eq_getElem h]
  simp only [List.getElem?_eq_getElem (show m < l.length by omega)]
theorem day_any (n : Int) (w : World) : Calls Tryd.prog 37 #[.int .i64 n] w (RetB w (dayB n)) := by
  go_enter Tryd.func37, Tryd.ntmps37
  go_wp2
  all_goals
    go_ret
    exact retB (by rw [Bool.eq_iff_iff]; simp only [dayB, Bool.and_eq_true, decide_eq_true_eq, Bool.false_eq_true, false_iff]; omega) (Below.refl _ _)
theorem refDay_any (n : Int) (w : World) : Calls Tryd.prog 39 #[.int .i64 n] w (RetB w (dayB n)) := by
  go_enter Tryd.func39, Tryd.ntmps39
  go_wp2
  all_goals
    go_ret
    exact retB (by rw [Bool.eq_iff_iff]; simp only [dayB, Bool.and_eq_true, decide_eq_true_eq, Bool.false_eq_true, false_iff]; omega) (Below.refl _ _)
set_option maxHeartbeats 8000000 in
theorem mayP_any (s : ByteArray) (v : Value) (l : List Cl) (w : World) (hs : Sl w 4 v (l.map Cl.row)) : Calls Tryd.prog 21 #[.agg #[.string s, v]] w (RetB w (mayV s l)) := by
  have hll : l.length ≤ 9223372036854775807 := by have := hs.len_le; simp only [List.length_map, maxLen] at this; omega
  obtain ⟨a, c, rfl⟩ : ∃ a c, v = .slice a l.length c := by simpa using hs.shape
  have HS := Lib.hid hs
  have HN := Lib.hid (fun W => markName_any s W)
  have HMV : Hid (mayV s l = (nameOk s && (decide (1 ≤ l.length) && (decide (l.length ≤ 64) && mayCs l)))) := Lib.hid rfl
  have HX0 := Lib.hid (heap_alloc_new w (.cells #[.string s, .slice a l.length c] 32))
  have z0 := cell_blk HX0.out 0
  have z1 := cell_blk HX0.out 1
  clear hs
  generalize nameOk s = bn at *
  cases bn
  case false =>
    go_enter Tryd.func21, Tryd.ntmps21
    go_wp2_with (first
      | ((with_reducible refine (HN.out _).mono ?_); rintro e w1 ⟨rfl, hb1⟩; have HB1 := Lib.hid (below_new hb1); have HX := Lib.hid (blk hb1 (lt_blk HX0.out) HX0.out); have y0 := cell_blk HX.out 0; have y1 := cell_blk HX.out 1; clear hb1)
      | fail)
    go_ret
    exact retB (by rw [HMV.out]; rfl) HB1.out
  case true =>
    by_cases h1 : l.length < 1
    · have t1 : decide ((l.length : Int) < 1) = true := decide_eq_true (by omega)
      have t1' : decide (l.length < 1) = true := decide_eq_true h1
      have HF : Hid (¬ 1 ≤ l.length) := Lib.hid (by omega)
      clear h1
      go_enter Tryd.func21, Tryd.ntmps21
      go_wp2_with (first
        | ((with_reducible refine (HN.out _).mono ?_); rintro e w1 ⟨rfl, hb1⟩; have HB1 := Lib.hid (below_new hb1); have HX := Lib.hid (blk hb1 (lt_blk HX0.out) HX0.out); have y0 := cell_blk HX.out 0; have y1 := cell_blk HX.out 1; clear hb1)
        | fail)
      go_ret
      exact retB (by rw [HMV.out, decide_eq_false HF.out]; rfl) HB1.out
    by_cases h2 : 64 < l.length
    · have t1 : decide ((l.length : Int) < 1) = false := decide_eq_false (by omega)
      have t1' : decide (l.length < 1) = false := decide_eq_false h1
      have t2 : decide ((64 : Int) < (l.length : Int)) = true := decide_eq_true (by omega)
      have t2' : decide (64 < l.length) = true := decide_eq_true h2
      have HF : Hid (¬ l.length ≤ 64) := Lib.hid (by omega)
      clear h1 h2
      go_enter Tryd.func21, Tryd.ntmps21
      go_wp2_with (first
        | ((with_reducible refine (HN.out _).mono ?_); rintro e w1 ⟨rfl, hb1⟩; have HB1 := Lib.hid (below_new hb1); have HX := Lib.hid (blk hb1 (lt_blk HX0.out) HX0.out); have y0 := cell_blk HX.out 0; have y1 := cell_blk HX.out 1; clear hb1)
        | fail)
      go_ret
      exact retB (by rw [HMV.out, decide_eq_false HF.out]; simp) HB1.out
    have t1 : decide ((l.length : Int) < 1) = false := decide_eq_false (by omega)
    have t1' : decide (l.length < 1) = false := decide_eq_false h1
    have t2 : decide ((64 : Int) < (l.length : Int)) = false := decide_eq_false (by omega)
    have t2' : decide (64 < l.length) = false := decide_eq_false h2
    have HMV : Hid (mayV s l = mayCs l) := Lib.hid (by rw [HMV.out, decide_eq_true (show 1 ≤ l.length by omega), decide_eq_true (show l.length ≤ 64 by omega)]; rfl)
    have hl64 : l.length ≤ 64 := by omega
    clear h1 h2
    go_enter Tryd.func21, Tryd.ntmps21
    go_wp2_with (first
      | ((with_reducible refine (HN.out _).mono ?_); rintro e w1 ⟨rfl, hb1⟩; have HB1 := Lib.hid (below_new hb1); have HX := Lib.hid (blk hb1 (lt_blk HX0.out) HX0.out); have y0 := cell_blk HX.out 0; have y1 := cell_blk HX.out 1; clear hb1)
      | fail)
    clear t1 t1' t2 t2' z0 z1
    go_loopw [3, 4, 24] (fun _ _ i wr => ∃ k : Nat, k ≤ l.length ∧ i = .int .i64 k ∧ (∀ j, j < k → okAt l j = true) ∧ Below w1.heap.size w1 wr) (fun _ _ i _ => l.length - (intOf i).toNat)
    case atStart => exact ⟨0, Nat.zero_le _, rfl, fun j hj => absurd hj (Nat.not_lt_zero _), Below.refl _ _⟩
    case round =>
      obtain ⟨k, hk, rfl, hok, hbel⟩ := hrel
      have HXR := Lib.hid (blk hbel (lt_blk HX.out) HX.out)
      have HBEL := Lib.hid (HB1.out.trans (hbel.mono HB1.out.size))
      have HBL := Lib.hid hbel
      clear hbel y0 y1
      by_cases hlt : k < l.length
      · obtain ⟨b, off, rfl, hb, hp⟩ := cl_at HS.out hlt
        obtain ⟨d0, d1, d2, d3⟩ := hp.below hb HBEL.out
        have HKL := Lib.hid hlt
        have HOK := Lib.hid hok
        have hki : ((k : Nat) : Int) < (l.length : Int) := by omega
        have y1 := cell_blk HXR.out 1
        clear hok hp
        rcases k with - | m
        · have t9 : ((0 : Nat) : Int) = 0 := rfl
          rw [t9]
          simp only [Nat.zero_mul, Nat.add_zero] at d0 d1 d2 d3
          clear hb
          have HR0 := Lib.hid (okAt_zero hlt)
          generalize l[0] = x at *
          obtain ⟨cp, cc, ca, cd⟩ := x
          have HC := Lib.hid (heap_alloc_new wr (.cells (Cl.cells ⟨cp, cc, ca, cd⟩) 39))
          have HBX := Lib.hid (blk (one_below wr (.cells (Cl.cells ⟨cp, cc, ca, cd⟩) 39)) (lt_blk HXR.out) HXR.out)
          have HBE := Lib.hid (HBL.out.alloc HBL.out.size (.cells (Cl.cells ⟨cp, cc, ca, cd⟩) 39))
          obtain ⟨x0, x1, x2, x3⟩ := cl_box (x := ⟨cp, cc, ca, cd⟩) HC.out
          have y1 := cell_blk HBX.out 1
          simp only [Cl.cells] at d0 d1 d2 d3 HC HBX HBE x0 x1 x2 x3 y1
          have H1 := Lib.hid (fun W => markName_any cp W)
          have H2 := Lib.hid (fun W => day_any cc W)
          have H3 := Lib.hid (fun W => day_any ca W)
          have H4 := Lib.hid (fun W => day_any cd W)
          simp only [okC] at HR0
          generalize nameOk cp = b1 at *
          generalize dayB cc = b2 at *
          generalize dayB ca = b3 at *
          generalize dayB cd = b4 at *
          obtain ⟨b5, t5⟩ : ∃ b, decide (cd < ca) = b := ⟨_, rfl⟩
          obtain ⟨b6, t6⟩ : ∃ b, decide (cd < cc) = b := ⟨_, rfl⟩
          rw [show decide (ca ≤ cd) = !decide (cd < ca) by rw [← decide_not]; exact decide_eq_decide.2 (by omega), show decide (cc ≤ cd) = !decide (cd < cc) by rw [← decide_not]; exact decide_eq_decide.2 (by omega), t5, t6] at HR0
          have HR := Lib.hid HR0.out
          clear HR0
          cases b1
          case false =>
            go_wp2_with (first
              | ((with_reducible refine (H1.out _).mono ?_); rintro e wa ⟨rfl, hba⟩; have HBX := Lib.hid (blk hba (lt_blk HBX.out) HBX.out); have HC := Lib.hid (blk hba (lt_blk HC.out) HC.out); have HBE := Lib.hid (HBE.out.trans (hba.mono HBE.out.size)); obtain ⟨x0, x1, x2, x3⟩ := cl_box (x := ⟨cp, cc, ca, cd⟩) HC.out; have y1 := cell_blk HBX.out 1; clear hba)
              | ((with_reducible refine (H2.out _).mono ?_); rintro e wb ⟨rfl, hbb⟩; have HBX := Lib.hid (blk hbb (lt_blk HBX.out) HBX.out); have HC := Lib.hid (blk hbb (lt_blk HC.out) HC.out); have HBE := Lib.hid (HBE.out.trans (hbb.mono HBE.out.size)); obtain ⟨x0, x1, x2, x3⟩ := cl_box (x := ⟨cp, cc, ca, cd⟩) HC.out; have y1 := cell_blk HBX.out 1; clear hbb)
              | ((with_reducible refine (H3.out _).mono ?_); rintro e wc ⟨rfl, hbc⟩; have HBX := Lib.hid (blk hbc (lt_blk HBX.out) HBX.out); have HC := Lib.hid (blk hbc (lt_blk HC.out) HC.out); have HBE := Lib.hid (HBE.out.trans (hbc.mono HBE.out.size)); obtain ⟨x0, x1, x2, x3⟩ := cl_box (x := ⟨cp, cc, ca, cd⟩) HC.out; have y1 := cell_blk HBX.out 1; clear hbc)
              | ((with_reducible refine (H4.out _).mono ?_); rintro e wd ⟨rfl, hbd⟩; have HBX := Lib.hid (blk hbd (lt_blk HBX.out) HBX.out); have HC := Lib.hid (blk hbd (lt_blk HC.out) HC.out); have HBE := Lib.hid (HBE.out.trans (hbd.mono HBE.out.size)); obtain ⟨x0, x1, x2, x3⟩ := cl_box (x := ⟨cp, cc, ca, cd⟩) HC.out; have y1 := cell_blk HBX.out 1; clear hbd)
              | fail)
            go_ret
            exact retB (HMV.out.trans (mayCs_bad HKL.out (by simpa using HR.out))).symm (HB1.out.trans (HBE.out.mono HB1.out.size))
          case true =>
            cases b2
            case false =>
              go_wp2_with (first
                | ((with_reducible refine (H1.out _).mono ?_); rintro e wa ⟨rfl, hba⟩; have HBX := Lib.hid (blk hba (lt_blk HBX.out) HBX.out); have HC := Lib.hid (blk hba (lt_blk HC.out) HC.out); have HBE := Lib.hid (HBE.out.trans (hba.mono HBE.out.size)); obtain ⟨x0, x1, x2, x3⟩ := cl_box (x := ⟨cp, cc, ca, cd⟩) HC.out; have y1 := cell_blk HBX.out 1; clear hba)
                | ((with_reducible refine (H2.out _).mono ?_); rintro e wb ⟨rfl, hbb⟩; have HBX := Lib.hid (blk hbb (lt_blk HBX.out) HBX.out); have HC := Lib.hid (blk hbb (lt_blk HC.out) HC.out); have HBE := Lib.hid (HBE.out.trans (hbb.mono HBE.out.size)); obtain ⟨x0, x1, x2, x3⟩ := cl_box (x := ⟨cp, cc, ca, cd⟩) HC.out; have y1 := cell_blk HBX.out 1; clear hbb)
                | ((with_reducible refine (H3.out _).mono ?_); rintro e wc ⟨rfl, hbc⟩; have HBX := Lib.hid (blk hbc (lt_blk HBX.out) HBX.out); have HC := Lib.hid (blk hbc (lt_blk HC.out) HC.out); have HBE := Lib.hid (HBE.out.trans (hbc.mono HBE.out.size)); obtain ⟨x0, x1, x2, x3⟩ := cl_box (x := ⟨cp, cc, ca, cd⟩) HC.out; have y1 := cell_blk HBX.out 1; clear hbc)
                | ((with_reducible refine (H4.out _).mono ?_); rintro e wd ⟨rfl, hbd⟩; have HBX := Lib.hid (blk hbd (lt_blk HBX.out) HBX.out); have HC := Lib.hid (blk hbd (lt_blk HC.out) HC.out); have HBE := Lib.hid (HBE.out.trans (hbd.mono HBE.out.size)); obtain ⟨x0, x1, x2, x3⟩ := cl_box (x := ⟨cp, cc, ca, cd⟩) HC.out; have y1 := cell_blk HBX.out 1; clear hbd)
                | fail)
              go_ret
              exact retB (HMV.out.trans (mayCs_bad HKL.out (by simpa using HR.out))).symm (HB1.out.trans (HBE.out.mono HB1.out.size))
            case true =>
              cases b3
              case false =>
                go_wp2_with (first
                  | ((with_reducible refine (H1.out _).mono ?_); rintro e wa ⟨rfl, hba⟩; have HBX := Lib.hid (blk hba (lt_blk HBX.out) HBX.out); have HC := Lib.hid (blk hba (lt_blk HC.out) HC.out); have HBE := Lib.hid (HBE.out.trans (hba.mono HBE.out.size)); obtain ⟨x0, x1, x2, x3⟩ := cl_box (x := ⟨cp, cc, ca, cd⟩) HC.out; have y1 := cell_blk HBX.out 1; clear hba)
                  | ((with_reducible refine (H2.out _).mono ?_); rintro e wb ⟨rfl, hbb⟩; have HBX := Lib.hid (blk hbb (lt_blk HBX.out) HBX.out); have HC := Lib.hid (blk hbb (lt_blk HC.out) HC.out); have HBE := Lib.hid (HBE.out.trans (hbb.mono HBE.out.size)); obtain ⟨x0, x1, x2, x3⟩ := cl_box (x := ⟨cp, cc, ca, cd⟩) HC.out; have y1 := cell_blk HBX.out 1; clear hbb)
                  | ((with_reducible refine (H3.out _).mono ?_); rintro e wc ⟨rfl, hbc⟩; have HBX := Lib.hid (blk hbc (lt_blk HBX.out) HBX.out); have HC := Lib.hid (blk hbc (lt_blk HC.out) HC.out); have HBE := Lib.hid (HBE.out.trans (hbc.mono HBE.out.size)); obtain ⟨x0, x1, x2, x3⟩ := cl_box (x := ⟨cp, cc, ca, cd⟩) HC.out; have y1 := cell_blk HBX.out 1; clear hbc)
                  | ((with_reducible refine (H4.out _).mono ?_); rintro e wd ⟨rfl, hbd⟩; have HBX := Lib.hid (blk hbd (lt_blk HBX.out) HBX.out); have HC := Lib.hid (blk hbd (lt_blk HC.out) HC.out); have HBE := Lib.hid (HBE.out.trans (hbd.mono HBE.out.size)); obtain ⟨x0, x1, x2, x3⟩ := cl_box (x := ⟨cp, cc, ca, cd⟩) HC.out; have y1 := cell_blk HBX.out 1; clear hbd)
                  | fail)
                go_ret
                exact retB (HMV.out.trans (mayCs_bad HKL.out (by simpa using HR.out))).symm (HB1.out.trans (HBE.out.mono HB1.out.size))
              case true =>
                cases b4
                case false =>
                  go_wp2_with (first
                    | ((with_reducible refine (H1.out _).mono ?_); rintro e wa ⟨rfl, hba⟩; have HBX := Lib.hid (blk hba (lt_blk HBX.out) HBX.out); have HC := Lib.hid (blk hba (lt_blk HC.out) HC.out); have HBE := Lib.hid (HBE.out.trans (hba.mono HBE.out.size)); obtain ⟨x0, x1, x2, x3⟩ := cl_box (x := ⟨cp, cc, ca, cd⟩) HC.out; have y1 := cell_blk HBX.out 1; clear hba)
                    | ((with_reducible refine (H2.out _).mono ?_); rintro e wb ⟨rfl, hbb⟩; have HBX := Lib.hid (blk hbb (lt_blk HBX.out) HBX.out); have HC := Lib.hid (blk hbb (lt_blk HC.out) HC.out); have HBE := Lib.hid (HBE.out.trans (hbb.mono HBE.out.size)); obtain ⟨x0, x1, x2, x3⟩ := cl_box (x := ⟨cp, cc, ca, cd⟩) HC.out; have y1 := cell_blk HBX.out 1; clear hbb)
                    | ((with_reducible refine (H3.out _).mono ?_); rintro e wc ⟨rfl, hbc⟩; have HBX := Lib.hid (blk hbc (lt_blk HBX.out) HBX.out); have HC := Lib.hid (blk hbc (lt_blk HC.out) HC.out); have HBE := Lib.hid (HBE.out.trans (hbc.mono HBE.out.size)); obtain ⟨x0, x1, x2, x3⟩ := cl_box (x := ⟨cp, cc, ca, cd⟩) HC.out; have y1 := cell_blk HBX.out 1; clear hbc)
                    | ((with_reducible refine (H4.out _).mono ?_); rintro e wd ⟨rfl, hbd⟩; have HBX := Lib.hid (blk hbd (lt_blk HBX.out) HBX.out); have HC := Lib.hid (blk hbd (lt_blk HC.out) HC.out); have HBE := Lib.hid (HBE.out.trans (hbd.mono HBE.out.size)); obtain ⟨x0, x1, x2, x3⟩ := cl_box (x := ⟨cp, cc, ca, cd⟩) HC.out; have y1 := cell_blk HBX.out 1; clear hbd)
                    | fail)
                  go_ret
                  exact retB (HMV.out.trans (mayCs_bad HKL.out (by simpa using HR.out))).symm (HB1.out.trans (HBE.out.mono HB1.out.size))
                case true =>
                  cases b5
                  case true =>
                    go_wp2_with (first
                      | ((with_reducible refine (H1.out _).mono ?_); rintro e wa ⟨rfl, hba⟩; have HBX := Lib.hid (blk hba (lt_blk HBX.out) HBX.out); have HC := Lib.hid (blk hba (lt_blk HC.out) HC.out); have HBE := Lib.hid (HBE.out.trans (hba.mono HBE.out.size)); obtain ⟨x0, x1, x2, x3⟩ := cl_box (x := ⟨cp, cc, ca, cd⟩) HC.out; have y1 := cell_blk HBX.out 1; clear hba)
                      | ((with_reducible refine (H2.out _).mono ?_); rintro e wb ⟨rfl, hbb⟩; have HBX := Lib.hid (blk hbb (lt_blk HBX.out) HBX.out); have HC := Lib.hid (blk hbb (lt_blk HC.out) HC.out); have HBE := Lib.hid (HBE.out.trans (hbb.mono HBE.out.size)); obtain ⟨x0, x1, x2, x3⟩ := cl_box (x := ⟨cp, cc, ca, cd⟩) HC.out; have y1 := cell_blk HBX.out 1; clear hbb)
                      | ((with_reducible refine (H3.out _).mono ?_); rintro e wc ⟨rfl, hbc⟩; have HBX := Lib.hid (blk hbc (lt_blk HBX.out) HBX.out); have HC := Lib.hid (blk hbc (lt_blk HC.out) HC.out); have HBE := Lib.hid (HBE.out.trans (hbc.mono HBE.out.size)); obtain ⟨x0, x1, x2, x3⟩ := cl_box (x := ⟨cp, cc, ca, cd⟩) HC.out; have y1 := cell_blk HBX.out 1; clear hbc)
                      | ((with_reducible refine (H4.out _).mono ?_); rintro e wd ⟨rfl, hbd⟩; have HBX := Lib.hid (blk hbd (lt_blk HBX.out) HBX.out); have HC := Lib.hid (blk hbd (lt_blk HC.out) HC.out); have HBE := Lib.hid (HBE.out.trans (hbd.mono HBE.out.size)); obtain ⟨x0, x1, x2, x3⟩ := cl_box (x := ⟨cp, cc, ca, cd⟩) HC.out; have y1 := cell_blk HBX.out 1; clear hbd)
                      | fail)
                    go_ret
                    exact retB (HMV.out.trans (mayCs_bad HKL.out (by simpa using HR.out))).symm (HB1.out.trans (HBE.out.mono HB1.out.size))
                  case false =>
                    cases b6
                    case true =>
                      go_wp2_with (first
                        | ((with_reducible refine (H1.out _).mono ?_); rintro e wa ⟨rfl, hba⟩; have HBX := Lib.hid (blk hba (lt_blk HBX.out) HBX.out); have HC := Lib.hid (blk hba (lt_blk HC.out) HC.out); have HBE := Lib.hid (HBE.out.trans (hba.mono HBE.out.size)); obtain ⟨x0, x1, x2, x3⟩ := cl_box (x := ⟨cp, cc, ca, cd⟩) HC.out; have y1 := cell_blk HBX.out 1; clear hba)
                        | ((with_reducible refine (H2.out _).mono ?_); rintro e wb ⟨rfl, hbb⟩; have HBX := Lib.hid (blk hbb (lt_blk HBX.out) HBX.out); have HC := Lib.hid (blk hbb (lt_blk HC.out) HC.out); have HBE := Lib.hid (HBE.out.trans (hbb.mono HBE.out.size)); obtain ⟨x0, x1, x2, x3⟩ := cl_box (x := ⟨cp, cc, ca, cd⟩) HC.out; have y1 := cell_blk HBX.out 1; clear hbb)
                        | ((with_reducible refine (H3.out _).mono ?_); rintro e wc ⟨rfl, hbc⟩; have HBX := Lib.hid (blk hbc (lt_blk HBX.out) HBX.out); have HC := Lib.hid (blk hbc (lt_blk HC.out) HC.out); have HBE := Lib.hid (HBE.out.trans (hbc.mono HBE.out.size)); obtain ⟨x0, x1, x2, x3⟩ := cl_box (x := ⟨cp, cc, ca, cd⟩) HC.out; have y1 := cell_blk HBX.out 1; clear hbc)
                        | ((with_reducible refine (H4.out _).mono ?_); rintro e wd ⟨rfl, hbd⟩; have HBX := Lib.hid (blk hbd (lt_blk HBX.out) HBX.out); have HC := Lib.hid (blk hbd (lt_blk HC.out) HC.out); have HBE := Lib.hid (HBE.out.trans (hbd.mono HBE.out.size)); obtain ⟨x0, x1, x2, x3⟩ := cl_box (x := ⟨cp, cc, ca, cd⟩) HC.out; have y1 := cell_blk HBX.out 1; clear hbd)
                        | fail)
                      go_ret
                      exact retB (HMV.out.trans (mayCs_bad HKL.out (by simpa using HR.out))).symm (HB1.out.trans (HBE.out.mono HB1.out.size))
                    case false =>
                      go_wp2_with (first
                        | ((with_reducible refine (H1.out _).mono ?_); rintro e wa ⟨rfl, hba⟩; have HBX := Lib.hid (blk hba (lt_blk HBX.out) HBX.out); have HC := Lib.hid (blk hba (lt_blk HC.out) HC.out); have HBE := Lib.hid (HBE.out.trans (hba.mono HBE.out.size)); obtain ⟨x0, x1, x2, x3⟩ := cl_box (x := ⟨cp, cc, ca, cd⟩) HC.out; have y1 := cell_blk HBX.out 1; clear hba)
                        | ((with_reducible refine (H2.out _).mono ?_); rintro e wb ⟨rfl, hbb⟩; have HBX := Lib.hid (blk hbb (lt_blk HBX.out) HBX.out); have HC := Lib.hid (blk hbb (lt_blk HC.out) HC.out); have HBE := Lib.hid (HBE.out.trans (hbb.mono HBE.out.size)); obtain ⟨x0, x1, x2, x3⟩ := cl_box (x := ⟨cp, cc, ca, cd⟩) HC.out; have y1 := cell_blk HBX.out 1; clear hbb)
                        | ((with_reducible refine (H3.out _).mono ?_); rintro e wc ⟨rfl, hbc⟩; have HBX := Lib.hid (blk hbc (lt_blk HBX.out) HBX.out); have HC := Lib.hid (blk hbc (lt_blk HC.out) HC.out); have HBE := Lib.hid (HBE.out.trans (hbc.mono HBE.out.size)); obtain ⟨x0, x1, x2, x3⟩ := cl_box (x := ⟨cp, cc, ca, cd⟩) HC.out; have y1 := cell_blk HBX.out 1; clear hbc)
                        | ((with_reducible refine (H4.out _).mono ?_); rintro e wd ⟨rfl, hbd⟩; have HBX := Lib.hid (blk hbd (lt_blk HBX.out) HBX.out); have HC := Lib.hid (blk hbd (lt_blk HC.out) HC.out); have HBE := Lib.hid (HBE.out.trans (hbd.mono HBE.out.size)); obtain ⟨x0, x1, x2, x3⟩ := cl_box (x := ⟨cp, cc, ca, cd⟩) HC.out; have y1 := cell_blk HBX.out 1; clear hbd)
                        | fail)
                      go_quiet (fail)
                      go_wp2_with fail
                      go_roundw
                      case rel => exact ⟨1, HKL.out, by go_num, fun j hj => by
                        obtain rfl : j = 0 := by omega
                        simpa using HR.out, below_drewN HBE.out _⟩
                      case measure => (simp [intOf]) <;> omega
        · have HPM : Hid (∀ W, Below w.heap.size w W → ClAt W b (off + m * 4) (l[m]'(by omega))) := Lib.hid (fun W hW => by
            obtain ⟨b', off', he', hb', hp'⟩ := cl_at HS.out (k := m) (by omega)
            simp only [Option.some.injEq, Addr.mk.injEq, and_true] at he'
            obtain ⟨rfl, rfl⟩ := he'
            exact hp'.below hb' hW)
          have t9 : ((m + 1 : Nat) : Int) = (m : Int) + 1 := rfl
          rw [t9]
          have hm1 : (m : Int) + 1 < (l.length : Int) := by omega
          have hm2 : (m : Int) < (l.length : Int) := by omega
          have hm3 : (0 : Int) < (m : Int) + 1 := by omega
          clear hb hki
          have HR0 := Lib.hid (okAt_succ hlt)
          generalize l[m + 1] = x at *
          obtain ⟨cp, cc, ca, cd⟩ := x
          have HC := Lib.hid (heap_alloc_new wr (.cells (Cl.cells ⟨cp, cc, ca, cd⟩) 39))
          have HBX := Lib.hid (blk (one_below wr (.cells (Cl.cells ⟨cp, cc, ca, cd⟩) 39)) (lt_blk HXR.out) HXR.out)
          have HBE := Lib.hid (HBL.out.alloc HBL.out.size (.cells (Cl.cells ⟨cp, cc, ca, cd⟩) 39))
          obtain ⟨x0, x1, x2, x3⟩ := cl_box (x := ⟨cp, cc, ca, cd⟩) HC.out
          have y1 := cell_blk HBX.out 1
          generalize l[m]'(by omega) = z at *
          obtain ⟨zp, zc, za, zd⟩ := z
          obtain ⟨p0, p1, p2, p3⟩ := HPM.out _ (HB1.out.trans (HBE.out.mono HB1.out.size))
          simp only [Cl.cells, ClAt] at d0 d1 d2 d3 HC HBX HBE x0 x1 x2 x3 y1 p0 p1 p2 p3 HPM
          have H1 := Lib.hid (fun W => markName_any cp W)
          have H2 := Lib.hid (fun W => day_any cc W)
          have H3 := Lib.hid (fun W => day_any ca W)
          have H4 := Lib.hid (fun W => day_any cd W)
          simp only [okC, adjC] at HR0
          generalize nameOk cp = b1 at *
          generalize dayB cc = b2 at *
          generalize dayB ca = b3 at *
          generalize dayB cd = b4 at *
          obtain ⟨b5, t5⟩ : ∃ b, decide (cd < ca) = b := ⟨_, rfl⟩
          obtain ⟨b6, t6⟩ : ∃ b, decide (cd < cc) = b := ⟨_, rfl⟩
          rw [show decide (ca ≤ cd) = !decide (cd < ca) by rw [← decide_not]; exact decide_eq_decide.2 (by omega), show decide (cc ≤ cd) = !decide (cd < cc) by rw [← decide_not]; exact decide_eq_decide.2 (by omega), t5, t6] at HR0
          have t7 := str_beq cp zp
          obtain ⟨b8, t8⟩ : ∃ b, decide (ca < zd) = b := ⟨_, rfl⟩
          rw [show decide (zd ≤ ca) = !decide (ca < zd) by rw [← decide_not]; exact decide_eq_decide.2 (by omega), t8] at HR0
          generalize decide (cp = zp) = b7 at *
          have HR := Lib.hid HR0.out
          clear HR0
          cases b1
          case false =>
            go_wp2_with (first
              | ((with_reducible refine (H1.out _).mono ?_); rintro e wa ⟨rfl, hba⟩; have HBX := Lib.hid (blk hba (lt_blk HBX.out) HBX.out); have HC := Lib.hid (blk hba (lt_blk HC.out) HC.out); have HBE := Lib.hid (HBE.out.trans (hba.mono HBE.out.size)); obtain ⟨x0, x1, x2, x3⟩ := cl_box (x := ⟨cp, cc, ca, cd⟩) HC.out; have y1 := cell_blk HBX.out 1; obtain ⟨p0, p1, p2, p3⟩ := HPM.out _ (HB1.out.trans (HBE.out.mono HB1.out.size)); clear hba)
              | ((with_reducible refine (H2.out _).mono ?_); rintro e wb ⟨rfl, hbb⟩; have HBX := Lib.hid (blk hbb (lt_blk HBX.out) HBX.out); have HC := Lib.hid (blk hbb (lt_blk HC.out) HC.out); have HBE := Lib.hid (HBE.out.trans (hbb.mono HBE.out.size)); obtain ⟨x0, x1, x2, x3⟩ := cl_box (x := ⟨cp, cc, ca, cd⟩) HC.out; have y1 := cell_blk HBX.out 1; obtain ⟨p0, p1, p2, p3⟩ := HPM.out _ (HB1.out.trans (HBE.out.mono HB1.out.size)); clear hbb)
              | ((with_reducible refine (H3.out _).mono ?_); rintro e wc ⟨rfl, hbc⟩; have HBX := Lib.hid (blk hbc (lt_blk HBX.out) HBX.out); have HC := Lib.hid (blk hbc (lt_blk HC.out) HC.out); have HBE := Lib.hid (HBE.out.trans (hbc.mono HBE.out.size)); obtain ⟨x0, x1, x2, x3⟩ := cl_box (x := ⟨cp, cc, ca, cd⟩) HC.out; have y1 := cell_blk HBX.out 1; obtain ⟨p0, p1, p2, p3⟩ := HPM.out _ (HB1.out.trans (HBE.out.mono HB1.out.size)); clear hbc)
              | ((with_reducible refine (H4.out _).mono ?_); rintro e wd ⟨rfl, hbd⟩; have HBX := Lib.hid (blk hbd (lt_blk HBX.out) HBX.out); have HC := Lib.hid (blk hbd (lt_blk HC.out) HC.out); have HBE := Lib.hid (HBE.out.trans (hbd.mono HBE.out.size)); obtain ⟨x0, x1, x2, x3⟩ := cl_box (x := ⟨cp, cc, ca, cd⟩) HC.out; have y1 := cell_blk HBX.out 1; obtain ⟨p0, p1, p2, p3⟩ := HPM.out _ (HB1.out.trans (HBE.out.mono HB1.out.size)); clear hbd)
              | fail)
            go_ret
            exact retB (HMV.out.trans (mayCs_bad HKL.out (by simpa using HR.out))).symm (HB1.out.trans (HBE.out.mono HB1.out.size))
          case true =>
            cases b2
            case false =>
              go_wp2_with (first
                | ((with_reducible refine (H1.out _).mono ?_); rintro e wa ⟨rfl, hba⟩; have HBX := Lib.hid (blk hba (lt_blk HBX.out) HBX.out); have HC := Lib.hid (blk hba (lt_blk HC.out) HC.out); have HBE := Lib.hid (HBE.out.trans (hba.mono HBE.out.size)); obtain ⟨x0, x1, x2, x3⟩ := cl_box (x := ⟨cp, cc, ca, cd⟩) HC.out; have y1 := cell_blk HBX.out 1; obtain ⟨p0, p1, p2, p3⟩ := HPM.out _ (HB1.out.trans (HBE.out.mono HB1.out.size)); clear hba)
                | ((with_reducible refine (H2.out _).mono ?_); rintro e wb ⟨rfl, hbb⟩; have HBX := Lib.hid (blk hbb (lt_blk HBX.out) HBX.out); have HC := Lib.hid (blk hbb (lt_blk HC.out) HC.out); have HBE := Lib.hid (HBE.out.trans (hbb.mono HBE.out.size)); obtain ⟨x0, x1, x2, x3⟩ := cl_box (x := ⟨cp, cc, ca, cd⟩) HC.out; have y1 := cell_blk HBX.out 1; obtain ⟨p0, p1, p2, p3⟩ := HPM.out _ (HB1.out.trans (HBE.out.mono HB1.out.size)); clear hbb)
                | ((with_reducible refine (H3.out _).mono ?_); rintro e wc ⟨rfl, hbc⟩; have HBX := Lib.hid (blk hbc (lt_blk HBX.out) HBX.out); have HC := Lib.hid (blk hbc (lt_blk HC.out) HC.out); have HBE := Lib.hid (HBE.out.trans (hbc.mono HBE.out.size)); obtain ⟨x0, x1, x2, x3⟩ := cl_box (x := ⟨cp, cc, ca, cd⟩) HC.out; have y1 := cell_blk HBX.out 1; obtain ⟨p0, p1, p2, p3⟩ := HPM.out _ (HB1.out.trans (HBE.out.mono HB1.out.size)); clear hbc)
                | ((with_reducible refine (H4.out _).mono ?_); rintro e wd ⟨rfl, hbd⟩; have HBX := Lib.hid (blk hbd (lt_blk HBX.out) HBX.out); have HC := Lib.hid (blk hbd (lt_blk HC.out) HC.out); have HBE := Lib.hid (HBE.out.trans (hbd.mono HBE.out.size)); obtain ⟨x0, x1, x2, x3⟩ := cl_box (x := ⟨cp, cc, ca, cd⟩) HC.out; have y1 := cell_blk HBX.out 1; obtain ⟨p0, p1, p2, p3⟩ := HPM.out _ (HB1.out.trans (HBE.out.mono HB1.out.size)); clear hbd)
                | fail)
              go_ret
              exact retB (HMV.out.trans (mayCs_bad HKL.out (by simpa using HR.out))).symm (HB1.out.trans (HBE.out.mono HB1.out.size))
            case true =>
              cases b3
              case false =>
                go_wp2_with (first
                  | ((with_reducible refine (H1.out _).mono ?_); rintro e wa ⟨rfl, hba⟩; have HBX := Lib.hid (blk hba (lt_blk HBX.out) HBX.out); have HC := Lib.hid (blk hba (lt_blk HC.out) HC.out); have HBE := Lib.hid (HBE.out.trans (hba.mono HBE.out.size)); obtain ⟨x0, x1, x2, x3⟩ := cl_box (x := ⟨cp, cc, ca, cd⟩) HC.out; have y1 := cell_blk HBX.out 1; obtain ⟨p0, p1, p2, p3⟩ := HPM.out _ (HB1.out.trans (HBE.out.mono HB1.out.size)); clear hba)
                  | ((with_reducible refine (H2.out _).mono ?_); rintro e wb ⟨rfl, hbb⟩; have HBX := Lib.hid (blk hbb (lt_blk HBX.out) HBX.out); have HC := Lib.hid (blk hbb (lt_blk HC.out) HC.out); have HBE := Lib.hid (HBE.out.trans (hbb.mono HBE.out.size)); obtain ⟨x0, x1, x2, x3⟩ := cl_box (x := ⟨cp, cc, ca, cd⟩) HC.out; have y1 := cell_blk HBX.out 1; obtain ⟨p0, p1, p2, p3⟩ := HPM.out _ (HB1.out.trans (HBE.out.mono HB1.out.size)); clear hbb)
                  | ((with_reducible refine (H3.out _).mono ?_); rintro e wc ⟨rfl, hbc⟩; have HBX := Lib.hid (blk hbc (lt_blk HBX.out) HBX.out); have HC := Lib.hid (blk hbc (lt_blk HC.out) HC.out); have HBE := Lib.hid (HBE.out.trans (hbc.mono HBE.out.size)); obtain ⟨x0, x1, x2, x3⟩ := cl_box (x := ⟨cp, cc, ca, cd⟩) HC.out; have y1 := cell_blk HBX.out 1; obtain ⟨p0, p1, p2, p3⟩ := HPM.out _ (HB1.out.trans (HBE.out.mono HB1.out.size)); clear hbc)
                  | ((with_reducible refine (H4.out _).mono ?_); rintro e wd ⟨rfl, hbd⟩; have HBX := Lib.hid (blk hbd (lt_blk HBX.out) HBX.out); have HC := Lib.hid (blk hbd (lt_blk HC.out) HC.out); have HBE := Lib.hid (HBE.out.trans (hbd.mono HBE.out.size)); obtain ⟨x0, x1, x2, x3⟩ := cl_box (x := ⟨cp, cc, ca, cd⟩) HC.out; have y1 := cell_blk HBX.out 1; obtain ⟨p0, p1, p2, p3⟩ := HPM.out _ (HB1.out.trans (HBE.out.mono HB1.out.size)); clear hbd)
                  | fail)
                go_ret
                exact retB (HMV.out.trans (mayCs_bad HKL.out (by simpa using HR.out))).symm (HB1.out.trans (HBE.out.mono HB1.out.size))
              case true =>
                cases b4
                case false =>
                  go_wp2_with (first
                    | ((with_reducible refine (H1.out _).mono ?_); rintro e wa ⟨rfl, hba⟩; have HBX := Lib.hid (blk hba (lt_blk HBX.out) HBX.out); have HC := Lib.hid (blk hba (lt_blk HC.out) HC.out); have HBE := Lib.hid (HBE.out.trans (hba.mono HBE.out.size)); obtain ⟨x0, x1, x2, x3⟩ := cl_box (x := ⟨cp, cc, ca, cd⟩) HC.out; have y1 := cell_blk HBX.out 1; obtain ⟨p0, p1, p2, p3⟩ := HPM.out _ (HB1.out.trans (HBE.out.mono HB1.out.size)); clear hba)
                    | ((with_reducible refine (H2.out _).mono ?_); rintro e wb ⟨rfl, hbb⟩; have HBX := Lib.hid (blk hbb (lt_blk HBX.out) HBX.out); have HC := Lib.hid (blk hbb (lt_blk HC.out) HC.out); have HBE := Lib.hid (HBE.out.trans (hbb.mono HBE.out.size)); obtain ⟨x0, x1, x2, x3⟩ := cl_box (x := ⟨cp, cc, ca, cd⟩) HC.out; have y1 := cell_blk HBX.out 1; obtain ⟨p0, p1, p2, p3⟩ := HPM.out _ (HB1.out.trans (HBE.out.mono HB1.out.size)); clear hbb)
                    | ((with_reducible refine (H3.out _).mono ?_); rintro e wc ⟨rfl, hbc⟩; have HBX := Lib.hid (blk hbc (lt_blk HBX.out) HBX.out); have HC := Lib.hid (blk hbc (lt_blk HC.out) HC.out); have HBE := Lib.hid (HBE.out.trans (hbc.mono HBE.out.size)); obtain ⟨x0, x1, x2, x3⟩ := cl_box (x := ⟨cp, cc, ca, cd⟩) HC.out; have y1 := cell_blk HBX.out 1; obtain ⟨p0, p1, p2, p3⟩ := HPM.out _ (HB1.out.trans (HBE.out.mono HB1.out.size)); clear hbc)
                    | ((with_reducible refine (H4.out _).mono ?_); rintro e wd ⟨rfl, hbd⟩; have HBX := Lib.hid (blk hbd (lt_blk HBX.out) HBX.out); have HC := Lib.hid (blk hbd (lt_blk HC.out) HC.out); have HBE := Lib.hid (HBE.out.trans (hbd.mono HBE.out.size)); obtain ⟨x0, x1, x2, x3⟩ := cl_box (x := ⟨cp, cc, ca, cd⟩) HC.out; have y1 := cell_blk HBX.out 1; obtain ⟨p0, p1, p2, p3⟩ := HPM.out _ (HB1.out.trans (HBE.out.mono HB1.out.size)); clear hbd)
                    | fail)
                  go_ret
                  exact retB (HMV.out.trans (mayCs_bad HKL.out (by simpa using HR.out))).symm (HB1.out.trans (HBE.out.mono HB1.out.size))
                case true =>
                  cases b5
                  case true =>
                    go_wp2_with (first
                      | ((with_reducible refine (H1.out _).mono ?_); rintro e wa ⟨rfl, hba⟩; have HBX := Lib.hid (blk hba (lt_blk HBX.out) HBX.out); have HC := Lib.hid (blk hba (lt_blk HC.out) HC.out); have HBE := Lib.hid (HBE.out.trans (hba.mono HBE.out.size)); obtain ⟨x0, x1, x2, x3⟩ := cl_box (x := ⟨cp, cc, ca, cd⟩) HC.out; have y1 := cell_blk HBX.out 1; obtain ⟨p0, p1, p2, p3⟩ := HPM.out _ (HB1.out.trans (HBE.out.mono HB1.out.size)); clear hba)
                      | ((with_reducible refine (H2.out _).mono ?_); rintro e wb ⟨rfl, hbb⟩; have HBX := Lib.hid (blk hbb (lt_blk HBX.out) HBX.out); have HC := Lib.hid (blk hbb (lt_blk HC.out) HC.out); have HBE := Lib.hid (HBE.out.trans (hbb.mono HBE.out.size)); obtain ⟨x0, x1, x2, x3⟩ := cl_box (x := ⟨cp, cc, ca, cd⟩) HC.out; have y1 := cell_blk HBX.out 1; obtain ⟨p0, p1, p2, p3⟩ := HPM.out _ (HB1.out.trans (HBE.out.mono HB1.out.size)); clear hbb)
                      | ((with_reducible refine (H3.out _).mono ?_); rintro e wc ⟨rfl, hbc⟩; have HBX := Lib.hid (blk hbc (lt_blk HBX.out) HBX.out); have HC := Lib.hid (blk hbc (lt_blk HC.out) HC.out); have HBE := Lib.hid (HBE.out.trans (hbc.mono HBE.out.size)); obtain ⟨x0, x1, x2, x3⟩ := cl_box (x := ⟨cp, cc, ca, cd⟩) HC.out; have y1 := cell_blk HBX.out 1; obtain ⟨p0, p1, p2, p3⟩ := HPM.out _ (HB1.out.trans (HBE.out.mono HB1.out.size)); clear hbc)
                      | ((with_reducible refine (H4.out _).mono ?_); rintro e wd ⟨rfl, hbd⟩; have HBX := Lib.hid (blk hbd (lt_blk HBX.out) HBX.out); have HC := Lib.hid (blk hbd (lt_blk HC.out) HC.out); have HBE := Lib.hid (HBE.out.trans (hbd.mono HBE.out.size)); obtain ⟨x0, x1, x2, x3⟩ := cl_box (x := ⟨cp, cc, ca, cd⟩) HC.out; have y1 := cell_blk HBX.out 1; obtain ⟨p0, p1, p2, p3⟩ := HPM.out _ (HB1.out.trans (HBE.out.mono HB1.out.size)); clear hbd)
                      | fail)
                    go_ret
                    exact retB (HMV.out.trans (mayCs_bad HKL.out (by simpa using HR.out))).symm (HB1.out.trans (HBE.out.mono HB1.out.size))
                  case false =>
                    cases b6
                    case true =>
                      go_wp2_with (first
                        | ((with_reducible refine (H1.out _).mono ?_); rintro e wa ⟨rfl, hba⟩; have HBX := Lib.hid (blk hba (lt_blk HBX.out) HBX.out); have HC := Lib.hid (blk hba (lt_blk HC.out) HC.out); have HBE := Lib.hid (HBE.out.trans (hba.mono HBE.out.size)); obtain ⟨x0, x1, x2, x3⟩ := cl_box (x := ⟨cp, cc, ca, cd⟩) HC.out; have y1 := cell_blk HBX.out 1; obtain ⟨p0, p1, p2, p3⟩ := HPM.out _ (HB1.out.trans (HBE.out.mono HB1.out.size)); clear hba)
                        | ((with_reducible refine (H2.out _).mono ?_); rintro e wb ⟨rfl, hbb⟩; have HBX := Lib.hid (blk hbb (lt_blk HBX.out) HBX.out); have HC := Lib.hid (blk hbb (lt_blk HC.out) HC.out); have HBE := Lib.hid (HBE.out.trans (hbb.mono HBE.out.size)); obtain ⟨x0, x1, x2, x3⟩ := cl_box (x := ⟨cp, cc, ca, cd⟩) HC.out; have y1 := cell_blk HBX.out 1; obtain ⟨p0, p1, p2, p3⟩ := HPM.out _ (HB1.out.trans (HBE.out.mono HB1.out.size)); clear hbb)
                        | ((with_reducible refine (H3.out _).mono ?_); rintro e wc ⟨rfl, hbc⟩; have HBX := Lib.hid (blk hbc (lt_blk HBX.out) HBX.out); have HC := Lib.hid (blk hbc (lt_blk HC.out) HC.out); have HBE := Lib.hid (HBE.out.trans (hbc.mono HBE.out.size)); obtain ⟨x0, x1, x2, x3⟩ := cl_box (x := ⟨cp, cc, ca, cd⟩) HC.out; have y1 := cell_blk HBX.out 1; obtain ⟨p0, p1, p2, p3⟩ := HPM.out _ (HB1.out.trans (HBE.out.mono HB1.out.size)); clear hbc)
                        | ((with_reducible refine (H4.out _).mono ?_); rintro e wd ⟨rfl, hbd⟩; have HBX := Lib.hid (blk hbd (lt_blk HBX.out) HBX.out); have HC := Lib.hid (blk hbd (lt_blk HC.out) HC.out); have HBE := Lib.hid (HBE.out.trans (hbd.mono HBE.out.size)); obtain ⟨x0, x1, x2, x3⟩ := cl_box (x := ⟨cp, cc, ca, cd⟩) HC.out; have y1 := cell_blk HBX.out 1; obtain ⟨p0, p1, p2, p3⟩ := HPM.out _ (HB1.out.trans (HBE.out.mono HB1.out.size)); clear hbd)
                        | fail)
                      go_ret
                      exact retB (HMV.out.trans (mayCs_bad HKL.out (by simpa using HR.out))).symm (HB1.out.trans (HBE.out.mono HB1.out.size))
                    case false =>
                      cases b7
                      case true =>
                        go_wp2_with (first
                          | ((with_reducible refine (H1.out _).mono ?_); rintro e wa ⟨rfl, hba⟩; have HBX := Lib.hid (blk hba (lt_blk HBX.out) HBX.out); have HC := Lib.hid (blk hba (lt_blk HC.out) HC.out); have HBE := Lib.hid (HBE.out.trans (hba.mono HBE.out.size)); obtain ⟨x0, x1, x2, x3⟩ := cl_box (x := ⟨cp, cc, ca, cd⟩) HC.out; have y1 := cell_blk HBX.out 1; obtain ⟨p0, p1, p2, p3⟩ := HPM.out _ (HB1.out.trans (HBE.out.mono HB1.out.size)); clear hba)
                          | ((with_reducible refine (H2.out _).mono ?_); rintro e wb ⟨rfl, hbb⟩; have HBX := Lib.hid (blk hbb (lt_blk HBX.out) HBX.out); have HC := Lib.hid (blk hbb (lt_blk HC.out) HC.out); have HBE := Lib.hid (HBE.out.trans (hbb.mono HBE.out.size)); obtain ⟨x0, x1, x2, x3⟩ := cl_box (x := ⟨cp, cc, ca, cd⟩) HC.out; have y1 := cell_blk HBX.out 1; obtain ⟨p0, p1, p2, p3⟩ := HPM.out _ (HB1.out.trans (HBE.out.mono HB1.out.size)); clear hbb)
                          | ((with_reducible refine (H3.out _).mono ?_); rintro e wc ⟨rfl, hbc⟩; have HBX := Lib.hid (blk hbc (lt_blk HBX.out) HBX.out); have HC := Lib.hid (blk hbc (lt_blk HC.out) HC.out); have HBE := Lib.hid (HBE.out.trans (hbc.mono HBE.out.size)); obtain ⟨x0, x1, x2, x3⟩ := cl_box (x := ⟨cp, cc, ca, cd⟩) HC.out; have y1 := cell_blk HBX.out 1; obtain ⟨p0, p1, p2, p3⟩ := HPM.out _ (HB1.out.trans (HBE.out.mono HB1.out.size)); clear hbc)
                          | ((with_reducible refine (H4.out _).mono ?_); rintro e wd ⟨rfl, hbd⟩; have HBX := Lib.hid (blk hbd (lt_blk HBX.out) HBX.out); have HC := Lib.hid (blk hbd (lt_blk HC.out) HC.out); have HBE := Lib.hid (HBE.out.trans (hbd.mono HBE.out.size)); obtain ⟨x0, x1, x2, x3⟩ := cl_box (x := ⟨cp, cc, ca, cd⟩) HC.out; have y1 := cell_blk HBX.out 1; obtain ⟨p0, p1, p2, p3⟩ := HPM.out _ (HB1.out.trans (HBE.out.mono HB1.out.size)); clear hbd)
                          | fail)
                        go_quiet (fail)
                        go_wp2_with fail
                        go_ret
                        exact retB (HMV.out.trans (mayCs_bad HKL.out (by simpa using HR.out))).symm (below_drewN (HB1.out.trans (HBE.out.mono HB1.out.size)) _)
                      case false =>
                        cases b8
                        case true =>
                          go_wp2_with (first
                            | ((with_reducible refine (H1.out _).mono ?_); rintro e wa ⟨rfl, hba⟩; have HBX := Lib.hid (blk hba (lt_blk HBX.out) HBX.out); have HC := Lib.hid (blk hba (lt_blk HC.out) HC.out); have HBE := Lib.hid (HBE.out.trans (hba.mono HBE.out.size)); obtain ⟨x0, x1, x2, x3⟩ := cl_box (x := ⟨cp, cc, ca, cd⟩) HC.out; have y1 := cell_blk HBX.out 1; obtain ⟨p0, p1, p2, p3⟩ := HPM.out _ (HB1.out.trans (HBE.out.mono HB1.out.size)); clear hba)
                            | ((with_reducible refine (H2.out _).mono ?_); rintro e wb ⟨rfl, hbb⟩; have HBX := Lib.hid (blk hbb (lt_blk HBX.out) HBX.out); have HC := Lib.hid (blk hbb (lt_blk HC.out) HC.out); have HBE := Lib.hid (HBE.out.trans (hbb.mono HBE.out.size)); obtain ⟨x0, x1, x2, x3⟩ := cl_box (x := ⟨cp, cc, ca, cd⟩) HC.out; have y1 := cell_blk HBX.out 1; obtain ⟨p0, p1, p2, p3⟩ := HPM.out _ (HB1.out.trans (HBE.out.mono HB1.out.size)); clear hbb)
                            | ((with_reducible refine (H3.out _).mono ?_); rintro e wc ⟨rfl, hbc⟩; have HBX := Lib.hid (blk hbc (lt_blk HBX.out) HBX.out); have HC := Lib.hid (blk hbc (lt_blk HC.out) HC.out); have HBE := Lib.hid (HBE.out.trans (hbc.mono HBE.out.size)); obtain ⟨x0, x1, x2, x3⟩ := cl_box (x := ⟨cp, cc, ca, cd⟩) HC.out; have y1 := cell_blk HBX.out 1; obtain ⟨p0, p1, p2, p3⟩ := HPM.out _ (HB1.out.trans (HBE.out.mono HB1.out.size)); clear hbc)
                            | ((with_reducible refine (H4.out _).mono ?_); rintro e wd ⟨rfl, hbd⟩; have HBX := Lib.hid (blk hbd (lt_blk HBX.out) HBX.out); have HC := Lib.hid (blk hbd (lt_blk HC.out) HC.out); have HBE := Lib.hid (HBE.out.trans (hbd.mono HBE.out.size)); obtain ⟨x0, x1, x2, x3⟩ := cl_box (x := ⟨cp, cc, ca, cd⟩) HC.out; have y1 := cell_blk HBX.out 1; obtain ⟨p0, p1, p2, p3⟩ := HPM.out _ (HB1.out.trans (HBE.out.mono HB1.out.size)); clear hbd)
                            | fail)
                          go_quiet (fail)
                          go_wp2_with fail
                          go_ret
                          exact retB (HMV.out.trans (mayCs_bad HKL.out (by simpa using HR.out))).symm (below_drewN (HB1.out.trans (HBE.out.mono HB1.out.size)) _)
                        case false =>
                          go_wp2_with (first
                            | ((with_reducible refine (H1.out _).mono ?_); rintro e wa ⟨rfl, hba⟩; have HBX := Lib.hid (blk hba (lt_blk HBX.out) HBX.out); have HC := Lib.hid (blk hba (lt_blk HC.out) HC.out); have HBE := Lib.hid (HBE.out.trans (hba.mono HBE.out.size)); obtain ⟨x0, x1, x2, x3⟩ := cl_box (x := ⟨cp, cc, ca, cd⟩) HC.out; have y1 := cell_blk HBX.out 1; obtain ⟨p0, p1, p2, p3⟩ := HPM.out _ (HB1.out.trans (HBE.out.mono HB1.out.size)); clear hba)
                            | ((with_reducible refine (H2.out _).mono ?_); rintro e wb ⟨rfl, hbb⟩; have HBX := Lib.hid (blk hbb (lt_blk HBX.out) HBX.out); have HC := Lib.hid (blk hbb (lt_blk HC.out) HC.out); have HBE := Lib.hid (HBE.out.trans (hbb.mono HBE.out.size)); obtain ⟨x0, x1, x2, x3⟩ := cl_box (x := ⟨cp, cc, ca, cd⟩) HC.out; have y1 := cell_blk HBX.out 1; obtain ⟨p0, p1, p2, p3⟩ := HPM.out _ (HB1.out.trans (HBE.out.mono HB1.out.size)); clear hbb)
                            | ((with_reducible refine (H3.out _).mono ?_); rintro e wc ⟨rfl, hbc⟩; have HBX := Lib.hid (blk hbc (lt_blk HBX.out) HBX.out); have HC := Lib.hid (blk hbc (lt_blk HC.out) HC.out); have HBE := Lib.hid (HBE.out.trans (hbc.mono HBE.out.size)); obtain ⟨x0, x1, x2, x3⟩ := cl_box (x := ⟨cp, cc, ca, cd⟩) HC.out; have y1 := cell_blk HBX.out 1; obtain ⟨p0, p1, p2, p3⟩ := HPM.out _ (HB1.out.trans (HBE.out.mono HB1.out.size)); clear hbc)
                            | ((with_reducible refine (H4.out _).mono ?_); rintro e wd ⟨rfl, hbd⟩; have HBX := Lib.hid (blk hbd (lt_blk HBX.out) HBX.out); have HC := Lib.hid (blk hbd (lt_blk HC.out) HC.out); have HBE := Lib.hid (HBE.out.trans (hbd.mono HBE.out.size)); obtain ⟨x0, x1, x2, x3⟩ := cl_box (x := ⟨cp, cc, ca, cd⟩) HC.out; have y1 := cell_blk HBX.out 1; obtain ⟨p0, p1, p2, p3⟩ := HPM.out _ (HB1.out.trans (HBE.out.mono HB1.out.size)); clear hbd)
                            | fail)
                          go_quiet (fail)
                          go_wp2_with fail
                          go_roundw
                          case rel => exact ⟨m + 2, HKL.out, by go_num, fun j hj => by
                            rcases Nat.lt_or_ge j (m + 1) with h | h
                            · exact HOK.out j h
                            · obtain rfl : j = m + 1 := by omega
                              simpa using HR.out, below_drewN HBE.out _⟩
                          case measure => (simp [intOf]) <;> omega
      · have y1 := cell_blk HXR.out 1
        have HGD : Hid (mayCs l = true) := Lib.hid (mayCs_good fun j hj => hok j (by omega))
        clear hok
        go_wp2_with fail
        go_ret
        exact retB (by rw [HMV.out, HGD.out]) HBEL.out
end Go.Proofs.YtbmjficiceiekaaDoor.Sc
