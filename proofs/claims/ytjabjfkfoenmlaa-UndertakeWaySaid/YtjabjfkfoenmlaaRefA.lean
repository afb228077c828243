/- The contracts of the reference of layer 30: its bounds, the most and the least. -/
import Derived.Test.YtjabjfkfoenmlaaCredit
namespace Go.Proofs.Ytjabjfkfoenmlaa.Sc
open Go Go.RowKit Go.ChangeShapes Go.WideShapes Go.ChangeAt


theorem tol_def (n : Int) : tol n = (decide (0 ≤ n) && decide (n ≤ 1000)) := rfl
set_option maxHeartbeats 1000000 in
theorem refBounds_any (c : Cr) (w : World) : Calls Try.prog 31 #[.agg c.cells] w (RetB w c.bnd) := by
  go_enter Try.func31, Try.ntmps31
  go_wp2
  all_goals
    go_ret
    refine retB ?_ (one_below _ _)
    simp [Cr.bnd, tol_def, *]
  all_goals omega

theorem refMost_any (c : Cr) (w : World) (hb : Bnd c) : Calls Try.prog 18 #[.agg c.cells] w (Ret w (.int .i64 c.most)) := by
  obtain ⟨h1, h2, h3, h4, h5, h6, h7, h8⟩ := hb
  obtain ⟨m1, m2, m3, m4⟩ := most_bd c.sum c.above h1 h2 h3 h4
  go_enter Try.func18, Try.ntmps18
  go_wp2
  go_ret
  exact ⟨rfl, one_below _ _⟩

theorem refLeast_any (c : Cr) (w : World) (hb : Bnd c) : Calls Try.prog 21 #[.agg c.cells] w (Ret w (.int .i64 c.least)) := by
  obtain ⟨h1, h2, h3, h4, h5, h6, h7, h8⟩ := hb
  obtain ⟨m1, m2⟩ := least_bd c.sum c.below h1 h2 h5 h6
  go_enter Try.func21, Try.ntmps21
  go_wp2
  go_ret
  exact ⟨ret_int (by simp only [Cr.least]), one_below _ _⟩
end Go.Proofs.Ytjabjfkfoenmlaa.Sc
