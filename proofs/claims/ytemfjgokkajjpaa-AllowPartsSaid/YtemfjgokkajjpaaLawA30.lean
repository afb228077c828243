/- The contracts of the law's own helpers: a credit of just these bounds; the chapter's example. -/
import Derived.Test.YtemfjgokkajjpaaAllowA
import Derived.Test.YtemfjgokkajjpaaRefA
namespace Go.Proofs.Ytemfjgokkajjpaa.Sc
open Go Go.RowKit Go.ChangeShapes Go.WideShapes Go.ChangeAt

/-- A credit of just these. -/
def mkCr (sum above below expiry : Int) (part : Bool) : Cr := ⟨.empty, .empty, .empty, .empty, .empty, .empty, .empty, .empty, sum, above, below, 0, expiry, 0, 0, part, false, none, 0, 0⟩

theorem bounds_any (sum above below expiry : Int) (part : Bool) (w : World) :
    Calls Try.prog 8 #[.int .i64 sum, .int .i64 above, .int .i64 below, .int .i64 expiry, .bool part] w (Ret w (.agg (mkCr sum above below expiry part).cells)) := by
  go_enter Try.func8, Try.ntmps8
  go_wp2_with (first | refine alloc_cr ?_ | refine store_cr (.tmp 10) (.tmp 17) (mkCr sum above below expiry part) Cr.zero rfl rfl ?_)
  exact bodyPost_ret (v := .agg (mkCr sum above below expiry part).cells) (results_cell_row rfl _ _ w.heap.size _ _ _ _ rfl (heap_alloc_new _ _) Try.underlying27 rfl (by rw [cr_info]; rfl)) rfl ⟨rfl, one_below _ _⟩

theorem awake_bnd : (mkCr 1000 50 100 0 false).bnd = true := by decide
theorem awake_most : (mkCr 1000 50 100 0 false).most = 1050 := by decide
theorem awake_least : (mkCr 1000 50 100 0 false).least = 900 := by decide
theorem Most_yes (c : Cr) (h : c.bnd = true) (w : World) : Calls Try.prog 9 #[.agg c.cells] w (Ret w (.tuple #[.int .i64 c.most, .int .i64 0])) :=
  (Most_any c w).mono fun e w' h' => by simpa [RetM, h] using h'
theorem Least_yes (c : Cr) (h : c.bnd = true) (w : World) : Calls Try.prog 10 #[.agg c.cells] w (Ret w (.tuple #[.int .i64 c.least, .int .i64 0])) :=
  (Least_any c w).mono fun e w' h' => by simpa [RetL, h] using h'
theorem Most_not (c : Cr) (h : c.bnd = false) (w : World) : Calls Try.prog 9 #[.agg c.cells] w (Ret w (.tuple #[.int .i64 0, .int .i64 1])) :=
  (Most_any c w).mono fun e w' h' => by simpa [RetM, h] using h'
theorem Least_not (c : Cr) (h : c.bnd = false) (w : World) : Calls Try.prog 10 #[.agg c.cells] w (Ret w (.tuple #[.int .i64 0, .int .i64 1])) :=
  (Least_any c w).mono fun e w' h' => by simpa [RetL, h] using h'

set_option maxHeartbeats 1000000 in
theorem awake_any (w : World) : Calls Try.prog 7 #[] w (RetB w true) := by
  have h0 := heap_alloc_new w (.cells (mkCr 1000 50 100 0 false).cells 27)
  have M := fun w => Most_yes _ awake_bnd w
  have L := fun w => Least_yes _ awake_bnd w
  rw [awake_most] at M
  rw [awake_least] at L
  have HM := Lib.hid M
  have HL := Lib.hid L
  clear M L
  go_enter Try.func7, Try.ntmps7
  go_wp2_with (first | (refine new_cr 1 (.tmp 7) (mkCr 1000 50 100 0 false) rfl rfl ?_) | (refine load_cr (.tmp 1) w.heap.size _ _ rfl rfl h0 ?_) | fail)
  refine (HM.out _).mono ?_
  rintro e w1 ⟨rfl, hb⟩
  have h1 := blk hb (by simp) h0
  have hz := size_new hb
  have hb1 := below_new hb
  clear hb h0
  go_wp2_with (first | (refine load_cr (.tmp 1) w.heap.size _ _ rfl rfl h1 ?_) | fail)
  refine (HL.out _).mono ?_
  rintro e w2 ⟨rfl, hb2⟩
  go_wp2_with fail
  go_ret
  exact ⟨rfl, below_then hb1 hb2⟩
end Go.Proofs.Ytemfjgokkajjpaa.Sc
