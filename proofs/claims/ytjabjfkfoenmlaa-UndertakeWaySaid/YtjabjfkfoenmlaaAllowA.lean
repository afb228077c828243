/- The contract of allow.Most. -/
import Derived.Test.YtjabjfkfoenmlaaCredit
namespace Go.Proofs.Ytjabjfkfoenmlaa.Sc
open Go Go.RowKit Go.ChangeShapes Go.WideShapes Go.ChangeAt

def RetM (w : World) (c : Cr) : Ending → World → Prop := Ret w (.tuple #[.int .i64 (if c.bnd then c.most else 0), .int .i64 (if c.bnd then 0 else 1)])
theorem retM_no {c : Cr} {w w' : World} (h : ¬ c.bnd = true) (hb : Below w.heap.size w w') : RetM w c (.returned (.tuple #[.int .i64 0, .int .i64 1])) w' := ⟨by simp [h], hb⟩
theorem retM_yes {c : Cr} {w w' : World} (h : c.bnd = true) (hb : Below w.heap.size w w') : RetM w c (.returned (.tuple #[.int .i64 c.most, .int .i64 0])) w' := ⟨by simp [h], hb⟩
set_option maxHeartbeats 1000000 in
theorem Most_any (c : Cr) (w : World) : Calls Try.prog 32 #[.agg c.cells] w (RetM w c) := by
  have h0 := heap_alloc_new w (.cells c.cells 32)
  go_enter Try.func32, Try.ntmps32
  go_wp2_with (first | (refine load_cr (.tmp 1) w.heap.size c _ rfl rfl h0 ?_) | fail)
  refine (bounded_any c _).mono ?_
  rintro e w1 ⟨rfl, hb⟩
  have h1 := blk hb (by simp) h0
  have hz := size_new hb
  have hb1 := below_new hb
  clear hb h0
  go_wp2_with (first | (refine load_cr (.tmp 1) w.heap.size c _ rfl rfl h1 ?_) | fail)
  · go_ret2
    exact retM_no (by simpa using ‹(!c.bnd) = true›) hb1
  · have hc : c.bnd = true := by simpa using ‹(!c.bnd) = false›
    refine (most_any c _ ((bnd_iff c).1 hc)).mono ?_
    rintro e w2 ⟨rfl, hb2⟩
    go_wp2_with fail
    go_ret2
    exact retM_yes hc (below_then hb1 hb2)

end Go.Proofs.Ytjabjfkfoenmlaa.Sc
