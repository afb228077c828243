/- Whether an event is none. -/
import Derived.Test.YtjabjfkfoenmlaaLifeP34
import Derived.Test.YtjabjfkfoenmlaaMark
namespace Go.Proofs.Ytjabjfkfoenmlaa.Sc
open Go Go.RowKit Go.ChangeShapes Go.WideShapes Go.ChangeAt
set_option maxRecDepth 100000

/-- An event that may be told. -/
def Ev.ok (e : Ev) : Bool := (decide (0 ≤ e.kind) && decide (e.kind ≤ 7)) && nameOk e.party && (decide (0 ≤ e.day) && decide (e.day ≤ 1048576)) && (if e.kind = 2 then decide (1 ≤ e.amt) && decide (e.amt ≤ 1099511627776) else decide (e.amt = 0))

set_option maxHeartbeats 2000000 in
theorem wrong_any (e : Ev) (w : World) : Calls Try.prog 35 #[.agg e.cells] w (RetB w (!e.ok)) := by
  obtain ⟨kind, party, day, amt⟩ := e
  simp only [Ev.cells]
  have hN := markName_any party
  obtain ⟨x, hx⟩ : ∃ x, x = Ev.ok ⟨kind, party, day, amt⟩ := ⟨_, rfl⟩
  rw [← hx]
  simp only [Ev.ok] at hx
  generalize nameOk party = bn at *
  have HX := Lib.hid hx
  clear hx
  have HO := Lib.hid (one_below w (.cells #[.int .i64 kind, .string party, .int .i64 day, .int .i64 amt] 40))
  have h0 : Hid ((w.alloc (.cells #[.int .i64 kind, .string party, .int .i64 day, .int .i64 amt] 40)).heap[w.heap.size]? = some (.cells #[.int .i64 kind, .string party, .int .i64 day, .int .i64 amt] 40 (0, 0))) := Lib.hid (heap_alloc_new w _)
  cases bn
  all_goals
    go_enter Try.func35, Try.ntmps35
    go_wp2_with (first
      | ((with_reducible refine (hN _).mono ?_); rintro e w2 ⟨rfl, hb2⟩; have h2 := blk hb2 (by simp) h0.out; have c0 : w2.cell? ⟨w.heap.size, 0, none⟩ = some (.int .i64 kind) := cell_blk h2 0; have c2 : w2.cell? ⟨w.heap.size, 2, none⟩ = some (.int .i64 day) := cell_blk h2 2; have c3 : w2.cell? ⟨w.heap.size, 3, none⟩ = some (.int .i64 amt) := cell_blk h2 3; clear h2; have HB2 := Lib.hid (below_new hb2); clear hb2)
      | fail)
    all_goals
      go_ret
      refine retB ?_ (by first | exact HB2.out | exact HO.out)
      rw [HX.out]
      clear HX HO h0
      first
        | (simp; omega)
        | (by_cases h2 : kind = 2
           · subst h2
             simp at *
             first
               | done
               | (rw [Bool.eq_iff_iff]; simp; omega)
               | omega
           · simp [h2] at *
             first
               | done
               | (rw [Bool.eq_iff_iff]; simp; omega)
               | omega)
end Go.Proofs.Ytjabjfkfoenmlaa.Sc
