/- One of what the reference has reached, written anew; no program in sight. -/
import Derived.Test.YtbmjficiceiekaaDoorRcPl16
import Derived.Test.YtbmjficiceiekaaDoorOwnC
import Derived.Deep.MidRow
namespace Go.Proofs.YtbmjficiceiekaaDoor.Sc
open Go Go.RowKit Go.ChangeShapes Go.WideShapes Go.ChangeAt
set_option maxRecDepth 100000

theorem rcCells_len (m : List Rc) : (rcCells m).length = m.length * 3 := by
  induction m with
  | nil => rfl
  | cons x r ih => rw [show x :: r = [x] ++ r from rfl, rcCells_append, List.length_append, ih, List.length_append]; simp [rcCells, Rc.row, Rc.cells]; omega
theorem rcCells_day : ∀ {m : List Rc} {q : Nat} (h : q < m.length), (rcCells m)[q * 3 + 1]? = some (.int .i64 m[q].day)
  | x :: r, 0, _ => rfl
  | x :: r, q + 1, h => by
    have ih := rcCells_day (m := r) (q := q) (by simpa using h)
    rw [show (q + 1) * 3 + 1 = (q * 3 + 1) + 1 + 1 + 1 by omega]
    show (Value.string x.port :: Value.int .i64 x.day :: x.val :: rcCells r)[_]? = _
    simp only [List.getElem?_cons_succ]
    rw [ih]
    rfl
theorem own_rc_set {w : World} {B g cap n : Nat} {e : TypeId} {m : List Rc} (h : w.ownsRow B e 3 (.slice (some ⟨g, 0, none⟩) n cap) n (rcCells m)) {q : Nat} (hq : q < m.length) (y : Rc) :
    w.there g (q * 3) 3 ∧ (w.setCells g (q * 3) [.string y.port, .int .i64 y.day, y.val]).ownsRow B e 3 (.slice (some ⟨g, 0, none⟩) n cap) n (rcCells (m.set q y)) ∧ w.cell? ⟨g, q * 3 + 1, none⟩ = some (.int .i64 m[q].day) := by
  have hl := rcCells_len m
  refine ⟨fun j hj => ?_, ?_, ?_⟩
  · obtain ⟨h1, h2⟩ := own_read h (j := q * 3 + j) (by omega)
    exact ⟨by rw [h1]; rfl, h2⟩
  · have := own_cell (own_cell (own_cell h (q * 3) (.string y.port)) (q * 3 + 1) (.int .i64 y.day)) (q * 3 + 2) y.val
    rw [rcCells_set hq] at this
    exact this
  · have h1 := (own_read h (j := q * 3 + 1) (by omega)).1
    have h2 := rcCells_day hq
    rw [List.getElem?_eq_getElem (by omega)] at h2
    rw [h1, h2]
theorem cells3_grown (w : World) (g o : Nat) (a b c : Value) : w.grownBy (w.setCells g o [a, b, c]) (some g) := by
  have h1 := Ord.set_grown w g o a
  have h2 := Ord.set_grown (w.setCell ⟨g, o, none⟩ a) g (o + 1) b
  have h3 := Ord.set_grown ((w.setCell ⟨g, o, none⟩ a).setCell ⟨g, o + 1, none⟩ b) g (o + 2) c
  exact grown_then (grown_then h1 h2) h3
end Go.Proofs.YtbmjficiceiekaaDoor.Sc
