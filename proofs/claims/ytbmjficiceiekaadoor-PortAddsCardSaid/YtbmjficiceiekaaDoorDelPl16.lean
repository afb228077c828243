/- A voyage delayed; plainly. -/
import Derived.Test.YtbmjficiceiekaaDoorStart16
namespace Go.Proofs.YtbmjficiceiekaaDoor.Sc
open Go Go.RowKit Go.ChangeShapes Go.WideShapes Go.ChangeAt
set_option maxRecDepth 100000

def shiftC (n : Int) (c : Cl) : Cl := ⟨c.port, c.cut + n, c.arr + n, c.dep + n⟩
def shiftTo (l : List Cl) (n : Int) (a k : Nat) : List Cl := l.mapIdx fun i x => if a ≤ i ∧ i < k then shiftC n x else x
theorem shiftTo_len (l : List Cl) (n : Int) (a k : Nat) : (shiftTo l n a k).length = l.length := by simp [shiftTo]
theorem shiftTo_at {l : List Cl} {n : Int} {a k : Nat} (h : k < l.length) : (shiftTo l n a k)[k]'(by rw [shiftTo_len]; exact h) = l[k] := by simp [shiftTo]
theorem shiftTo_next {l : List Cl} {n : Int} {a k : Nat} (ha : a ≤ k) (h : k < l.length) : (shiftTo l n a k).set k (shiftC n l[k]) = shiftTo l n a (k + 1) := by
  apply List.ext_getElem?
  intro i
  rw [List.getElem?_set]
  by_cases hi : k = i
  · subst hi
    rw [if_pos rfl, if_pos (by rw [shiftTo_len]; exact h), shiftTo, List.getElem?_mapIdx, List.getElem?_eq_getElem h]
    simp [ha]
  · rw [if_neg hi, shiftTo, shiftTo, List.getElem?_mapIdx, List.getElem?_mapIdx]
    cases l[i]? with
    | none => rfl
    | some x =>
      simp only [Option.map_some]
      have : (a ≤ i ∧ i < k) ↔ (a ≤ i ∧ i < k + 1) := by omega
      simp only [this]
theorem shiftTo_start (l : List Cl) (n : Int) (a : Nat) : shiftTo l n a a = l := by
  apply List.ext_getElem?
  intro i
  rw [shiftTo, List.getElem?_mapIdx]
  cases l[i]? with
  | none => rfl
  | some x => simp only [Option.map_some]; rw [if_neg (by omega)]
theorem clCells_len (l : List Cl) : (clCells l).length = l.length * 4 := by
  induction l with
  | nil => rfl
  | cons x r ih => simp only [clCells, List.flatMap_cons, List.length_append, Cl.row, Cl.cells, List.length_cons, List.length_nil] at *; omega
theorem clCells_set : ∀ {l : List Cl} {k : Nat} (h : k < l.length) (a b c : Int), (((clCells l).set (k * 4 + 1) (.int .i64 a)).set (k * 4 + 2) (.int .i64 b)).set (k * 4 + 3) (.int .i64 c) = clCells (l.set k ⟨l[k].port, a, b, c⟩)
  | x :: r, 0, _, a, b, c => rfl
  | x :: r, k + 1, h, a, b, c => by
    have ih := clCells_set (l := r) (k := k) (by simpa using h) a b c
    have e1 : (k + 1) * 4 + 1 = (k * 4 + 1) + 1 + 1 + 1 + 1 := by omega
    have e2 : (k + 1) * 4 + 2 = (k * 4 + 2) + 1 + 1 + 1 + 1 := by omega
    have e3 : (k + 1) * 4 + 3 = (k * 4 + 3) + 1 + 1 + 1 + 1 := by omega
    rw [e1, e2, e3]
    show (((Value.string x.port :: Value.int .i64 x.cut :: Value.int .i64 x.arr :: Value.int .i64 x.dep :: clCells r).set _ _).set _ _).set _ _ = _
    simp only [List.set_cons_succ, List.getElem_cons_succ]
    rw [ih]
    rfl
/-- In the reference's order. -/
theorem clCells_set' {l : List Cl} {k : Nat} (h : k < l.length) (a b c : Int) : (((clCells l).set (k * 4 + 2) (.int .i64 b)).set (k * 4 + 3) (.int .i64 c)).set (k * 4 + 1) (.int .i64 a) = clCells (l.set k ⟨l[k].port, a, b, c⟩) := by
  rw [← clCells_set h a b c, List.set_comm _ _ (show k * 4 + 3 ≠ k * 4 + 1 by omega), List.set_comm _ _ (show k * 4 + 2 ≠ k * 4 + 1 by omega)]
/-- May the delay be asked for? -/
def delOk (s : ByteArray) (l : List Cl) (call days : Int) : Bool := mayV s l && (decide (0 ≤ call) && (decide (call < (l.length : Int)) && (decide (0 ≤ days) && decide (days ≤ 1048576))))
def delayR (s : ByteArray) (l : List Cl) (call days : Int) : List Cl := if delOk s l call days = true then (if mayV s (shiftTo l days call.toNat l.length) = true then shiftTo l days call.toNat l.length else l) else l
def DelP (w : World) (s : ByteArray) (m : List Cl) (e : Ending) (w' : World) : Prop := ∃ v, e = .returned (.agg #[.string s, v]) ∧ w'.ownsRow w.heap.size 39 4 v m.length (clCells m) ∧ Below w.heap.size w w'
theorem delOk_range {s : ByteArray} {l : List Cl} {call days : Int} (h : delOk s l call days = true) : mayV s l = true ∧ 0 ≤ call ∧ call < (l.length : Int) ∧ 0 ≤ days ∧ days ≤ 1048576 := by
  simpa [delOk, and_assoc] using h
/-- The test by test that is false. -/
theorem delOk_false {s : ByteArray} {l : List Cl} {call days : Int} (h : delOk s l call days = false) :
    (mayV s l = false) ∨ (mayV s l = true ∧ decide (call < 0) = true) ∨ (mayV s l = true ∧ decide (call < 0) = false ∧ decide ((l.length : Int) ≤ call) = true) ∨ (mayV s l = true ∧ decide (call < 0) = false ∧ decide ((l.length : Int) ≤ call) = false ∧ decide (days < 0) = true) ∨
      (mayV s l = true ∧ decide (call < 0) = false ∧ decide ((l.length : Int) ≤ call) = false ∧ decide (days < 0) = false ∧ decide (1048576 < days) = true) := by
  unfold delOk at h
  cases hm : mayV s l
  · exact .inl rfl
  rw [hm] at h
  simp only [decide_eq_true_eq, decide_eq_false_iff_not, Bool.true_and, Bool.and_eq_false_iff] at h ⊢
  simp
  omega
end Go.Proofs.YtbmjficiceiekaaDoor.Sc
