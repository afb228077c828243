/- Which classes lie apart: the program's table, the document's rows. -/
import Derived.Test.YtbigoifpfkdkjaaGreatDoorLaw
namespace Go.Proofs.YtbigoifpfkdkjaaGreatDoor.Sc
open Go Go.RowKit Go.ChangeShapes Go.WideShapes Go.ChangeAt
set_option maxRecDepth 100000

def apPairs : List (Int × Int) := [(1, 2), (1, 3), (1, 4), (1, 5), (1, 6), (1, 7), (1, 8), (1, 9), (2, 3), (2, 5), (3, 5), (3, 8), (4, 5), (4, 8), (5, 6), (5, 8), (7, 9)]
def apHas (a b : Int) (l : List (Int × Int)) : Bool := l.any fun p => decide (p.1 = a) && decide (p.2 = b)
def apartM (a b : Int) : Bool := if b < a then apHas b a apPairs else apHas a b apPairs
/-- The program's table as it was laid. -/
structure ApT (w : World) : Prop where
  lt : 0 < w.heap.size
  c0 : w.cell? ⟨0, 0, none⟩ = some (.int .i64 0)
  c1 : w.cell? ⟨0, 1, none⟩ = some (.int .i64 1020)
  c2 : w.cell? ⟨0, 2, none⟩ = some (.int .i64 40)
  c3 : w.cell? ⟨0, 3, none⟩ = some (.int .i64 288)
  c4 : w.cell? ⟨0, 4, none⟩ = some (.int .i64 288)
  c5 : w.cell? ⟨0, 5, none⟩ = some (.int .i64 320)
  c6 : w.cell? ⟨0, 6, none⟩ = some (.int .i64 0)
  c7 : w.cell? ⟨0, 7, none⟩ = some (.int .i64 512)
  c8 : w.cell? ⟨0, 8, none⟩ = some (.int .i64 0)
  c9 : w.cell? ⟨0, 9, none⟩ = some (.int .i64 0)
theorem ApT.below {w w' : World} (h : ApT w) (hb : Below w.heap.size w w') : ApT w' := by
  have e : ∀ j, w'.cell? ⟨0, j, none⟩ = w.cell? ⟨0, j, none⟩ := fun j => hb.cell (p := ⟨0, j, none⟩) h.lt
  exact ⟨Nat.lt_of_lt_of_le h.lt hb.size, (e 0).trans h.c0, (e 1).trans h.c1, (e 2).trans h.c2, (e 3).trans h.c3, (e 4).trans h.c4, (e 5).trans h.c5, (e 6).trans h.c6, (e 7).trans h.c7, (e 8).trans h.c8, (e 9).trans h.c9⟩
theorem apHas_in {a b : Int} {l : List (Int × Int)} (h : apHas a b l = true) : (a, b) ∈ l := by
  obtain ⟨p, hp, hh⟩ := List.any_eq_true.1 h
  simp only [Bool.and_eq_true, decide_eq_true_eq] at hh
  obtain ⟨rfl, rfl⟩ := hh
  exact hp
theorem apPairs_range : ∀ p ∈ apPairs, 1 ≤ p.1 ∧ p.1 < p.2 ∧ p.2 ≤ 9 := by decide
theorem apart_range {a b : Int} (h : apartM a b = true) : (1 ≤ a ∧ a ≤ 9) ∧ (1 ≤ b ∧ b ≤ 9) ∧ ¬ a = b := by
  unfold apartM at h
  split at h
  · have := apPairs_range _ (apHas_in h); simp only at this; omega
  · have := apPairs_range _ (apHas_in h); simp only at this; omega
theorem apart_out {a b : Int} (h : ¬ (0 ≤ a ∧ a < 10 ∧ 0 ≤ b ∧ b < 10)) : apartM a b = false := by
  cases hh : apartM a b with
  | false => rfl
  | true => have := apart_range hh; omega
theorem apart_comm (a b : Int) : apartM a b = apartM b a := by
  unfold apartM
  by_cases h1 : b < a
  · rw [if_pos h1, if_neg (by omega)]
  · by_cases h2 : a < b
    · rw [if_neg h1, if_pos h2]
    · obtain rfl : a = b := by omega
      rfl
theorem ten {a : Int} (h0 : 0 ≤ a) (h1 : a < 10) : a = 0 ∨ a = 1 ∨ a = 2 ∨ a = 3 ∨ a = 4 ∨ a = 5 ∨ a = 6 ∨ a = 7 ∨ a = 8 ∨ a = 9 := by omega
set_option maxHeartbeats 0 in
theorem apart_any (a b : Int) (w : World) (h : ApT w) : Calls Tryz.prog 89 #[.int .i64 a, .int .i64 b] w (RetB w (apartM a b)) := by
  by_cases h0 : a < 0
  · have t0 : decide (a < 0) = true := decide_eq_true h0
    have HQ : Hid (apartM a b = false) := Lib.hid (apart_out (by omega))
    clear h0 h
    go_enter Tryz.func89, Tryz.ntmps89
    go_wp2
    go_ret
    exact retB HQ.out.symm (Below.refl _ _)
  have t0 : decide (a < 0) = false := decide_eq_false h0
  by_cases h1 : 10 ≤ a
  · have t1 : decide (10 ≤ a) = true := decide_eq_true h1
    have HQ : Hid (apartM a b = false) := Lib.hid (apart_out (by omega))
    clear h0 h1 h
    go_enter Tryz.func89, Tryz.ntmps89
    go_wp2
    go_ret
    exact retB HQ.out.symm (Below.refl _ _)
  have t1 : decide (10 ≤ a) = false := decide_eq_false h1
  by_cases h2 : b < 0
  · have t2 : decide (b < 0) = true := decide_eq_true h2
    have HQ : Hid (apartM a b = false) := Lib.hid (apart_out (by omega))
    clear h0 h1 h2 h
    go_enter Tryz.func89, Tryz.ntmps89
    go_wp2
    go_ret
    exact retB HQ.out.symm (Below.refl _ _)
  have t2 : decide (b < 0) = false := decide_eq_false h2
  by_cases h3 : 10 ≤ b
  · have t3 : decide (10 ≤ b) = true := decide_eq_true h3
    have HQ : Hid (apartM a b = false) := Lib.hid (apart_out (by omega))
    clear h0 h1 h2 h3 h
    go_enter Tryz.func89, Tryz.ntmps89
    go_wp2
    go_ret
    exact retB HQ.out.symm (Below.refl _ _)
  clear t0 t1 t2
  have ha := ten (a := a) (by omega) (by omega)
  have hb := ten (a := b) (by omega) (by omega)
  clear h0 h1 h2 h3
  obtain ⟨hlt, c0, c1, c2, c3, c4, c5, c6, c7, c8, c9⟩ := h
  rcases ha with rfl | rfl | rfl | rfl | rfl | rfl | rfl | rfl | rfl | rfl <;> rcases hb with rfl | rfl | rfl | rfl | rfl | rfl | rfl | rfl | rfl | rfl
  all_goals
    go_enter Tryz.func89, Tryz.ntmps89
    go_wp2
    go_ret
    exact retB (by decide) (Below.refl _ _)
theorem alloc_fold : ∀ (objs : List Obj) (w : World) (j : Nat) (o : Obj), objs[j]? = some o → (objs.foldl World.alloc w).heap[w.heap.size + j]? = some o
  | [], _, _, _, h => by simp at h
  | x :: r, w, 0, o, h => by
    obtain rfl : x = o := by simpa using h
    have hb : ∀ (l : List Obj) (w : World), Below w.heap.size w (l.foldl World.alloc w) := by
      intro l
      induction l with
      | nil => exact fun w => Below.refl _ _
      | cons y l ih => exact fun w => (one_below w y).trans ((ih (w.alloc y)).mono (by simp))
    exact blk (hb r (w.alloc x)) (by simp) (heap_alloc_new w x)
  | x :: r, w, j + 1, o, h => by
    have := alloc_fold r (w.alloc x) j o (by simpa using h)
    rw [List.foldl_cons]
    rw [← this]
    congr 1
    simp; omega
theorem fold_below (l : List Obj) : ∀ w : World, Below w.heap.size w (l.foldl World.alloc w) := by
  induction l with
  | nil => exact fun w => Below.refl _ _
  | cons y l ih => exact fun w => (one_below w y).trans ((ih (w.alloc y)).mono (by simp))
end Go.Proofs.YtbigoifpfkdkjaaGreatDoor.Sc
