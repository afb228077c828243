/- Lots joined: by the reference. -/
import Derived.Test.YtbigoifpfkdkjaaGreatDoorRefSum11
import Derived.Test.YtbigoifpfkdkjaaGreatDoorJoinB11
import Derived.Test.YtbigoifpfkdkjaaGreatDoorCut
import Derived.StillTailTactics
namespace Go.Proofs.YtbigoifpfkdkjaaGreatDoor.Sc
open Go Go.RowKit Go.ChangeShapes Go.WideShapes Go.ChangeAt
set_option maxRecDepth 100000

end Go.Proofs.YtbigoifpfkdkjaaGreatDoor.Sc
namespace Go.Proofs.YtbigoifpfkdkjaaGreatDoor.Sc
open Go Go.RowKit Go.ChangeShapes Go.WideShapes Go.ChangeAt
set_option maxRecDepth 100000

theorem own_pos {w : World} {B sz n : Nat} {e : TypeId} {v : Value} {xs : List Value} (h : w.ownsRow B e sz v n xs) (hn : 0 < n) : ∃ g cap cur, v = .slice (some ⟨g, 0, none⟩) n cap ∧ w.heap[g]? = some (.cells cur e (0, 0)) ∧ B ≤ g := by
  rcases h.2 with ⟨_, h0⟩ | ⟨g, cap, cur, rfl, hg, hh, _⟩
  · omega
  · exact ⟨g, cap, cur, rfl, hh, hg⟩
theorem own_cell {w : World} {B n sz : Nat} {e : TypeId} {g cap : Nat} {xs : List Value} (h : w.ownsRow B e sz (.slice (some ⟨g, 0, none⟩) n cap) n xs) (j : Nat) (u : Value) :
    (w.setCell ⟨g, j, none⟩ u).ownsRow B e sz (.slice (some ⟨g, 0, none⟩) n cap) n (xs.set j u) := by
  obtain ⟨h1, h2⟩ := h
  rcases h2 with ⟨h2, _⟩ | ⟨g', cap', cur, hv, hB, hh, h3, h4, h5, h6⟩
  · cases h2
  simp only [Value.slice.injEq, Option.some.injEq, Addr.mk.injEq, and_true, true_and] at hv
  obtain ⟨rfl, rfl⟩ := hv
  refine ⟨by simpa using h1, .inr ⟨g, cap, cur.setIfInBounds j u, rfl, hB, ?_, h3, h4, by simpa using h5, ?_⟩⟩
  · simp [World.setCell, Array.getElem?_modify, hh]
  · rw [Array.toList_setIfInBounds, ← h6, List.take_set]
theorem ltCells_len (l : List Lt) : (ltCells l).length = l.length * 2 := by
  induction l with
  | nil => rfl
  | cons x r ih => simp only [ltCells, List.flatMap_cons, List.length_append, Lt.row, List.length_cons, List.length_nil] at *; omega
theorem ltCells_set : ∀ {l : List Lt} {k : Nat} (h : k < l.length) (c : Int), (ltCells l).set (k * 2 + 1) (.int .i64 c) = ltCells (l.set k ⟨l[k].good, c⟩)
  | x :: r, 0, _, c => rfl
  | x :: r, k + 1, h, c => by
    have ih := ltCells_set (l := r) (k := k) (by simpa using h) c
    have e : (k + 1) * 2 + 1 = (k * 2 + 1) + 1 + 1 := by omega
    rw [e]
    simp only [List.set_cons_succ, List.getElem_cons_succ]
    show Value.string x.good :: Value.int .i64 x.cnt :: (ltCells r).set (k * 2 + 1) (.int .i64 c) = _
    rw [ih]
    rfl
theorem ltCells_one (l : List Lt) : ∀ u ∈ ltCells l, u.oneCell' = true := by
  intro u hu
  obtain ⟨x, _, h⟩ := List.mem_flatMap.1 hu
  simp [Lt.row] at h
  rcases h with rfl | rfl <;> rfl
theorem src_lots {w : World} {v : Value} {l : List Lt} (h : Sl w 2 v (l.map Lt.row)) : Src w 2 v l.length (ltCells l) := by
  have := h.src (lt_rows l) (by decide)
  rw [ltCells_flat]
  simpa using this
theorem jIns_eq : ∀ {L : List Lt} {x : Lt} {k : Nat} (hk : k < L.length) (_ : ∀ j (h : j < L.length), j < k → bt L[j].good < bt x.good) (_ : L[k].good = x.good), jIns L x = L.set k ⟨L[k].good, L[k].cnt + x.cnt⟩
  | y :: r, x, 0, _, _, he => by
    have he' : y.good = x.good := he
    have hn : ¬ bt y.good < bt x.good := by rw [he']; exact List.lt_irrefl _
    simp only [jIns, if_neg hn, if_pos he']
    rfl
  | y :: r, x, k + 1, hk, hlt, he => by
    have h0 : bt y.good < bt x.good := hlt 0 (by simp) (by omega)
    have ih := jIns_eq (L := r) (x := x) (k := k) (by simpa using hk) (fun j h hj => hlt (j + 1) (by simpa using h) (by omega)) he
    rw [jIns, if_pos h0, ih]
    rfl
theorem jIns_new : ∀ {L : List Lt} {x : Lt} {k : Nat} (_ : k ≤ L.length) (_ : ∀ j (h : j < L.length), j < k → bt L[j].good < bt x.good) (_ : ∀ h : k < L.length, ¬ bt L[k].good < bt x.good ∧ ¬ L[k].good = x.good), jIns L x = L.take k ++ [x] ++ L.drop k
  | [], x, k, hk, _, _ => by
    obtain rfl : k = 0 := by simpa using hk
    rfl
  | y :: r, x, 0, _, _, he => by
    obtain ⟨h1, h2⟩ := he (by simp)
    have h1' : ¬ bt y.good < bt x.good := h1
    have h2' : ¬ y.good = x.good := h2
    rw [jIns, if_neg h1', if_neg h2']
    rfl
  | y :: r, x, k + 1, hk, hlt, he => by
    have h0 : bt y.good < bt x.good := hlt 0 (by simp) (by omega)
    have ih := jIns_new (L := r) (x := x) (k := k) (by simpa using hk) (fun j h hj => hlt (j + 1) (by simpa using h) (by omega)) (fun h => he (by simpa using h))
    rw [jIns, if_pos h0, ih]
    rfl
theorem own_ins {w : World} {B : Nat} {e : TypeId} {v : Value} {L : List Lt} {xn : ByteArray} {xc : Int} {k : Nat} (hk : k ≤ L.length) (h : w.ownsRow B e 2 v (k + 1 + (L.length - k)) (ltCells (L.take k) ++ [.string xn, .int .i64 xc] ++ ltCells (L.drop k))) :
    w.ownsRow B e 2 v (L.take k ++ [(⟨xn, xc⟩ : Lt)] ++ L.drop k).length (ltCells (L.take k ++ [(⟨xn, xc⟩ : Lt)] ++ L.drop k)) := by
  have e1 : (L.take k ++ [(⟨xn, xc⟩ : Lt)] ++ L.drop k).length = k + 1 + (L.length - k) := by
    simp [Nat.min_eq_left hk]
    omega
  rw [e1, ltCells_append, ltCells_append]
  exact h
theorem joinL_snoc {l : List Lt} {n : Nat} (h : n < l.length) : joinL (l.take (n + 1)) = if l[n].cnt < 1 then joinL (l.take n) else jIns (joinL (l.take n)) l[n] := by
  rw [List.take_succ_eq_append_getElem h, joinL, List.foldl_append]
  rfl
end Go.Proofs.YtbigoifpfkdkjaaGreatDoor.Sc
namespace Go.Proofs.YtbigoifpfkdkjaaGreatDoor.Sc
open Go Go.RowKit Go.ChangeShapes Go.WideShapes Go.ChangeAt
set_option maxRecDepth 100000

end Go.Proofs.YtbigoifpfkdkjaaGreatDoor.Sc
