/- The checks of whoever asks for a receipt, by the program; rows of checks. -/
import Derived.Test.YticnmmfiadpbbaaGreatStoreH25
namespace Go.Proofs.YticnmmfiadpbbaaGreat.Sc
open Go Go.RowKit Go.ChangeShapes Go.WideShapes Go.ChangeAt
set_option maxRecDepth 100000

def ckCells (code : Nat → Int) (k : Nat → FuncId) (cap : Nat → Array Value) : Nat → List Value
  | 0 => []
  | n + 1 => ckCells code k cap n ++ [.int .i64 (code n), .func (.func (k n)) #[] (cap n)]
theorem ckCells_len (code : Nat → Int) (k : Nat → FuncId) (cap : Nat → Array Value) (n : Nat) : (ckCells code k cap n).length = 2 * n := by
  induction n with
  | zero => rfl
  | succ n ih => simp only [ckCells, List.length_append, ih, List.length_cons, List.length_nil]; omega
theorem ckCells_get (code : Nat → Int) (k : Nat → FuncId) (cap : Nat → Array Value) : ∀ (n i : Nat), i < n → (ckCells code k cap n)[2 * i]? = some (.int .i64 (code i)) ∧ (ckCells code k cap n)[2 * i + 1]? = some (.func (.func (k i)) #[] (cap i))
  | 0, i, h => by omega
  | n + 1, i, h => by
    have hl := ckCells_len code k cap n
    rw [ckCells]
    by_cases hi : i < n
    · have := ckCells_get code k cap n i hi
      rw [List.getElem?_append_left (by omega), List.getElem?_append_left (by omega)]
      exact this
    · obtain rfl : i = n := by omega
      rw [List.getElem?_append_right (by omega), List.getElem?_append_right (by omega), hl]
      simp
/-- A row of checks of the call's own lies in one block. -/
theorem ck_own {W : World} {B n : Nat} {v : Value} {code : Nat → Int} {k : Nat → FuncId} {cap : Nat → Array Value} (hn : 0 < n) (h : W.ownsRow B 71 2 v n (ckCells code k cap n)) :
    ∃ g c, v = .slice (some ⟨g, 0, none⟩) n c ∧ B ≤ g ∧ g < W.heap.size ∧ ∀ i, i < n → W.cell? ⟨g, 2 * i, none⟩ = some (.int .i64 (code i)) ∧ W.cell? ⟨g, 2 * i + 1, none⟩ = some (.func (.func (k i)) #[] (cap i)) := by
  obtain ⟨h1, h2⟩ := h
  rcases h2 with ⟨rfl, h0⟩ | ⟨g, c, cur, rfl, hg, hh, h3, h4, h5, h6⟩
  · omega
  · refine ⟨g, c, rfl, hg, lt_blk hh, fun i hi => ?_⟩
    have hq := ckCells_get code k cap n i hi
    rw [← h6, List.getElem?_take, List.getElem?_take, if_pos (by omega), if_pos (by omega), Array.getElem?_toList, Array.getElem?_toList] at hq
    rw [cell_blk hh, cell_blk hh]
    exact hq
theorem infoCk : (Tryz.prog.info? 71).map (fun i => (i.zero, i.size, i.bytes)) = some (some (.agg #[.int .i64 0, .nilFunc]), 2, 16) := by kernel_rfl
end Go.Proofs.YticnmmfiadpbbaaGreat.Sc
