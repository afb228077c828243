/- Rows of texts. -/
import Derived.Test.YtbigoifpfkdkjaaGreatDoorChars
import Derived.Test.YtbigoifpfkdkjaaGreatDoorGrow
namespace Go.Proofs.YtbigoifpfkdkjaaGreatDoor.Sc
open Go Go.RowKit Go.ChangeShapes Go.WideShapes Go.ChangeAt
set_option maxRecDepth 100000

theorem infoStr : (Tryz.prog.info? 9).map (fun i => (i.zero, i.size, i.bytes)) = some (some (.string ⟨#[]⟩), 1, 16) := by kernel_rfl
def stRow (s : ByteArray) : List Value := [.string s]
def strCells (l : List ByteArray) : List Value := l.map Value.string
theorem strCells_flat (l : List ByteArray) : strCells l = (l.map stRow).flatten := by
  induction l with
  | nil => rfl
  | cons a r ih => simp only [strCells, List.map_cons, List.flatten_cons, stRow, List.singleton_append] at *; rw [ih]
theorem st_rows (l : List ByteArray) : ∀ r ∈ l.map stRow, r.length = 1 := by
  intro r hr
  obtain ⟨d, _, rfl⟩ := List.mem_map.1 hr
  rfl
theorem own_strs {w : World} {B n : Nat} {v : Value} {l : List ByteArray} (h : w.ownsRow B 9 1 v n (strCells l)) (hn : n = l.length) : Sl w 1 v (l.map stRow) := by
  rw [strCells_flat] at h
  exact own_sl h (by simpa using hn) (st_rows l)
theorem str_one (s : ByteArray) : ∀ u ∈ (#[Value.string s] : Array Value).toList, u.oneCell' = true := by
  intro u hu
  simp only [List.mem_singleton] at hu
  subst hu; rfl
theorem sl_strs (w : World) (l : List ByteArray) (n : Nat) (hn : l.length = n) (hm : n ≤ maxLen) : Sl (w.alloc (.cells (l.map Value.string).toArray 9)) 1 (.slice (some ⟨w.heap.size, 0, none⟩) n n) (l.map stRow) := by
  subst hn
  refine .inr ⟨w.heap.size, 0, l.length, by simp, by simp, by simp, hm, fun i r hr j u hu => ?_⟩
  rw [cell_new]
  simp only [List.getElem?_map, Option.map_eq_some_iff] at hr
  obtain ⟨s, hs, rfl⟩ := hr
  cases j with
  | zero =>
    obtain rfl : Value.string s = u := by simpa [stRow] using hu
    simp [hs]
  | succ j => simp [stRow] at hu
theorem Sl.take {w : World} {sz : Nat} {a : Option Addr} {n c m : Nat} {xs : List (List Value)} (h : Sl w sz (.slice a n c) xs) (hm : m ≤ xs.length) : m ≤ c ∧ Sl w sz (.slice a m c) (xs.take m) := by
  rcases h with ⟨rfl, a', c', hv, hn⟩ | ⟨b, off, cap, hv, hb, h1, h2, hc⟩
  · simp only [Value.slice.injEq] at hv
    obtain ⟨rfl, rfl, rfl⟩ := hv
    obtain rfl : m = 0 := by simpa using hm
    exact ⟨Nat.zero_le _, .inl ⟨by simp, _, _, rfl, hn⟩⟩
  · simp only [Value.slice.injEq] at hv
    obtain ⟨rfl, rfl, rfl⟩ := hv
    refine ⟨by omega, ?_⟩
    refine .inr ⟨b, off, c, by simp [Nat.min_eq_left hm], hb, by simp; omega, h2, fun i r hr j u hu => hc i r ?_ j u hu⟩
    rw [List.getElem?_take] at hr
    split at hr
    · exact hr
    · cases hr
theorem st_cell {w : World} {b off : Nat} {xs : List (List Value)} {l : List ByteArray} (hx : xs = l.map stRow) (hc : ∀ (i : Nat) (r : List Value), xs[i]? = some r → ∀ (j : Nat) (u : Value), r[j]? = some u → w.cell? ⟨b, off + i * 1 + j, none⟩ = some u) {k : Nat} {s : ByteArray} (h : l[k]? = some s) : w.cell? ⟨b, off + k, none⟩ = some (.string s) := by
  have := hc k (stRow s) (by rw [hx]; simp [h]) 0 _ rfl
  rw [Nat.mul_one] at this
  exact this

end Go.Proofs.YtbigoifpfkdkjaaGreatDoor.Sc
