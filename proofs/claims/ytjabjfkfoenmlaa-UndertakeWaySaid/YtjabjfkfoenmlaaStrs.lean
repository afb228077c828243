/- Rows of texts; slices.Index and slices.Contains of texts. -/
import Derived.Test.YtjabjfkfoenmlaaChars
import Derived.Test.YtjabjfkfoenmlaaGrow
namespace Go.Proofs.Ytjabjfkfoenmlaa.Sc
open Go Go.RowKit Go.ChangeShapes Go.WideShapes Go.ChangeAt
set_option maxRecDepth 100000

theorem infoStr : (Try.prog.info? 9).map (fun i => (i.zero, i.size, i.bytes)) = some (some (.string ⟨#[]⟩), 1, 16) := by kernel_rfl
def stRow (s : ByteArray) : List Value := [.string s]
def strCells (l : List ByteArray) : List Value := l.map Value.string
theorem strCells_flat (l : List ByteArray) : strCells l = (l.map stRow).flatten := by
  induction l with
  | nil => rfl
  | cons a r ih => simp only [strCells, List.map_cons, List.flatten_cons, stRow, List.singleton_append] at *; rw [ih]
theorem st_rows (l : List ByteArray) : ∀ r ∈ l.map stRow, r.length = 1 := by
  intro r hr
  obtain ⟨d, _, rfl⟩ := List.mem_map.1 hr
  rfl
theorem own_strs {w : World} {B n : Nat} {v : Value} {l : List ByteArray} (h : w.ownsRow B 9 1 v n (strCells l)) (hn : n = l.length) : Sl w 1 v (l.map stRow) := by
  rw [strCells_flat] at h
  exact own_sl h (by simpa using hn) (st_rows l)
theorem str_one (s : ByteArray) : ∀ u ∈ (#[Value.string s] : Array Value).toList, u.oneCell' = true := by
  intro u hu
  simp only [List.mem_singleton] at hu
  subst hu; rfl
theorem sl_strs (w : World) (l : List ByteArray) (n : Nat) (hn : l.length = n) (hm : n ≤ maxLen) : Sl (w.alloc (.cells (l.map Value.string).toArray 9)) 1 (.slice (some ⟨w.heap.size, 0, none⟩) n n) (l.map stRow) := by
  subst hn
  refine .inr ⟨w.heap.size, 0, l.length, by simp, by simp, by simp, hm, fun i r hr j u hu => ?_⟩
  rw [cell_new]
  simp only [List.getElem?_map, Option.map_eq_some_iff] at hr
  obtain ⟨s, hs, rfl⟩ := hr
  cases j with
  | zero =>
    obtain rfl : Value.string s = u := by simpa [stRow] using hu
    simp [hs]
  | succ j => simp [stRow] at hu
theorem Sl.take {w : World} {sz : Nat} {a : Option Addr} {n c m : Nat} {xs : List (List Value)} (h : Sl w sz (.slice a n c) xs) (hm : m ≤ xs.length) : m ≤ c ∧ Sl w sz (.slice a m c) (xs.take m) := by
  rcases h with ⟨rfl, a', c', hv, hn⟩ | ⟨b, off, cap, hv, hb, h1, h2, hc⟩
  · simp only [Value.slice.injEq] at hv
    obtain ⟨rfl, rfl, rfl⟩ := hv
    obtain rfl : m = 0 := by simpa using hm
    exact ⟨Nat.zero_le _, .inl ⟨by simp, _, _, rfl, hn⟩⟩
  · simp only [Value.slice.injEq] at hv
    obtain ⟨rfl, rfl, rfl⟩ := hv
    refine ⟨by omega, ?_⟩
    refine .inr ⟨b, off, c, by simp [Nat.min_eq_left hm], hb, by simp; omega, h2, fun i r hr j u hu => hc i r ?_ j u hu⟩
    rw [List.getElem?_take] at hr
    split at hr
    · exact hr
    · cases hr
theorem st_cell {w : World} {b off : Nat} {xs : List (List Value)} {l : List ByteArray} (hx : xs = l.map stRow) (hc : ∀ (i : Nat) (r : List Value), xs[i]? = some r → ∀ (j : Nat) (u : Value), r[j]? = some u → w.cell? ⟨b, off + i * 1 + j, none⟩ = some u) {k : Nat} {s : ByteArray} (h : l[k]? = some s) : w.cell? ⟨b, off + k, none⟩ = some (.string s) := by
  have := hc k (stRow s) (by rw [hx]; simp [h]) 0 _ rfl
  rw [Nat.mul_one] at this
  exact this

def idxS (s : ByteArray) : List ByteArray → Int → Int
  | [], _ => -1
  | x :: r, k => if s = x then k else idxS s r (k + 1)
theorem idxS_iff (s : ByteArray) (l : List ByteArray) : ∀ k, 0 ≤ k → (0 ≤ idxS s l k ↔ s ∈ l) := by
  induction l with
  | nil => intro k _; simp [idxS]
  | cons x r ih =>
    intro k hk
    simp only [idxS, List.mem_cons]
    by_cases h : s = x
    · simp [h, hk]
    · rw [if_neg h, ih (k + 1) (by omega)]; simp [h]
set_option maxHeartbeats 1000000 in
theorem index_any (l : List ByteArray) (s : ByteArray) (v : Value) (w : World) (hs : Sl w 1 v (l.map stRow)) : Calls Try.prog 54 #[v, .string s] w (Ret w (.int .i64 (idxS s l 0))) := by
  have hml : l.length ≤ 9223372036854775807 := by have := hs.len_le; simpa [maxLen] using this
  obtain ⟨a, c, rfl⟩ : ∃ a c, v = .slice a l.length c := by simpa using hs.shape
  have HSL := Lib.hid hs
  clear hs
  go_enter Try.func54, Try.ntmps54
  go_wp2
  go_loop [5, 8] (fun _ i => ∃ k : Nat, k ≤ l.length ∧ i = .int .i64 k ∧ idxS s l 0 = idxS s (l.drop k) k) (fun _ i => l.length - (intOf i).toNat)
  case atStart => exact ⟨0, Nat.zero_le _, rfl, rfl⟩
  case round =>
    obtain ⟨k, hk, rfl, hrel⟩ := hrel
    by_cases hlt : k < l.length
    · obtain ⟨b, off, rfl, -, hb, hc⟩ := HSL.out.at (i := k) (by simpa using hlt)
      have d0 : w.cell? ⟨b, off + k, none⟩ = some (.string l[k]) := st_cell rfl hc (by simp [hlt])
      rw [List.drop_eq_getElem_cons hlt, idxS] at hrel
      have HR := Lib.hid hrel
      clear hrel hc
      generalize l[k] = x at *
      by_cases heq : s = x
      · have t1 := str_yes heq
        have HEQ := Lib.hid heq
        clear heq
        go_wp2
        go_ret
        exact ⟨ret_int (by rw [HR.out, if_pos HEQ.out]), Below.refl _ _⟩
      · have t1 := str_no heq
        have HEQ := Lib.hid heq
        clear heq
        go_wp2
        go_round
        case rel => exact ⟨k + 1, by omega, by go_num, by rw [HR.out, if_neg HEQ.out]; simp⟩
        case measure => simp [intOf]; omega
    · have HR := Lib.hid hrel
      clear hrel
      go_wp2
      go_ret
      exact ⟨ret_int (by rw [HR.out, List.drop_eq_nil_of_le (by omega)]; rfl), Below.refl _ _⟩
def inS (s : ByteArray) (l : List ByteArray) : Bool := l.any fun x => decide (s = x)
theorem inS_iff (s : ByteArray) (l : List ByteArray) : inS s l = true ↔ s ∈ l := by simp [inS]
theorem contains_any (l : List ByteArray) (s : ByteArray) (v : Value) (w : World) (hs : Sl w 1 v (l.map stRow)) : Calls Try.prog 34 #[v, .string s] w (RetB w (inS s l)) := by
  have H := Lib.hid (index_any l s v w hs)
  have HI : Hid (decide (0 ≤ idxS s l 0) = inS s l) := Lib.hid (by rw [Bool.eq_iff_iff, decide_eq_true_iff, inS_iff]; exact idxS_iff s l 0 (Int.le_refl _))
  clear hs
  generalize idxS s l 0 = n at *
  go_enter Try.func34, Try.ntmps34
  go_wp2_with (first | ((with_reducible refine H.out.mono ?_); rintro e w1 ⟨rfl, hb1⟩) | fail)
  go_ret
  exact retB (by rw [← HI.out]) hb1
end Go.Proofs.Ytjabjfkfoenmlaa.Sc
