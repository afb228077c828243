/- A row of texts of the call's own, sorted by the library's Sort. -/
import Derived.Test.YtjabjfkfoenmlaaStrs
import Derived.Test.YtjabjfkfoenmlaaLays34
import Derived.Sort.KeysCollected
namespace Go.Proofs.Ytjabjfkfoenmlaa.Sc
open Go Go.RowKit Go.ChangeShapes Go.WideShapes Go.ChangeAt
set_option maxRecDepth 100000

def bt (s : ByteArray) : List UInt8 := s.data.toList
theorem bt_inj {a b : ByteArray} (h : bt a = bt b) : a = b := bytes_inj h
theorem enc_bt (l : List ByteArray) : (l.map bt).map encStr = strCells l := by
  simp only [strCells, List.map_map]
  refine List.map_congr_left fun s _ => ?_
  simp [bt]
theorem bytesLess_eq : ∀ (x y : List UInt8), Op.bytesLess x y = decide (x < y)
  | [], [] => rfl
  | [], b :: y => by simp [Op.bytesLess]
  | a :: x, [] => by simp [Op.bytesLess]
  | a :: x, b :: y => by
    simp only [Op.bytesLess, bytesLess_eq x y, List.cons_lt_cons_iff]
    rw [Bool.eq_iff_iff]
    simp
/-- The texts sorted. -/
def sortS (l : List ByteArray) : List ByteArray := ((l.map bt).mergeSort fun x y => decide (x ≤ y)).map fun b => ⟨⟨b⟩⟩
theorem bt_sortS (l : List ByteArray) : (sortS l).map bt = (l.map bt).mergeSort fun x y => decide (x ≤ y) := by
  unfold sortS
  rw [List.map_map]
  conv => rhs; rw [← List.map_id ((l.map bt).mergeSort fun x y => decide (x ≤ y))]
  rfl
theorem sortS_len (l : List ByteArray) : (sortS l).length = l.length := by simp [sortS]
theorem sortS_perm (l : List ByteArray) : (sortS l).Perm l := by
  have h : ((l.map bt).mergeSort fun x y => decide (x ≤ y)).Perm (l.map bt) := List.mergeSort_perm _ _
  have h2 := h.map (fun b : List UInt8 => (⟨⟨b⟩⟩ : ByteArray))
  rw [List.map_map] at h2
  have : (fun b : List UInt8 => (⟨⟨b⟩⟩ : ByteArray)) ∘ bt = id := by funext s; rfl
  rw [this, List.map_id] at h2
  exact h2
theorem sortS_sorted (l : List ByteArray) : (sortS l).Pairwise fun a b => bt a ≤ bt b := by
  have h : ((l.map bt).mergeSort fun x y => decide (x ≤ y)).Pairwise fun a b => decide (a ≤ b) = true :=
    List.pairwise_mergeSort (fun a b c h1 h2 => by simp only [decide_eq_true_eq] at *; exact List.le_trans h1 h2) (fun a b => by simp only [Bool.or_eq_true, decide_eq_true_eq]; exact List.le_total a b) _
  rw [← bt_sortS, List.pairwise_map] at h
  exact h.imp fun h => of_decide_eq_true h
theorem sortS_of {l m : List ByteArray} (hp : m.Perm l) (hs : m.Pairwise fun a b => bt a ≤ bt b) : sortS l = m := by
  refine List.Perm.eq_of_pairwise (le := fun a b => bt a ≤ bt b) (fun a b _ _ h1 h2 => bt_inj (List.le_antisymm h1 h2)) (sortS_sorted l) hs ((sortS_perm l).trans hp.symm)

theorem own_sorted {w : World} {B n g cap m : Nat} {t : TypeId} {l : List ByteArray} {ls : List (List UInt8)} {os : Array Obj} (h : w.ownsRow B t 1 (.slice (some ⟨g, 0, none⟩) n cap) n (strCells l)) (hl : ls.length = l.length) :
    (Sort.grow (Sort.putRow encStr (Sort.ahead w m) g 0 ls.toArray) os).ownsRow B t 1 (.slice (some ⟨g, 0, none⟩) n cap) n (ls.map encStr) ∧ w.grownBy (Sort.grow (Sort.putRow encStr (Sort.ahead w m) g 0 ls.toArray) os) (some g) := by
  obtain ⟨h1, h2⟩ := h
  rcases h2 with ⟨h2, _⟩ | ⟨g', cap', cur, hv, hB, hh, h3, h4, h5, h6⟩
  · cases h2
  simp only [Value.slice.injEq, Option.some.injEq, Addr.mk.injEq, and_true, true_and] at hv
  obtain ⟨rfl, rfl⟩ := hv
  have hlt : g < w.heap.size := lt_blk hh
  have hn : l.length = n := by simpa [strCells] using h1
  have hb : (Sort.grow (Sort.putRow encStr (Sort.ahead w m) g 0 ls.toArray) os).heap[g]? = some (.cells (Sort.putCells encStr 0 ls.toArray cur) t (0, 0)) := by
    rw [Sort.heap_grow_old _ _ (by rw [Sort.size_putRow]; exact hlt)]
    simp only [Sort.putRow, Sort.mapBlock, Sort.heap_ahead, Array.getElem?_modify, if_true, hh, Option.map_some, Sort.onCells]
  refine ⟨⟨by simp [hl, hn], .inr ⟨g, cap, _, rfl, hB, hb, h3, h4, by simp [Sort.putCells, h5], ?_⟩⟩, rfl, rfl, rfl, by simp, fun k hk hne => ?_⟩
  · apply List.ext_getElem?
    intro k
    rw [List.getElem?_take]
    split
    · rename_i hk
      have hkl : k < ls.length := by omega
      have hkc : k < cur.size := by omega
      simp only [Array.getElem?_toList, Sort.putCells, Array.getElem?_mapIdx, Array.getElem?_eq_getElem hkc, Option.map_some, List.size_toArray]
      rw [if_pos ⟨Nat.zero_le _, by omega⟩, List.getElem?_map, List.getElem?_eq_getElem hkl, Option.map_some]
      simp [hkl]
    · rw [List.getElem?_eq_none (by simp; omega)]
  · rw [Sort.heap_grow_old _ _ (by rw [Sort.size_putRow]; exact hk)]
    have : ¬ g = k := fun e => hne (by rw [e])
    simp only [Sort.putRow, Sort.mapBlock, Sort.heap_ahead, Array.getElem?_modify, this, if_false]
theorem own_holds {w : World} {B n g cap : Nat} {t : TypeId} {l : List ByteArray} (h : w.ownsRow B t 1 (.slice (some ⟨g, 0, none⟩) n cap) n (strCells l)) : Sort.Holds encStr w g 0 (l.map bt).toArray ∧ g < w.heap.size := by
  obtain ⟨h1, h2⟩ := h
  rcases h2 with ⟨h2, _⟩ | ⟨g', cap', cur, hv, hB, hh, h3, h4, h5, h6⟩
  · cases h2
  simp only [Value.slice.injEq, Option.some.injEq, Addr.mk.injEq, and_true, true_and] at hv
  obtain ⟨rfl, rfl⟩ := hv
  refine ⟨fun j hj => ⟨?_, free_blk hh _⟩, lt_blk hh⟩
  have hj' : j < l.length := by simpa using hj
  have hn : l.length = n := by simpa [strCells] using h1
  rw [cell_blk hh, Nat.zero_add]
  have h7 : (cur.toList.take (n * 1))[j]? = (strCells l)[j]? := by rw [h6]
  rw [List.getElem?_take, if_pos (by omega)] at h7
  rw [← Array.getElem?_toList, h7]
  have h8 : ((l.map bt).map encStr)[j]? = (strCells l)[j]? := by rw [enc_bt]
  rw [← h8, List.getElem?_map, List.getElem?_map, List.getElem?_eq_getElem hj']
  simp [hj']
theorem sort_any (l : List ByteArray) (v : Value) (n B : Nat) (w : World) (h : w.ownsRow B 9 1 v n (strCells l)) (hn : n = l.length) (hlen : l.length ≤ 1000000000) :
    Calls Try.prog 70 #[v] w fun e w' => e = .returned (.tuple #[]) ∧ w'.ownsRow B 9 1 v n (strCells (sortS l)) ∧ w.grownBy w' v.ownBlock := by
  subst hn
  have h' := h
  rcases h.2 with ⟨rfl, h0⟩ | ⟨g, cap, cur, rfl, hg, hh, h3, h4, h5, h6⟩
  · rw [h0]
    refine (Try.slices_Sort_string_none none 0 w).mono ?_
    rintro e w' ⟨rfl, rfl⟩
    obtain rfl : l = [] := List.length_eq_zero_iff.1 h0
    exact ⟨rfl, by simpa [sortS, strCells] using h', rfl, rfl, rfl, Nat.le_refl _, fun _ _ _ => rfl⟩
  · obtain ⟨hH, hlt⟩ := own_holds h
    have := Try.slices_Sort_string g 0 cap (l.map bt) w hH hlt (by simp; omega)
    rw [List.length_map] at this
    refine this.mono ?_
    rintro e w' ⟨rfl, m, os, rfl⟩
    have hs := own_sorted (m := m) (os := os) (ls := (l.map bt).mergeSort fun x y => decide (x ≤ y)) h (by simp)
    refine ⟨rfl, ?_, hs.2⟩
    rw [← enc_bt, bt_sortS]
    exact hs.1
end Go.Proofs.Ytjabjfkfoenmlaa.Sc
