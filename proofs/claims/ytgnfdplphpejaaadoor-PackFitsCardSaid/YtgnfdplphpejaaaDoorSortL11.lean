/- Lots sorted by their goods: the library's SortFunc with the program's closure. -/
import Derived.Test.YtgnfdplphpejaaaDoorCounts11
import Derived.Test.YtgnfdplphpejaaaDoorLays12
import Derived.Shelf.SlSortCmp.NoneTotal
namespace Go.Proofs.YtgnfdplphpejaaaDoor.Sc
open Go Go.RowKit Go.ChangeShapes Go.WideShapes Go.ChangeAt Go.Sort Go.Shelf
set_option maxRecDepth 100000

instance inhLt : Inhabited Lt := ⟨⟨⟨#[]⟩, 0⟩⟩
def ltCells (l : List Lt) : List Value := l.flatMap Lt.row
theorem ltCells_flat (l : List Lt) : ltCells l = (l.map Lt.row).flatten := by rw [ltCells, List.flatMap_def]
theorem lt_rows (l : List Lt) : ∀ r ∈ l.map Lt.row, r.length = 2 := by
  intro r hr
  obtain ⟨b, -, rfl⟩ := List.mem_map.1 hr
  rfl
def cmpS (a b : ByteArray) : Int := if bt a < bt b then -1 else if bt b < bt a then 1 else 0
theorem less_bt (a b : ByteArray) : Op.bytesLess a.toList b.toList = decide (bt a < bt b) := by rw [bytesLess_eq, ByteArray.toList_eq, ByteArray.toList_eq]; rfl
theorem nan_any (a : ByteArray) (w : World) : Calls Tryd.prog 58 #[.string a] w (fun e w' => e = .returned (.bool false) ∧ w' = w) := by
  have t1 : (a.toList != a.toList) = false := by simp
  go_enter Tryd.func58, Tryd.ntmps58
  go_wp2
  go_ret
  exact ⟨by simp, rfl⟩
set_option maxHeartbeats 2000000 in
theorem compare_any (a b : ByteArray) (w : World) : Calls Tryd.prog 42 #[.string a, .string b] w (fun e w' => e = .returned (.int .i64 (cmpS a b)) ∧ w' = w) := by
  have HN := Lib.hid (fun a W => nan_any a W)
  by_cases h1 : bt a < bt b
  · have t1 : Op.bytesLess a.toList b.toList = true := by rw [less_bt, decide_eq_true h1]
    have HQ : Hid (cmpS a b = -1) := Lib.hid (if_pos h1)
    clear h1
    go_enter Tryd.func42, Tryd.ntmps42
    go_wp2_with (first | ((with_reducible refine (HN.out _ _).mono ?_); rintro e w2 ⟨rfl, rfl⟩) | fail)
    go_ret
    exact ⟨by rw [HQ.out]; rfl, rfl⟩
  · have t1 : Op.bytesLess a.toList b.toList = false := by rw [less_bt, decide_eq_false h1]
    by_cases h2 : bt b < bt a
    · have t2 : (a.toList == b.toList) = false := by
        have hne : ¬ a.toList = b.toList := fun e => by
          rw [ByteArray.toList_eq, ByteArray.toList_eq] at e
          have e' : bt a = bt b := e
          rw [e'] at h2
          exact List.lt_irrefl _ h2
        simp [hne]
      have HQ : Hid (cmpS a b = 1) := Lib.hid (by rw [cmpS, if_neg h1, if_pos h2])
      clear h1 h2
      go_enter Tryd.func42, Tryd.ntmps42
      go_wp2_with (first | ((with_reducible refine (HN.out _ _).mono ?_); rintro e w2 ⟨rfl, rfl⟩) | fail)
      go_ret
      exact ⟨by rw [HQ.out]; rfl, rfl⟩
    · have t2 : (a.toList == b.toList) = true := by
        have e : bt a = bt b := List.le_antisymm (List.not_lt.1 h2) (List.not_lt.1 h1)
        have e' : a = b := bt_inj e
        simp [e']
      have HQ : Hid (cmpS a b = 0) := Lib.hid (by rw [cmpS, if_neg h1, if_neg h2])
      clear h1 h2
      go_enter Tryd.func42, Tryd.ntmps42
      go_wp2_with (first | ((with_reducible refine (HN.out _ _).mono ?_); rintro e w2 ⟨rfl, rfl⟩) | fail)
      go_ret
      exact ⟨by rw [HQ.out]; rfl, rfl⟩
set_option maxHeartbeats 2000000 in
theorem byGood_any (x y : Lt) (W : World) : Calls Tryd.prog 67 #[x.val, y.val] W (fun e w' => e = .returned (.int .i64 (cmpS x.good y.good)) ∧ ∃ q os', w' = Go.Sort.grow (W.drewN q) os') := by
  obtain ⟨xn, xc⟩ := x
  obtain ⟨yn, yc⟩ := y
  simp only [Lt.val]
  have HC := Lib.hid (fun W => compare_any xn yn W)
  generalize cmpS xn yn = r at HC ⊢
  go_enter Tryd.func67, Tryd.ntmps67
  go_wp2_with (first | ((with_reducible refine (HC.out _).mono ?_); rintro e w2 ⟨rfl, rfl⟩) | fail)
  go_ret
  exact ⟨rfl, 0, _, by rw [alloc_eq_grow, alloc_eq_grow, grow_grow]; rfl⟩
def lessL (x y : Lt) : Bool := ltOf (fun x y : Lt => cmpS x.good y.good) x y
theorem less_lt (x y : Lt) : ltOf (fun x y : Lt => cmpS x.good y.good) x y = decide (bt x.good < bt y.good) := by
  unfold ltOf cmpS
  by_cases h1 : bt x.good < bt y.good
  · simp [h1]
  · by_cases h2 : bt y.good < bt x.good <;> simp [h1, h2]
theorem swo_lots : SWO (ltOf fun x y : Lt => cmpS x.good y.good) where
  irrefl x := by rw [less_lt]; simp
  trans x y z h1 h2 := by rw [less_lt, decide_eq_true_eq] at *; exact List.lt_trans h1 h2
  ntrans x y z h1 h2 := by
    rw [less_lt, decide_eq_false_iff_not, List.not_lt] at *
    exact List.le_trans h2 h1
theorem flat_lots (d : Array Lt) : (flatK Lt.row 2 d).toList = ltCells d.toList := by
  rw [ltCells_flat]
  apply List.ext_getElem?
  intro t
  by_cases ht : t < d.size * 2
  · have e := flat_get (sz := 2) (d.toList.map Lt.row) (lt_rows d.toList) (t / 2) (t % 2) (Nat.mod_lt _ (by decide))
    have e2 : t / 2 * 2 + t % 2 = t := Nat.div_add_mod' t 2
    have h2 : t / 2 < d.size := by omega
    rw [e2] at e
    rw [e, List.getElem?_map, Array.getElem?_toList, Array.getElem?_toList, Array.getElem?_eq_getElem h2]
    have h3 := get_flatK Lt.row 2 d t ht
    have h4 : t < (flatK Lt.row 2 d).size := by simpa using ht
    rw [getElem!_pos _ t h4, getElem!_pos d (t / 2) h2] at h3
    rw [Array.getElem?_eq_getElem h4, h3]
    have h5 : t % 2 < (Lt.row d[t / 2]).length := Nat.mod_lt _ (by decide)
    simp only [Option.map_some, Option.bind_some]
    rw [List.getElem?_eq_getElem h5, getElem!_pos (Lt.row d[t / 2]) (t % 2) h5]
  · rw [List.getElem?_eq_none (by simp; omega), List.getElem?_eq_none]
    rw [flat_len (sz := 2) _ (lt_rows d.toList)]
    simp; omega
theorem own_put {w : World} {B g cap n m sz : Nat} {t : TypeId} {xs : List Value} {F : Array Value} {os : Array Obj} (h : w.ownsRow B t sz (.slice (some ⟨g, 0, none⟩) n cap) n xs) (hl : F.size = xs.length) :
    (Go.Sort.grow (Go.Sort.putRow id (Go.Sort.ahead w m) g 0 F) os).ownsRow B t sz (.slice (some ⟨g, 0, none⟩) n cap) n F.toList ∧ w.grownBy (Go.Sort.grow (Go.Sort.putRow id (Go.Sort.ahead w m) g 0 F) os) (some g) := by
  obtain ⟨h1, h2⟩ := h
  rcases h2 with ⟨h2, _⟩ | ⟨g', cap', cur, hv, hB, hh, h3, h4, h5, h6⟩
  · cases h2
  simp only [Value.slice.injEq, Option.some.injEq, Addr.mk.injEq, and_true, true_and] at hv
  obtain ⟨rfl, rfl⟩ := hv
  have hlt : g < w.heap.size := lt_blk hh
  have hb : (Go.Sort.grow (Go.Sort.putRow id (Go.Sort.ahead w m) g 0 F) os).heap[g]? = some (.cells (Go.Sort.putCells id 0 F cur) t (0, 0)) := by
    rw [Go.Sort.heap_grow_old _ _ (by rw [Go.Sort.size_putRow]; exact hlt)]
    simp only [Go.Sort.putRow, Go.Sort.mapBlock, Go.Sort.heap_ahead, Array.getElem?_modify, if_true, hh, Option.map_some, Go.Sort.onCells]
  have hxl : xs.length ≤ cur.size := by rw [← h6, List.length_take]; simp; omega
  refine ⟨⟨by simp [hl, h1], .inr ⟨g, cap, _, rfl, hB, hb, h3, h4, by simp [Go.Sort.putCells, h5], ?_⟩⟩, rfl, rfl, rfl, by simp, fun k hk hne => ?_⟩
  · apply List.ext_getElem?
    intro k
    rw [List.getElem?_take]
    split
    · rename_i hk
      have hkl : k < F.size := by omega
      have hkc : k < cur.size := by omega
      simp only [Array.getElem?_toList, Go.Sort.putCells, Array.getElem?_mapIdx, Array.getElem?_eq_getElem hkc, Option.map_some]
      rw [if_pos ⟨Nat.zero_le _, by omega⟩, Array.getElem?_eq_getElem hkl]
      simp [hkl]
    · rw [List.getElem?_eq_none (by simp; omega)]
  · rw [Go.Sort.heap_grow_old _ _ (by rw [Go.Sort.size_putRow]; exact hk)]
    have : ¬ g = k := fun e => hne (by rw [e])
    simp only [Go.Sort.putRow, Go.Sort.mapBlock, Go.Sort.heap_ahead, Array.getElem?_modify, this, if_false]
theorem own_holdsK {w : World} {B g cap n : Nat} {t : TypeId} {d : Array Lt} (h : w.ownsRow B t 2 (.slice (some ⟨g, 0, none⟩) n cap) n (ltCells d.toList)) : HoldsK Lt.row 2 w g 0 d ∧ g < w.heap.size := by
  obtain ⟨h1, h2⟩ := h
  rcases h2 with ⟨h2, _⟩ | ⟨g', cap', cur, hv, hB, hh, h3, h4, h5, h6⟩
  · cases h2
  simp only [Value.slice.injEq, Option.some.injEq, Addr.mk.injEq, and_true, true_and] at hv
  obtain ⟨rfl, rfl⟩ := hv
  refine ⟨fun j hj => ⟨?_, free_blk hh _⟩, lt_blk hh⟩
  rw [cell_blk hh, Nat.zero_add]
  have hjl : j < n * 2 := by rw [← h1, ← flat_lots]; simpa using hj
  have h7 : (cur.toList.take (n * 2))[j]? = (flatK Lt.row 2 d).toList[j]? := by rw [h6, flat_lots]
  rw [List.getElem?_take, if_pos hjl, Array.getElem?_toList, Array.getElem?_toList, Array.getElem?_eq_getElem hj] at h7
  rw [h7]
  rw [getElem!_pos _ j hj]
  rfl
/-- The call sorts a row of lots of its own. -/
def SortedP (w : World) (B : Nat) (v : Value) (n : Nat) (D : List Lt) (e : Ending) (w' : World) : Prop :=
  e = .returned (.tuple #[]) ∧ ∃ D', D'.Perm D ∧ (D'.Pairwise fun a b => ¬ bt b.good < bt a.good) ∧ w'.ownsRow B 35 2 v n (ltCells D') ∧ w.grownBy w' v.ownBlock
theorem sortLots_any (D : List Lt) (v : Value) (n B : Nat) (w : World) (h : w.ownsRow B 35 2 v n (ltCells D)) (hn : n = D.length) (hlen : D.length ≤ 1000000000) :
    Calls Tryd.prog 66 #[v, .func (.func 67) #[] #[]] w (SortedP w B v n D) := by
  subst hn
  have h' := h
  rcases h.2 with ⟨rfl, h0⟩ | ⟨g, cap, cur, rfl, hg, hh, h3, h4, h5, h6⟩
  · obtain rfl : D = [] := List.length_eq_zero_iff.1 h0
    refine (AnyF.slices_SortFunc_none Tryd.sortLot none 0 _ w).mono ?_
    rintro e w' ⟨rfl, rfl⟩
    exact ⟨rfl, [], List.Perm.refl _, List.Pairwise.nil, by simpa using h', rfl, rfl, rfl, Nat.le_refl _, fun _ _ _ => rfl⟩
  · have hD : (D.toArray).toList = D := by simp
    obtain ⟨hH, hlt⟩ := own_holdsK (d := D.toArray) (by rw [hD]; exact h)
    have eg : ∀ args w, (callFunc 67 args).run Tryd.prog w = .ok (.enter 67 args) w := enters_of Tryd.func67 (by kernel_rfl) rfl
    have hcl : CmpLays Tryd.prog 67 #[] Lt.row 2 (fun x y => cmpS x.good y.good) g 0 D.toArray.size w := fun _ _ _ _ x y => byGood_any x y _
    have hcon := AnyQ.slices_SortFunc Tryd.sortLot 2 Tryd.isAgg35 Tryd.sizeOf35 Lt.row (fun _ => rfl) (fun x v hv => by simp [Lt.row] at hv; rcases hv with rfl | rfl <;> rfl) (fun x y => cmpS x.good y.good) swo_lots 67 #[] g 0 cap D.toArray w eg hcl hH hlt (by simp; omega)
    have hsz : D.toArray.size = D.length := by simp
    rw [hsz] at hcon
    refine hcon.mono ?_
    rintro e w' ⟨rfl, d', q, os, hp, hs, rfl⟩
    have hdl : d'.size = D.length := by rw [hp.1]; simp
    have hp2 : d'.toList.Perm D := by
      have := hp.2.2
      have e1 : d'.extract 0 D.length = d' := by rw [← hdl]; exact Array.extract_size
      rw [e1] at this
      simpa using this
    have hs2 : d'.toList.Pairwise fun a b => ¬ bt b.good < bt a.good := by
      rw [List.pairwise_iff_getElem]
      intro i j hi hj hij
      have hi' : i < d'.size := by simpa using hi
      have hj' : j < d'.size := by simpa using hj
      have := hs i j (Nat.zero_le _) hij (by omega)
      rw [getElem!_pos d' j hj', getElem!_pos d' i hi', less_lt] at this
      simpa using this
    have ho := own_put (m := q) (os := os) (F := flatK Lt.row 2 d') h (by rw [size_flatK, hdl, ltCells_flat, flat_len (sz := 2) _ (lt_rows D)]; simp)
    rw [flat_lots] at ho
    exact ⟨rfl, d'.toList, hp2, hs2, ho.1, ho.2⟩
end Go.Proofs.YtgnfdplphpejaaaDoor.Sc
