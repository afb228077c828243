/- Is a text a right mark: by the document. The goods of a map, rising; Join by the program. -/
import Derived.Test.YtbigoifpfkdkjaaGreatDoorTd31
import Derived.Test.YtbigoifpfkdkjaaGreatDoorTd23
import Derived.Test.YtbigoifpfkdkjaaGreatDoorTd03
import Derived.Test.YtbigoifpfkdkjaaGreatDoorTd11
import Derived.Test.YtbigoifpfkdkjaaGreatDoorTd26
import Derived.Test.YtbigoifpfkdkjaaGreatDoorTd21
import Derived.Laws.IdiomStrings
import Derived.Shelf.SlSortCmp.NoneTotal
namespace Go.Proofs.YtbigoifpfkdkjaaGreatDoor.Sc
open Go Go.RowKit Go.ChangeShapes Go.WideShapes Go.ChangeAt
set_option maxRecDepth 100000

theorem letters_step {s : ByteArray} {k : Nat} (h : k < s.size) : ((bt s).drop k).all (fun c => letter (c.toNat : Int)) = (letter ((s[k]'h).toNat : Int) && ((bt s).drop (k + 1)).all fun c => letter (c.toNat : Int)) := by
  have hk : k < (bt s).length := by rw [bt_len]; exact h
  rw [List.drop_eq_getElem_cons hk, List.all_cons]
  have : (bt s)[k] = s[k]'h := by simp [bt, ByteArray.getElem_eq_getElem_data]
  rw [this]
theorem letters_end {s : ByteArray} {k : Nat} (h : s.size ≤ k) : ((bt s).drop k).all (fun c => letter (c.toNat : Int)) = true := by
  rw [List.drop_eq_nil_of_le (by rw [bt_len]; exact h)]; rfl
end Go.Proofs.YtbigoifpfkdkjaaGreatDoor.Sc
namespace Go.Proofs.YtbigoifpfkdkjaaGreatDoor.Sc
open Go Go.RowKit Go.ChangeShapes Go.WideShapes Go.ChangeAt
set_option maxRecDepth 100000

theorem dg_int (n : Nat) : ((dg n).toNat : Int) = 48 + (n : Int) % 10 := by
  have := dg_toNat n
  omega
theorem conv_one (x : Int) (d : UInt8) (hx : (d.toNat : Int) = x) (w : World) : (convert 259 9 (.slice (some ⟨w.heap.size, 0, none⟩) 1 1)).run Tryz.prog (w.alloc (.cells #[.int .u8 x] 5)) = .ok (.string (txt [d])) (w.alloc (.cells #[.int .u8 x] 5)) := by
  refine run_convert_bytes_back _ 259 9 5 ⟨w.heap.size, 0, none⟩ 1 [d] Tryz.underlying259 Tryz.underlying5 Tryz.underlying9 fun j hj => ?_
  obtain rfl : j = 0 := by simp at hj; omega
  have := cell_blk (heap_alloc_new w (.cells #[.int .u8 x] 5)) 0
  simp only [List.getElem_cons_zero, hx]
  exact this
theorem conv_two (x y : Int) (d e : UInt8) (hx : (d.toNat : Int) = x) (hy : (e.toNat : Int) = y) (w : World) : (convert 259 9 (.slice (some ⟨w.heap.size, 0, none⟩) 2 2)).run Tryz.prog (w.alloc (.cells #[.int .u8 x, .int .u8 y] 5)) = .ok (.string (txt [d, e])) (w.alloc (.cells #[.int .u8 x, .int .u8 y] 5)) := by
  refine run_convert_bytes_back _ 259 9 5 ⟨w.heap.size, 0, none⟩ 2 [d, e] Tryz.underlying259 Tryz.underlying5 Tryz.underlying9 fun j hj => ?_
  have h0 := cell_blk (heap_alloc_new w (.cells #[.int .u8 x, .int .u8 y] 5)) 0
  have h1 := cell_blk (heap_alloc_new w (.cells #[.int .u8 x, .int .u8 y] 5)) 1
  match j, hj with
  | 0, _ => simp only [List.getElem_cons_zero, hx]; exact h0
  | 1, _ => simp only [List.getElem_cons_succ, List.getElem_cons_zero, hy]; exact h1
theorem digK_step (k m : Nat) (t : List UInt8) : digK (k + 1) m ++ t = digK k (m / 10) ++ (dg m :: t) := by rw [digK, List.append_assoc]; rfl
theorem digK_two {c : Nat} (h : c < 97) : digK 2 c = [dg (c / 10), dg c] ∧ ((dg (c / 10)).toNat : Int) = 48 + (c : Int) / 10 := by
  refine ⟨rfl, ?_⟩
  have := dg_toNat (c / 10)
  omega
end Go.Proofs.YtbigoifpfkdkjaaGreatDoor.Sc
namespace Go.Proofs.YtbigoifpfkdkjaaGreatDoor.Sc
open Go Go.RowKit Go.ChangeShapes Go.WideShapes Go.ChangeAt
set_option maxRecDepth 100000

theorem mark_two {s : List UInt8} (hl : s.length = 12) (hh : headB s = true) : decide (s.drop 10 = digK 2 (sumM s).toNat) = (digit (chAt s 10) && (digit (chAt s 11) && decide (sumM s = 10 * (chAt s 10 - 48) + chAt s 11 - 48))) := by
  have hsm : 0 ≤ sumM s ∧ sumM s < 97 := by rw [sumM, if_pos hh]; omega
  obtain ⟨m, hm⟩ : ∃ m : Nat, sumM s = (m : Int) := ⟨(sumM s).toNat, by omega⟩
  obtain ⟨a, ha⟩ : ∃ a, s[10]? = some a := ⟨_, List.getElem?_eq_getElem (by omega)⟩
  obtain ⟨b, hb⟩ : ∃ b, s[11]? = some b := ⟨_, List.getElem?_eq_getElem (by omega)⟩
  have hd : s.drop 10 = [a, b] := by
    apply List.ext_getElem?
    intro i
    rw [List.getElem?_drop]
    match i with
    | 0 => exact ha
    | 1 => exact hb
    | i + 2 => rw [List.getElem?_eq_none (by omega)]; rfl
  have ca : chAt s 10 = (a.toNat : Int) := by rw [chAt, ha]; rfl
  have cb : chAt s 11 = (b.toNat : Int) := by rw [chAt, hb]; rfl
  rw [hd, hm, Int.toNat_natCast, (digK_two (show m < 97 by omega)).1, ca, cb, Bool.eq_iff_iff]
  simp only [digit, Bool.and_eq_true, decide_eq_true_eq, List.cons.injEq, and_true]
  have h1 := dg_toNat (m / 10)
  have h2 := dg_toNat m
  constructor
  · rintro ⟨rfl, rfl⟩
    omega
  · rintro ⟨h3, h4, h5⟩
    refine ⟨UInt8.toNat_inj.1 (by omega), UInt8.toNat_inj.1 (by omega)⟩
end Go.Proofs.YtbigoifpfkdkjaaGreatDoor.Sc
namespace Go.Proofs.YtbigoifpfkdkjaaGreatDoor.Sc
open Go Go.RowKit Go.ChangeShapes Go.WideShapes Go.ChangeAt Go.Sort Go.Shelf
set_option maxRecDepth 100000

instance inhLt : Inhabited Lt := ⟨⟨⟨#[]⟩, 0⟩⟩
def ltCells (l : List Lt) : List Value := l.flatMap Lt.row
theorem ltCells_flat (l : List Lt) : ltCells l = (l.map Lt.row).flatten := by rw [ltCells, List.flatMap_def]
theorem lt_rows (l : List Lt) : ∀ r ∈ l.map Lt.row, r.length = 2 := by
  intro r hr
  obtain ⟨b, -, rfl⟩ := List.mem_map.1 hr
  rfl
def cmpS (a b : ByteArray) : Int := if bt a < bt b then -1 else if bt b < bt a then 1 else 0
theorem less_bt (a b : ByteArray) : Op.bytesLess a.toList b.toList = decide (bt a < bt b) := by rw [bytesLess_eq, ByteArray.toList_eq, ByteArray.toList_eq]; rfl
theorem nan_any (a : ByteArray) (w : World) : Calls Tryz.prog 172 #[.string a] w (fun e w' => e = .returned (.bool false) ∧ w' = w) := by
  have t1 : (a.toList != a.toList) = false := by simp
  go_enter Tryz.func172, Tryz.ntmps172
  go_wp2
  go_ret
  exact ⟨by simp, rfl⟩
set_option maxHeartbeats 2000000 in
theorem compare_any (a b : ByteArray) (w : World) : Calls Tryz.prog 147 #[.string a, .string b] w (fun e w' => e = .returned (.int .i64 (cmpS a b)) ∧ w' = w) := by
  have HN := Lib.hid (fun a W => nan_any a W)
  by_cases h1 : bt a < bt b
  · have t1 : Op.bytesLess a.toList b.toList = true := by rw [less_bt, decide_eq_true h1]
    have HQ : Hid (cmpS a b = -1) := Lib.hid (if_pos h1)
    clear h1
    go_enter Tryz.func147, Tryz.ntmps147
    go_wp2_with (first | ((with_reducible refine (HN.out _ _).mono ?_); rintro e w2 ⟨rfl, rfl⟩) | fail)
    go_ret
    exact ⟨by rw [HQ.out]; rfl, rfl⟩
  · have t1 : Op.bytesLess a.toList b.toList = false := by rw [less_bt, decide_eq_false h1]
    by_cases h2 : bt b < bt a
    · have t2 : (a.toList == b.toList) = false := by
        have hne : ¬ a.toList = b.toList := fun e => by
          rw [ByteArray.toList_eq, ByteArray.toList_eq] at e
          have e' : bt a = bt b := e
          rw [e'] at h2
          exact List.lt_irrefl _ h2
        simp [hne]
      have HQ : Hid (cmpS a b = 1) := Lib.hid (by rw [cmpS, if_neg h1, if_pos h2])
      clear h1 h2
      go_enter Tryz.func147, Tryz.ntmps147
      go_wp2_with (first | ((with_reducible refine (HN.out _ _).mono ?_); rintro e w2 ⟨rfl, rfl⟩) | fail)
      go_ret
      exact ⟨by rw [HQ.out]; rfl, rfl⟩
    · have t2 : (a.toList == b.toList) = true := by
        have e : bt a = bt b := List.le_antisymm (List.not_lt.1 h2) (List.not_lt.1 h1)
        have e' : a = b := bt_inj e
        simp [e']
      have HQ : Hid (cmpS a b = 0) := Lib.hid (by rw [cmpS, if_neg h1, if_neg h2])
      clear h1 h2
      go_enter Tryz.func147, Tryz.ntmps147
      go_wp2_with (first | ((with_reducible refine (HN.out _ _).mono ?_); rintro e w2 ⟨rfl, rfl⟩) | fail)
      go_ret
      exact ⟨by rw [HQ.out]; rfl, rfl⟩
set_option maxHeartbeats 2000000 in
theorem byGood_any (x y : Lt) (W : World) : Calls Tryz.prog 152 #[x.val, y.val] W (fun e w' => e = .returned (.int .i64 (cmpS x.good y.good)) ∧ ∃ q os', w' = Go.Sort.grow (W.drewN q) os') := by
  obtain ⟨xn, xc⟩ := x
  obtain ⟨yn, yc⟩ := y
  simp only [Lt.val]
  have HC := Lib.hid (fun W => compare_any xn yn W)
  generalize cmpS xn yn = r at HC ⊢
  go_enter Tryz.func152, Tryz.ntmps152
  go_wp2_with (first | ((with_reducible refine (HC.out _).mono ?_); rintro e w2 ⟨rfl, rfl⟩) | fail)
  go_ret
  exact ⟨rfl, 0, _, by rw [alloc_eq_grow, alloc_eq_grow, grow_grow]; rfl⟩
def lessL (x y : Lt) : Bool := ltOf (fun x y : Lt => cmpS x.good y.good) x y
theorem less_lt (x y : Lt) : ltOf (fun x y : Lt => cmpS x.good y.good) x y = decide (bt x.good < bt y.good) := by
  unfold ltOf cmpS
  by_cases h1 : bt x.good < bt y.good
  · simp [h1]
  · by_cases h2 : bt y.good < bt x.good <;> simp [h1, h2]
theorem swo_lots : SWO (ltOf fun x y : Lt => cmpS x.good y.good) where
  irrefl x := by rw [less_lt]; simp
  trans x y z h1 h2 := by rw [less_lt, decide_eq_true_eq] at *; exact List.lt_trans h1 h2
  ntrans x y z h1 h2 := by
    rw [less_lt, decide_eq_false_iff_not, List.not_lt] at *
    exact List.le_trans h2 h1
theorem flat_lots (d : Array Lt) : (flatK Lt.row 2 d).toList = ltCells d.toList := by
  rw [ltCells_flat]
  apply List.ext_getElem?
  intro t
  by_cases ht : t < d.size * 2
  · have e := flat_get (sz := 2) (d.toList.map Lt.row) (lt_rows d.toList) (t / 2) (t % 2) (Nat.mod_lt _ (by decide))
    have e2 : t / 2 * 2 + t % 2 = t := Nat.div_add_mod' t 2
    have h2 : t / 2 < d.size := by omega
    rw [e2] at e
    rw [e, List.getElem?_map, Array.getElem?_toList, Array.getElem?_toList, Array.getElem?_eq_getElem h2]
    have h3 := get_flatK Lt.row 2 d t ht
    have h4 : t < (flatK Lt.row 2 d).size := by simpa using ht
    rw [getElem!_pos _ t h4, getElem!_pos d (t / 2) h2] at h3
    rw [Array.getElem?_eq_getElem h4, h3]
    have h5 : t % 2 < (Lt.row d[t / 2]).length := Nat.mod_lt _ (by decide)
    simp only [Option.map_some, Option.bind_some]
    rw [List.getElem?_eq_getElem h5, getElem!_pos (Lt.row d[t / 2]) (t % 2) h5]
  · rw [List.getElem?_eq_none (by simp; omega), List.getElem?_eq_none]
    rw [flat_len (sz := 2) _ (lt_rows d.toList)]
    simp; omega
theorem own_put {w : World} {B g cap n m sz : Nat} {t : TypeId} {xs : List Value} {F : Array Value} {os : Array Obj} (h : w.ownsRow B t sz (.slice (some ⟨g, 0, none⟩) n cap) n xs) (hl : F.size = xs.length) :
    (Go.Sort.grow (Go.Sort.putRow id (Go.Sort.ahead w m) g 0 F) os).ownsRow B t sz (.slice (some ⟨g, 0, none⟩) n cap) n F.toList ∧ w.grownBy (Go.Sort.grow (Go.Sort.putRow id (Go.Sort.ahead w m) g 0 F) os) (some g) := by
  obtain ⟨h1, h2⟩ := h
  rcases h2 with ⟨h2, _⟩ | ⟨g', cap', cur, hv, hB, hh, h3, h4, h5, h6⟩
  · cases h2
  simp only [Value.slice.injEq, Option.some.injEq, Addr.mk.injEq, and_true, true_and] at hv
  obtain ⟨rfl, rfl⟩ := hv
  have hlt : g < w.heap.size := lt_blk hh
  have hb : (Go.Sort.grow (Go.Sort.putRow id (Go.Sort.ahead w m) g 0 F) os).heap[g]? = some (.cells (Go.Sort.putCells id 0 F cur) t (0, 0)) := by
    rw [Go.Sort.heap_grow_old _ _ (by rw [Go.Sort.size_putRow]; exact hlt)]
    simp only [Go.Sort.putRow, Go.Sort.mapBlock, Go.Sort.heap_ahead, Array.getElem?_modify, if_true, hh, Option.map_some, Go.Sort.onCells]
  have hxl : xs.length ≤ cur.size := by rw [← h6, List.length_take]; simp; omega
  refine ⟨⟨by simp [hl, h1], .inr ⟨g, cap, _, rfl, hB, hb, h3, h4, by simp [Go.Sort.putCells, h5], ?_⟩⟩, rfl, rfl, rfl, by simp, fun k hk hne => ?_⟩
  · apply List.ext_getElem?
    intro k
    rw [List.getElem?_take]
    split
    · rename_i hk
      have hkl : k < F.size := by omega
      have hkc : k < cur.size := by omega
      simp only [Array.getElem?_toList, Go.Sort.putCells, Array.getElem?_mapIdx, Array.getElem?_eq_getElem hkc, Option.map_some]
      rw [if_pos ⟨Nat.zero_le _, by omega⟩, Array.getElem?_eq_getElem hkl]
      simp [hkl]
    · rw [List.getElem?_eq_none (by simp; omega)]
  · rw [Go.Sort.heap_grow_old _ _ (by rw [Go.Sort.size_putRow]; exact hk)]
    have : ¬ g = k := fun e => hne (by rw [e])
    simp only [Go.Sort.putRow, Go.Sort.mapBlock, Go.Sort.heap_ahead, Array.getElem?_modify, this, if_false]
theorem own_holdsK {w : World} {B g cap n : Nat} {t : TypeId} {d : Array Lt} (h : w.ownsRow B t 2 (.slice (some ⟨g, 0, none⟩) n cap) n (ltCells d.toList)) : HoldsK Lt.row 2 w g 0 d ∧ g < w.heap.size := by
  obtain ⟨h1, h2⟩ := h
  rcases h2 with ⟨h2, _⟩ | ⟨g', cap', cur, hv, hB, hh, h3, h4, h5, h6⟩
  · cases h2
  simp only [Value.slice.injEq, Option.some.injEq, Addr.mk.injEq, and_true, true_and] at hv
  obtain ⟨rfl, rfl⟩ := hv
  refine ⟨fun j hj => ⟨?_, free_blk hh _⟩, lt_blk hh⟩
  rw [cell_blk hh, Nat.zero_add]
  have hjl : j < n * 2 := by rw [← h1, ← flat_lots]; simpa using hj
  have h7 : (cur.toList.take (n * 2))[j]? = (flatK Lt.row 2 d).toList[j]? := by rw [h6, flat_lots]
  rw [List.getElem?_take, if_pos hjl, Array.getElem?_toList, Array.getElem?_toList, Array.getElem?_eq_getElem hj] at h7
  rw [h7]
  rw [getElem!_pos _ j hj]
  rfl
/-- The call sorts a row of lots of its own. -/
def SortedP (w : World) (B : Nat) (v : Value) (n : Nat) (D : List Lt) (e : Ending) (w' : World) : Prop :=
  e = .returned (.tuple #[]) ∧ ∃ D', D'.Perm D ∧ (D'.Pairwise fun a b => ¬ bt b.good < bt a.good) ∧ w'.ownsRow B 107 2 v n (ltCells D') ∧ w.grownBy w' v.ownBlock
theorem sortLots_any (D : List Lt) (v : Value) (n B : Nat) (w : World) (h : w.ownsRow B 107 2 v n (ltCells D)) (hn : n = D.length) (hlen : D.length ≤ 1000000000) :
    Calls Tryz.prog 151 #[v, .func (.func 152) #[] #[]] w (SortedP w B v n D) := by
  subst hn
  have h' := h
  rcases h.2 with ⟨rfl, h0⟩ | ⟨g, cap, cur, rfl, hg, hh, h3, h4, h5, h6⟩
  · obtain rfl : D = [] := List.length_eq_zero_iff.1 h0
    refine (AnyF.slices_SortFunc_none Tryz.sortLot none 0 _ w).mono ?_
    rintro e w' ⟨rfl, rfl⟩
    exact ⟨rfl, [], List.Perm.refl _, List.Pairwise.nil, by simpa using h', rfl, rfl, rfl, Nat.le_refl _, fun _ _ _ => rfl⟩
  · have hD : (D.toArray).toList = D := by simp
    obtain ⟨hH, hlt⟩ := own_holdsK (d := D.toArray) (by rw [hD]; exact h)
    have eg : ∀ args w, (callFunc 152 args).run Tryz.prog w = .ok (.enter 152 args) w := enters_of Tryz.func152 (by kernel_rfl) rfl
    have hcl : CmpLays Tryz.prog 152 #[] Lt.row 2 (fun x y => cmpS x.good y.good) g 0 D.toArray.size w := fun _ _ _ _ x y => byGood_any x y _
    have hcon := AnyQ.slices_SortFunc Tryz.sortLot 2 Tryz.isAgg107 Tryz.sizeOf107 Lt.row (fun _ => rfl) (fun x v hv => by simp [Lt.row] at hv; rcases hv with rfl | rfl <;> rfl) (fun x y => cmpS x.good y.good) swo_lots 152 #[] g 0 cap D.toArray w eg hcl hH hlt (by simp; omega)
    have hsz : D.toArray.size = D.length := by simp
    rw [hsz] at hcon
    refine hcon.mono ?_
    rintro e w' ⟨rfl, d', q, os, hp, hs, rfl⟩
    have hdl : d'.size = D.length := by rw [hp.1]; simp
    have hp2 : d'.toList.Perm D := by
      have := hp.2.2
      have e1 : d'.extract 0 D.length = d' := by rw [← hdl]; exact Array.extract_size
      rw [e1] at this
      simpa using this
    have hs2 : d'.toList.Pairwise fun a b => ¬ bt b.good < bt a.good := by
      rw [List.pairwise_iff_getElem]
      intro i j hi hj hij
      have hi' : i < d'.size := by simpa using hi
      have hj' : j < d'.size := by simpa using hj
      have := hs i j (Nat.zero_le _) hij (by omega)
      rw [getElem!_pos d' j hj', getElem!_pos d' i hi', less_lt] at this
      simpa using this
    have ho := own_put (m := q) (os := os) (F := flatK Lt.row 2 d') h (by rw [size_flatK, hdl, ltCells_flat, flat_len (sz := 2) _ (lt_rows D)]; simp)
    rw [flat_lots] at ho
    exact ⟨rfl, d'.toList, hp2, hs2, ho.1, ho.2⟩
end Go.Proofs.YtbigoifpfkdkjaaGreatDoor.Sc
namespace Go.Proofs.YtbigoifpfkdkjaaGreatDoor.Mp
open Go Go.RowKit
def itLeft (w : World) (r b : Nat) : Nat :=
  match w.heap[r]?, w.heap[b]? with
  | some (.mapIter _ _ seen _), some (.map es _) => (leftOf es seen).size
  | _, _ => 0
theorem itLeft_eq {w : World} {r b : Nat} {l todo : Ents} (h : IterAt w r b l todo) : itLeft w r b = todo.length := by
  obtain ⟨es, clock, since, seen, c0, hr, hb, _, _, _, _, _, _, hl⟩ := h
  unfold itLeft
  rw [hr, hb]
  have := hl.length
  simpa using this
theorem mdel_nodup {l : Ents} (k : ByteArray) (h : (mkeys l).Nodup) : (mkeys (mdel l k)).Nodup := by
  have : (mkeys (mdel l k)).Sublist (mkeys l) := List.filter_sublist.map _
  exact this.nodup h
theorem mdel_lt {l : Ents} {k : ByteArray} {v : Value} (h : (k, v) ∈ l) : (mdel l k).length < l.length := by
  rcases Nat.lt_or_ge (mdel l k).length l.length with h1 | h1
  · exact h1
  · exfalso
    have h2 := List.length_filter_le (fun p : ByteArray × Value => !decide (k = p.1)) l
    have h3 : (mdel l k).length = l.length := Nat.le_antisymm h2 h1
    have h4 := List.length_filter_eq_length_iff.1 h3 (k, v) h
    simp at h4
theorem perm_mdel {key : ByteArray} {v : Value} : ∀ {l : Ents}, (mkeys l).Nodup → (key, v) ∈ l → l.Perm ((key, v) :: mdel l key)
  | [], _, h => by simp at h
  | p :: r, hn, h => by
    simp only [mkeys, List.map_cons, List.nodup_cons] at hn
    rcases List.mem_cons.1 h with rfl | h'
    · have : mdel ((key, v) :: r) key = r := by
        rw [mdel, List.filter_cons_of_neg (by simp)]
        refine List.filter_eq_self.2 fun q hq => ?_
        have : ¬ key = q.1 := fun e => hn.1 (List.mem_map.2 ⟨q, hq, e.symm⟩)
        simp [this]
      rw [this]
    · have hk : ¬ key = p.1 := fun e => hn.1 (List.mem_map.2 ⟨(key, v), h', e⟩)
      have : mdel (p :: r) key = p :: mdel r key := by rw [mdel, List.filter_cons_of_pos (by simp [hk])]; rfl
      rw [this]
      exact ((perm_mdel hn.2 h').cons p).trans (List.Perm.swap _ _ _)
end Go.Proofs.YtbigoifpfkdkjaaGreatDoor.Mp
namespace Go.Proofs.YtbigoifpfkdkjaaGreatDoor.Sc
open Go Go.RowKit Go.ChangeShapes Go.WideShapes Go.ChangeAt
set_option maxRecDepth 100000

theorem size_al (w : World) (o : Obj) : (w.alloc o).heap.size = w.heap.size + 1 := by simp
def cntV : Value → Int
  | .int _ c => c
  | _ => 0
def entLots (es : Mp.Ents) : List Lt := es.map fun p => ⟨p.1, cntV p.2⟩
theorem ent_val {es : Mp.Ents} {L : List Lt} (h : CntOf es L) (hn : (Mp.mkeys es).Nodup) {p : ByteArray × Value} (hp : p ∈ es) : ∃ c : Int, p.2 = .int .i64 c ∧ 0 < c ∧ posTot L p.1 = c := by
  have h1 := Mp.mget_of_mem hn hp
  rw [h p.1] at h1
  split at h1
  · exact ⟨_, (Option.some.inj h1).symm, by assumption, rfl⟩
  · cases h1
theorem ent_perm {es : Mp.Ents} {L : List Lt} (h : CntOf es L) (hn : (Mp.mkeys es).Nodup) (hL : Norm L) : (entLots es).Perm L := by
  rw [List.perm_ext_iff_of_nodup]
  · intro x
    rw [mem_norm hL]
    constructor
    · intro hx
      obtain ⟨p, hp, rfl⟩ := List.mem_map.1 hx
      obtain ⟨c, hc, h0, h1⟩ := ent_val h hn hp
      simp only [hc, cntV]
      exact ⟨h0, h1⟩
    · rintro ⟨h0, h1⟩
      have h2 := h x.good
      rw [h1, if_pos h0] at h2
      exact List.mem_map.2 ⟨_, Mp.mem_of_mget h2, rfl⟩
  · refine List.Pairwise.map _ (fun a b (hab : a.1 ≠ b.1) e => hab (by simpa using congrArg Lt.good e)) ?_
    exact List.pairwise_map.1 hn
  · exact hL.up.imp fun {a b} hab e => by rw [e] at hab; exact List.lt_irrefl _ hab
/-- Sorted, whatever order they came in. -/
theorem sorted_lots {D L : List Lt} (hs : D.Pairwise fun a b => ¬ bt b.good < bt a.good) (hp : D.Perm L) (hL : Norm L) : D = L := by
  have hn := norm_goods hL
  refine List.Perm.eq_of_pairwise (le := fun a b => ¬ bt b.good < bt a.good) (fun a b ha hb h1 h2 => ?_) hs (hL.up.imp fun {a b} hab h => List.lt_irrefl _ (List.lt_trans hab h)) hp
  have e : a.good = b.good := bt_inj (List.le_antisymm (List.not_lt.1 h1) (List.not_lt.1 h2))
  have h3 := posTot_of hL (hp.mem_iff.1 ha)
  have h4 := posTot_of hL hb
  obtain ⟨ag, ac⟩ := a
  obtain ⟨bg, bc⟩ := b
  simp only at e h3 h4
  subst e
  rw [h3] at h4
  rw [h4]
theorem entLots_append (a b : Mp.Ents) : entLots (a ++ b) = entLots a ++ entLots b := by simp [entLots]
theorem ltCells_append (a b : List Lt) : ltCells (a ++ b) = ltCells a ++ ltCells b := by simp [ltCells]
theorem infoLt : (Tryz.prog.info? 107).map (fun i => (i.zero, i.size, i.bytes)) = some (some (.agg #[.string ⟨#[]⟩, .int .i64 0]), 2, 24) := by kernel_rfl
theorem lt_one (n : ByteArray) (c : Int) : ∀ u ∈ (#[Value.string n, .int .i64 c] : Array Value).toList, u.oneCell' = true := by
  intro u hu
  simp at hu
  rcases hu with rfl | rfl <;> rfl
theorem own_lots {w : World} {B n : Nat} {v : Value} {l : List Lt} (h : w.ownsRow B 107 2 v n (ltCells l)) (hn : n = l.length) : Sl w 2 v (l.map Lt.row) := by
  rw [ltCells_flat] at h
  exact own_sl h (by simpa using hn) (lt_rows l)
set_option maxHeartbeats 4000000 in
theorem rising_any (es : Mp.Ents) (L : List Lt) (bm : Nat) (w : World) (hm : Mp.MapAt w bm es) (hc : CntOf es L) (hL : Norm L) (hl : es.length ≤ 4000) :
    Calls Tryz.prog 90 #[.map (some bm)] w (RetRow w 107 2 L.length (ltCells L)) := by
  have HM := Lib.hid hm
  have HND := Lib.hid hm.nodup
  have HCN := Lib.hid hc
  have HNL := Lib.hid hL
  have HLEN := Lib.hid hl
  obtain ⟨i0, hi, hz, hsz, hby⟩ := info_parts infoLt
  have HI := Lib.hid (And.intro hi (And.intro hz (And.intro hsz hby)))
  clear hi hz hsz hby hm hc hL hl
  go_enter Tryz.func90, Tryz.ntmps90
  go_wp2_with (first
    | ((with_reducible refine Mp.wpl_range (b := bm) (l := es) ?_ ?_ Tryz.underlying183 HM.out ?_); rfl; rfl; intro w1 hit ha; have HIT := Lib.hid hit; have HB1 : Hid (Below w.heap.size w w1) := Lib.hid (by obtain ⟨o, rfl⟩ := ha; exact one_below _ _); clear hit ha; go_frame)
    | fail)
  obtain ⟨r, hr⟩ : ∃ r, r = w.heap.size := ⟨_, rfl⟩
  have HR := Lib.hid hr
  rw [← hr] at HIT ⊢
  clear hr
  have HRW : Hid (r < w1.heap.size) := Lib.hid HIT.out.lt.1
  have HMW : Hid (bm < w1.heap.size) := Lib.hid HIT.out.lt.2
  go_loopw [3, 4, 5] (fun o _ _ wr => ∃ done todo : Mp.Ents, Mp.IterAt wr r bm es todo ∧ (done ++ todo).Perm es ∧ wr.ownsRow w1.heap.size 107 2 o (entLots done).length (ltCells (entLots done)) ∧ Below w.heap.size w wr ∧ w1.heap.size ≤ wr.heap.size) (fun _ _ _ wr => Mp.itLeft wr r bm)
  case atStart => exact ⟨[], es, HIT.out, List.Perm.refl _, World.ownsRow_nil _ _ _ _, HB1.out, Nat.le_refl _⟩
  case round =>
    obtain ⟨done, todo, hit, hp, hown, hbel, hsz⟩ := hrel
    have HIT2 := Lib.hid hit
    have HP2 := Lib.hid hp
    have HOWN := Lib.hid hown
    have HBEL := Lib.hid hbel
    have HSZ := Lib.hid hsz
    have HDL : Hid ((entLots done).length ≤ 4000) := Lib.hid (by
      have h2 := hp.length_eq
      have h3 := HLEN.out
      rw [List.length_append] at h2
      rw [entLots, List.length_map]
      omega)
    clear hit hp hown hbel hsz
    go_wp2_with (first
      | ((with_reducible refine Mp.wpl_next ?_ ?_ HIT2.out ?_ ?_); rfl; rfl)
      | fail)
    · intro h0
      have HT := Lib.hid h0
      clear h0
      have HSO := Lib.hid (fun W h => sortLots_any (entLots done) u3 (entLots done).length w1.heap.size W h rfl (by have := HDL.out; omega))
      have HPD : Hid ((entLots done).Perm L) := Lib.hid (by
        have := HP2.out
        rw [HT.out, List.append_nil] at this
        exact (this.map _).trans (ent_perm HCN.out HND.out HNL.out))
      go_wp2_with (first
        | ((with_reducible refine (HSO.out _ HOWN.out).mono ?_); rintro e w3 ⟨rfl, D', hp3, hs3, ho3, hg3⟩; have HS3 := Lib.hid (And.intro hp3 hs3); have HO3 := Lib.hid ho3; have HG3 := Lib.hid hg3; clear hp3 hs3 ho3 hg3)
        | fail)
      go_ret
      have hD := sorted_lots HS3.out.2 (HS3.out.1.trans HPD.out) HNL.out
      have ho := HO3.out
      rw [hD, HPD.out.length_eq] at ho
      exact retRow ho HB1.out.size (HBEL.out.grown HG3.out HBEL.out.size (fun k hk => Nat.le_trans HB1.out.size (HOWN.out.lt k hk).1))
    · intro key sv wc hmem hitc hgc hsc hen
      have HMEM := Lib.hid hmem
      have HITC := Lib.hid hitc
      obtain ⟨c, hcv, -, -⟩ := ent_val HCN.out HND.out (HP2.out.mem_iff.1 (List.mem_append.2 (.inr hmem)))
      simp only at hcv
      subst hcv
      have HBC : Hid (Below w.heap.size w wc) := Lib.hid (HBEL.out.grown hgc HBEL.out.size (fun k hk => by have := HR.out; have e' := Option.some.inj hk; omega))
      have HSC : Hid (w1.heap.size ≤ wc.heap.size) := Lib.hid (Nat.le_trans HSZ.out hgc.size)
      have HOC : Hid (wc.ownsRow w1.heap.size 107 2 u3 (entLots done).length (ltCells (entLots done))) := Lib.hid (ownsRow_keep HOWN.out (Keep.of_grown hgc) (ownsRow_off HOWN.out (fun b hb _ e => by have := HRW.out; have e' := Option.some.inj e; omega)))
      have hnt : (Mp.mkeys todo).Nodup := by
        have hnd : (Mp.mkeys (done ++ todo)).Nodup := (HP2.out.map Prod.fst).nodup_iff.2 HND.out
        rw [Mp.mkeys, List.map_append, List.nodup_append] at hnd
        exact hnd.2.1
      have HPD : Hid ((done ++ [(key, Value.int .i64 c)] ++ Mp.mdel todo key).Perm es) := Lib.hid (by
        refine List.Perm.trans ?_ HP2.out
        rw [List.append_assoc]
        exact (Mp.perm_mdel hnt hmem).symm.append_left done)
      have HL : Hid ((entLots done).length + 1 ≤ maxLen ∧ ((entLots done).length + 1) * 24 ≤ 140737488355328 ∧ w1.heap.size ≤ wc.heap.size) := Lib.hid (by
        have := HDL.out
        have := HSC.out
        simp only [maxLen]
        omega)
      have HDS : Hid (entLots (done ++ [(key, Value.int .i64 c)]) = entLots done ++ [Lt.mk key c]) := Lib.hid (by rw [entLots_append]; rfl)
      clear hmem hitc hgc hsc hnt
      generalize entLots done = D at *
      go_wp2_with (first
        | (((with_reducible refine Any.wpl_push ?_ ?_ ?_ Tryz.underlying88 HI.out.1 HI.out.2.1 HI.out.2.2.1 HI.out.2.2.2 ?_ (by decide) ?_ (lt_one key c) (HOC.out) HL.out.1 HL.out.2.1 HL.out.2.2 ?_); rfl; rfl; rfl; rfl; rfl; intro v1 w1 hown1 hgrow1 hwho1); have HOWN1 := Lib.hid hown1; have HG1 := Lib.hid hgrow1; clear hown1 hgrow1 hwho1)
        | fail)
      go_roundw
      case rel =>
        refine ⟨done ++ [(key, Value.int .i64 c)], Mp.mdel todo key, ?_, HPD.out, ?_, HBC.out.grown HG1.out HBC.out.size (fun k hk => Nat.le_trans HB1.out.size (HOC.out.lt k hk).1), Nat.le_trans HSC.out HG1.out.size⟩
        · exact HITC.out.same (HG1.out.block r HITC.out.lt.1 (fun e => by have := (HOC.out.lt r e.symm).1; have := HRW.out; omega)) (HG1.out.block bm HITC.out.lt.2 (fun e => by have := (HOC.out.lt bm e.symm).1; have := HMW.out; omega))
        · rw [HDS.out]
          have := HOWN1.out
          simpa [ltCells, Lt.row] using this
      case measure =>
        rw [Mp.itLeft_eq (HITC.out.same (HG1.out.block r HITC.out.lt.1 (fun e => by have := (HOC.out.lt r e.symm).1; have := HRW.out; omega)) (HG1.out.block bm HITC.out.lt.2 (fun e => by have := (HOC.out.lt bm e.symm).1; have := HMW.out; omega))), Mp.itLeft_eq HIT2.out]
        exact Mp.mdel_lt HMEM.out
theorem cntOf_tot {es : Mp.Ents} {l m : List Lt} (h : CntOf es l) (e : ∀ n, posTot m n = posTot l n) : CntOf es m := fun n => by rw [e n]; exact h n
set_option maxHeartbeats 2000000 in
theorem join_any (l : List Lt) (v : Value) (w : World) (hs : Sl w 2 v (l.map Lt.row)) (hl : l.length ≤ 4000) (hc : ∀ x ∈ l, x.cnt ≤ 1099511627776) :
    Calls Tryz.prog 36 #[v] w (RetRow w 107 2 (joinL l).length (ltCells (joinL l))) := by
  have HC := Lib.hid (counts_any l v w hs hl hc)
  have HL := Lib.hid hl
  clear hs hl hc
  go_enter Tryz.func36, Tryz.ntmps36
  go_wp2_with (first
    | ((with_reducible refine HC.out.mono ?_); rintro e w1 ⟨bm, es, rfl, hbm, hm, hcn, hel, hb1⟩; have HB := Lib.hid hb1; have HRI := Lib.hid (rising_any es (joinL l) bm w1 hm (cntOf_tot hcn (joinL_tot l)) (joinL_norm l) (by have := HL.out; omega)); clear hbm hm hcn hel hb1)
    | ((with_reducible refine HRI.out.mono ?_); rintro e w2 ⟨v2, rfl, hown, hb2⟩; have HO := Lib.hid hown; have HB2 := Lib.hid hb2; clear hown hb2)
    | fail)
  go_ret
  exact retRow HO.out HB.out.size (HB.out.trans (HB2.out.mono HB.out.size))
end Go.Proofs.YtbigoifpfkdkjaaGreatDoor.Sc
