/- What somebody holds: the receipts of a holder, by their numbers. -/
import Derived.Test.YticnmmfiadpbbaaGreatTell25
import Derived.Lib.Bytealg
namespace Go.Proofs.YticnmmfiadpbbaaGreat.Sc
open Go Go.RowKit Go.ChangeShapes Go.WideShapes Go.ChangeAt Go.Sort Go.Shelf
set_option maxRecDepth 100000

/-- A receipt, and the slice that holds its lots. -/
structure Ro where
  rc : Rc
  a : Option Addr
  c : Nat
instance inhRo : Inhabited Ro := ⟨⟨zeroR, none, 0⟩⟩
def Ro.lv (x : Ro) : Value := .slice x.a x.rc.lots.length x.c
def Ro.row (x : Ro) : List Value := [.string x.rc.num, .string x.rc.house, .string x.rc.hold, .slice x.a x.rc.lots.length x.c, .int .i64 x.rc.day]
def Ro.val (x : Ro) : Value := .agg #[.string x.rc.num, .string x.rc.house, .string x.rc.hold, .slice x.a x.rc.lots.length x.c, .int .i64 x.rc.day]
def roCells (l : List Ro) : List Value := (l.map Ro.row).flatten
theorem ro_rows (l : List Ro) : ∀ r ∈ l.map Ro.row, r.length = 5 := by
  intro r hr
  obtain ⟨b, -, rfl⟩ := List.mem_map.1 hr
  rfl
theorem roCells_snoc (l : List Ro) (x : Ro) : roCells (l ++ [x]) = roCells l ++ x.row := by simp [roCells]
/-- A row of receipts flattened. -/
theorem flat_ros (d : Array Ro) : (flatK Ro.row 5 d).toList = roCells d.toList := by
  unfold roCells
  apply List.ext_getElem?
  intro t
  by_cases ht : t < d.size * 5
  · have e := flat_get (sz := 5) (d.toList.map Ro.row) (ro_rows d.toList) (t / 5) (t % 5) (Nat.mod_lt _ (by decide))
    have e2 : t / 5 * 5 + t % 5 = t := Nat.div_add_mod' t 5
    have h2 : t / 5 < d.size := by omega
    rw [e2] at e
    rw [e, List.getElem?_map, Array.getElem?_toList, Array.getElem?_toList, Array.getElem?_eq_getElem h2]
    have h3 := get_flatK Ro.row 5 d t ht
    have h4 : t < (flatK Ro.row 5 d).size := by simpa using ht
    rw [getElem!_pos _ t h4, getElem!_pos d (t / 5) h2] at h3
    rw [Array.getElem?_eq_getElem h4, h3]
    have h5 : t % 5 < (Ro.row d[t / 5]).length := Nat.mod_lt _ (by decide)
    simp only [Option.map_some, Option.bind_some]
    rw [List.getElem?_eq_getElem h5, getElem!_pos (Ro.row d[t / 5]) (t % 5) h5]
  · rw [List.getElem?_eq_none (by simp; omega), List.getElem?_eq_none]
    rw [flat_len (sz := 5) _ (ro_rows d.toList)]
    simp; omega
theorem own_holdsR {w : World} {B g cap n : Nat} {t : TypeId} {d : Array Ro} (h : w.ownsRow B t 5 (.slice (some ⟨g, 0, none⟩) n cap) n (roCells d.toList)) : HoldsK Ro.row 5 w g 0 d ∧ g < w.heap.size := by
  obtain ⟨h1, h2⟩ := h
  rcases h2 with ⟨h2, _⟩ | ⟨g', cap', cur, hv, hB, hh, h3, h4, h5, h6⟩
  · cases h2
  simp only [Value.slice.injEq, Option.some.injEq, Addr.mk.injEq, and_true, true_and] at hv
  obtain ⟨rfl, rfl⟩ := hv
  refine ⟨fun j hj => ⟨?_, free_blk hh _⟩, lt_blk hh⟩
  rw [cell_blk hh, Nat.zero_add]
  have hjl : j < n * 5 := by rw [← h1, ← flat_ros]; simpa using hj
  have h7 : (cur.toList.take (n * 5))[j]? = (flatK Ro.row 5 d).toList[j]? := by rw [h6, flat_ros]
  rw [List.getElem?_take, if_pos hjl, Array.getElem?_toList, Array.getElem?_toList, Array.getElem?_eq_getElem hj] at h7
  rw [h7]
  rw [getElem!_pos _ j hj]
  rfl
theorem cmpB_eq : ∀ (a b : List UInt8), Lib.compareBytes a b = if a < b then -1 else if b < a then 1 else 0
  | [], [] => by simp [Lib.compareBytes]
  | [], _ :: _ => by simp [Lib.compareBytes]
  | _ :: _, [] => by simp [Lib.compareBytes]
  | x :: a, y :: b => by
    rw [Lib.compareBytes, cmpB_eq a b]
    simp only [List.cons_lt_cons_iff]
    by_cases h1 : x < y
    · simp [h1]
    · by_cases h2 : y < x
      · have h3 : ¬ x = y := fun e => by rw [e] at h2; exact UInt8.lt_irrefl _ h2
        simp [h1, h2, h3]
      · have h3 : x = y := UInt8.le_antisymm (UInt8.not_lt.1 h2) (UInt8.not_lt.1 h1)
        subst h3
        simp
theorem cmpString_any (a b : ByteArray) (w : World) : Calls Tryz.prog 62 #[.string a, .string b] w (fun e w' => e = .returned (.int .i64 (cmpS a b)) ∧ w' = w) := by
  have HQ : Hid (cmpS a b = Lib.compareBytes a.data.toList b.data.toList) := Lib.hid (by rw [cmpB_eq]; rfl)
  go_enter Tryz.func62, Tryz.ntmps62
  go_wp2
  rw [run_callFunc_extern Tryz.func91 (by kernel_rfl) (by kernel_rfl) (by kernel_rfl) (e := Extern.BytealgCompare.compare) (by kernel_rfl), Lib.run_compareString]
  simp only [Result.andThen]
  rw [Oper.upon_value]
  go_wp2
  go_ret
  exact ⟨by rw [HQ.out]; rfl, rfl⟩
theorem strCompare_any (a b : ByteArray) (w : World) : Calls Tryz.prog 26 #[.string a, .string b] w (fun e w' => e = .returned (.int .i64 (cmpS a b)) ∧ w' = w) := by
  have HC := Lib.hid (fun W => cmpString_any a b W)
  generalize cmpS a b = r at HC ⊢
  go_enter Tryz.func26, Tryz.ntmps26
  go_wp2_with (first | ((with_reducible refine (HC.out _).mono ?_); rintro e w2 ⟨rfl, rfl⟩) | fail)
  go_ret
  exact ⟨rfl, rfl⟩
set_option maxHeartbeats 4000000 in
theorem byNum_any (x y : Ro) (W : World) : Calls Tryz.prog 25 #[x.val, y.val] W (fun e w' => e = .returned (.int .i64 (cmpS x.rc.num y.rc.num)) ∧ ∃ q os', w' = Go.Sort.grow (W.drewN q) os') := by
  obtain ⟨⟨xn, xh, xo, xl, xd⟩, xa, xc⟩ := x
  obtain ⟨⟨yn, yh, yo, yl, yd⟩, ya, yc⟩ := y
  simp only [Ro.val]
  have HC := Lib.hid (fun W => strCompare_any xn yn W)
  generalize cmpS xn yn = r at HC ⊢
  go_enter Tryz.func25, Tryz.ntmps25
  go_wp2_with (first | ((with_reducible refine (HC.out _).mono ?_); rintro e w2 ⟨rfl, rfl⟩) | fail)
  go_ret
  exact ⟨rfl, 0, _, by rw [alloc_eq_grow, alloc_eq_grow, grow_grow]; rfl⟩
theorem less_ro (x y : Ro) : ltOf (fun x y : Ro => cmpS x.rc.num y.rc.num) x y = decide (bt x.rc.num < bt y.rc.num) := by
  unfold ltOf cmpS
  by_cases h1 : bt x.rc.num < bt y.rc.num
  · simp [h1]
  · by_cases h2 : bt y.rc.num < bt x.rc.num <;> simp [h1, h2]
theorem swo_ro : SWO (ltOf fun x y : Ro => cmpS x.rc.num y.rc.num) where
  irrefl x := by rw [less_ro]; simp
  trans x y z h1 h2 := by rw [less_ro, decide_eq_true_eq] at *; exact List.lt_trans h1 h2
  ntrans x y z h1 h2 := by
    rw [less_ro, decide_eq_false_iff_not, List.not_lt] at *
    exact List.le_trans h2 h1
def SortRP (w : World) (B : Nat) (v : Value) (n : Nat) (D : List Ro) (e : Ending) (w' : World) : Prop :=
  e = .returned (.tuple #[]) ∧ ∃ D', D'.Perm D ∧ (D'.Pairwise fun a b => ¬ bt b.rc.num < bt a.rc.num) ∧ w'.ownsRow B 34 5 v n (roCells D') ∧ w.grownBy w' v.ownBlock
theorem sortRc_any (D : List Ro) (v : Value) (n B : Nat) (w : World) (h : w.ownsRow B 34 5 v n (roCells D)) (hn : n = D.length) (hlen : D.length ≤ 1000000000) :
    Calls Tryz.prog 24 #[v, .func (.func 25) #[] #[]] w (SortRP w B v n D) := by
  subst hn
  have h' := h
  rcases h.2 with ⟨rfl, h0⟩ | ⟨g, cap, cur, rfl, hg, hh, h3, h4, h5, h6⟩
  · obtain rfl : D = [] := List.length_eq_zero_iff.1 h0
    refine (AnyF.slices_SortFunc_none Tryz.sortRc none 0 _ w).mono ?_
    rintro e w' ⟨rfl, rfl⟩
    exact ⟨rfl, [], List.Perm.refl _, List.Pairwise.nil, by simpa using h', rfl, rfl, rfl, Nat.le_refl _, fun _ _ _ => rfl⟩
  · have hD : (D.toArray).toList = D := by simp
    obtain ⟨hH, hlt⟩ := own_holdsR (d := D.toArray) (by rw [hD]; exact h)
    have eg : ∀ args w, (callFunc 25 args).run Tryz.prog w = .ok (.enter 25 args) w := enters_of Tryz.func25 (by kernel_rfl) rfl
    have hcl : CmpLays Tryz.prog 25 #[] Ro.row 5 (fun x y => cmpS x.rc.num y.rc.num) g 0 D.toArray.size w := fun _ _ _ _ x y => byNum_any x y _
    have hcon := AnyQ.slices_SortFunc Tryz.sortRc 5 Tryz.isAgg34 Tryz.sizeOf34 Ro.row (fun _ => rfl) (fun x v hv => by simp [Ro.row] at hv; rcases hv with rfl | rfl | rfl | rfl | rfl <;> rfl) (fun x y => cmpS x.rc.num y.rc.num) swo_ro 25 #[] g 0 cap D.toArray w eg hcl hH hlt (by simp; omega)
    have hsz : D.toArray.size = D.length := by simp
    rw [hsz] at hcon
    refine hcon.mono ?_
    rintro e w' ⟨rfl, d', q, os, hp, hs, rfl⟩
    have hdl : d'.size = D.length := by rw [hp.1]; simp
    have hp2 : d'.toList.Perm D := by
      have := hp.2.2
      have e1 : d'.extract 0 D.length = d' := by rw [← hdl]; exact Array.extract_size
      rw [e1] at this
      simpa using this
    have hs2 : d'.toList.Pairwise fun a b => ¬ bt b.rc.num < bt a.rc.num := by
      rw [List.pairwise_iff_getElem]
      intro i j hi hj hij
      have hi' : i < d'.size := by simpa using hi
      have hj' : j < d'.size := by simpa using hj
      have := hs i j (Nat.zero_le _) hij (by omega)
      rw [getElem!_pos d' j hj', getElem!_pos d' i hi', less_ro] at this
      simpa using this
    have ho := own_put (m := q) (os := os) (F := flatK Ro.row 5 d') h (by rw [size_flatK, hdl, roCells, flat_len (sz := 5) _ (ro_rows D)]; simp)
    rw [flat_ros] at ho
    exact ⟨rfl, d'.toList, hp2, hs2, ho.1, ho.2⟩
/-- The receipts of a holder. -/
def heldL (h : Hs) (b : ByteArray) : List Rc := h.L.filter fun r => decide (r.hold = b)
theorem rdel_perm {l : List Rc} (hu : l.Pairwise fun a b => bt a.num < bt b.num) {n : ByteArray} {r : Rc} (h : rfind l n = some r) : l.Perm (r :: rdel l n) := by
  induction l with
  | nil => cases h
  | cons a s ih =>
    have h1 := List.pairwise_cons.1 hu
    rw [rfind] at h
    split at h
    · rename_i e
      obtain rfl := Option.some.inj h
      have : rdel (a :: s) n = s := by
        unfold rdel
        rw [List.filter_cons_of_neg (by simp [e])]
        refine List.filter_eq_self.2 fun q hq => ?_
        have h2 := h1.1 q hq
        have : q.num ≠ n := fun e2 => by rw [e, e2] at h2; exact List.lt_irrefl _ h2
        simp [this]
      rw [this]
    · rename_i e
      have : rdel (a :: s) n = a :: rdel s n := by
        unfold rdel
        rw [List.filter_cons_of_pos (by simp [e])]
      rw [this]
      exact ((ih h1.2 h).cons a).trans (List.Perm.swap r a _)
theorem sorted_rcs {D L : List Rc} (hs : D.Pairwise fun a b => ¬ bt b.num < bt a.num) (hp : D.Perm L) (hL : L.Pairwise fun a b => bt a.num < bt b.num) : D = L := by
  refine List.Perm.eq_of_pairwise (le := fun a b => ¬ bt b.num < bt a.num) (fun a b ha hb h1 h2 => ?_) hs (hL.imp fun {a b} hab h => List.lt_irrefl _ (List.lt_trans hab h)) hp
  have e : a.num = b.num := bt_inj (List.le_antisymm (List.not_lt.1 h1) (List.not_lt.1 h2))
  have h3 := rfind_mem hL (hp.mem_iff.1 ha)
  have h4 := rfind_mem hL hb
  rw [e, h4] at h3
  exact (Option.some.inj h3).symm
theorem own_types {w : World} {B1 B2 s1 s2 n m : Nat} {T1 T2 : TypeId} {v u : Value} {xs ys : List Value} (h1 : w.ownsRow B1 T1 s1 v n xs) (h2 : w.ownsRow B2 T2 s2 u m ys) (hT : T1 ≠ T2) : ∀ b, v.ownBlock = some b → u.ownBlock ≠ some b := by
  intro b hb hu
  rcases h1.2 with ⟨rfl, _⟩ | ⟨g, cap, cur, rfl, _, hg, _⟩
  · cases hb
  rcases h2.2 with ⟨rfl, _⟩ | ⟨g', cap', cur', rfl, _, hg', _⟩
  · cases hu
  obtain rfl : g = b := Option.some.inj hb
  obtain rfl : g' = g := Option.some.inj hu
  rw [hg] at hg'
  simp only [Option.some.injEq, Obj.cells.injEq] at hg'
  exact hT hg'.2.1
theorem ro_one (n h o : ByteArray) (a : Option Addr) (m c : Nat) (d : Int) : ∀ u ∈ (#[Value.string n, .string h, .string o, .slice a m c, .int .i64 d] : Array Value).toList, u.oneCell' = true := by
  intro u hu
  simp at hu
  rcases hu with rfl | rfl | rfl | rfl | rfl <;> rfl
theorem lot_receipt : (47 : TypeId) ≠ 34 := by decide
/-- Behind Of. -/
def OfP (w : World) (L : List Rc) (e : Ending) (w' : World) : Prop :=
  Below w.heap.size w w' ∧ ∃ (A : List Ro) (v : Value), e = .returned v ∧ A.map Ro.rc = L ∧ Sl w' 5 v (A.map Ro.row) ∧ ∀ y ∈ A, Sl w' 2 y.lv (y.rc.lots.map Lt.row)
end Go.Proofs.YticnmmfiadpbbaaGreat.Sc
