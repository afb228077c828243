/- What the reference's search has reached: as a row; where a port stands in it. -/
import Derived.Test.YtbmjficiceiekaaDoorWayPl16
import Derived.Test.YtbmjficiceiekaaDoorIdx16
namespace Go.Proofs.YtbmjficiceiekaaDoor.Sc
open Go Go.RowKit Go.ChangeShapes Go.WideShapes Go.ChangeAt
set_option maxRecDepth 100000

structure Rc where
  port : ByteArray
  day : Int
  val : Value
  legs : List Lg
def Rc.cells (x : Rc) : Array Value := #[.string x.port, .int .i64 x.day, x.val]
def Rc.row (x : Rc) : List Value := x.cells.toList
def rcCells (l : List Rc) : List Value := l.flatMap Rc.row
theorem infoRc : (Tryd.prog.info? 64).map (fun i => (i.zero, i.size, i.bytes)) = some (some (.agg #[.string ⟨#[]⟩, .int .i64 0, .slice none 0 0]), 3, 48) := by kernel_rfl
theorem rc_one (x : Rc) (hval : x.val.oneCell' = true) : ∀ u ∈ x.cells.toList, u.oneCell' = true := by
  intro u hu
  simp only [Rc.cells, List.mem_cons, List.not_mem_nil, or_false] at hu
  rcases hu with rfl | rfl | rfl <;> first | rfl | assumption
theorem rcCells_flat (l : List Rc) : rcCells l = (l.map Rc.row).flatten := by rw [rcCells, List.flatMap_def]
theorem rc_rows (l : List Rc) : ∀ r ∈ l.map Rc.row, r.length = 3 := by
  intro r hr
  obtain ⟨b, -, rfl⟩ := List.mem_map.1 hr
  rfl
theorem rcCells_append (a b : List Rc) : rcCells (a ++ b) = rcCells a ++ rcCells b := by simp [rcCells]
theorem own_rcs {w : World} {B n : Nat} {v : Value} {l : List Rc} (h : w.ownsRow B 64 3 v n (rcCells l)) (hn : n = l.length) : Sl w 3 v (l.map Rc.row) := by
  rw [rcCells_flat] at h
  exact own_sl h (by simpa using hn) (rc_rows l)
theorem src_rcs {w : World} {v : Value} {l : List Rc} (h : Sl w 3 v (l.map Rc.row)) : Src w 3 v l.length (rcCells l) := by
  have := h.src (rc_rows l) (by decide)
  rw [rcCells_flat]
  simpa using this
/-- What one in a row reads. -/
def RcAt (w : World) (b o : Nat) (x : Rc) : Prop := w.cell? ⟨b, o, none⟩ = some (.string x.port) ∧ w.cell? ⟨b, o + 1, none⟩ = some (.int .i64 x.day) ∧ w.cell? ⟨b, o + 2, none⟩ = some (x.val)
theorem rc_at {w : World} {a : Option Addr} {n c : Nat} {l : List Rc} (h : Sl w 3 (.slice a n c) (l.map Rc.row)) {k : Nat} (hk : k < l.length) : ∃ b off, a = some ⟨b, off, none⟩ ∧ b < w.heap.size ∧ RcAt w b (off + k * 3) l[k] := by
  obtain ⟨b, off, e, -, hb, hc⟩ := h.at (i := k) (by simpa using hk)
  have hr := hc k l[k].row (by rw [List.getElem?_map, List.getElem?_eq_getElem hk]; rfl)
  exact ⟨b, off, e, hb, hr 0 _ rfl, hr 1 _ rfl, hr 2 _ rfl⟩
theorem RcAt.below {w w' : World} {b o B : Nat} {x : Rc} (h : RcAt w b o x) (hb : b < B) (hw : Below B w w') : RcAt w' b o x := by
  obtain ⟨h0, h1, h2⟩ := h
  exact ⟨(hw.cell (p := ⟨b, o, none⟩) hb).trans h0, (hw.cell (p := ⟨b, o + 1, none⟩) hb).trans h1, (hw.cell (p := ⟨b, o + 2, none⟩) hb).trans h2⟩
theorem RcAt.keep {F : Nat → Prop} {w w' : World} {b o : Nat} {x : Rc} (h : RcAt w b o x) (hb : b < w.heap.size) (hn : ¬ F b) (hw : Keep F w w') : RcAt w' b o x := by
  obtain ⟨h0, h1, h2⟩ := h
  exact ⟨(hw.cell (o := o) hb hn).trans h0, (hw.cell (o := o + 1) hb hn).trans h1, (hw.cell (o := o + 2) hb hn).trans h2⟩
/-- .. and in a box. -/
theorem rc_box {w : World} {b : Nat} {x : Rc} {T : TypeId} (h : w.heap[b]? = some (.cells x.cells T (0, 0))) : w.cell? ⟨b, 0, none⟩ = some (.string x.port) ∧ w.cell? ⟨b, 1, none⟩ = some (.int .i64 x.day) ∧ w.cell? ⟨b, 2, none⟩ = some (x.val) := ⟨cell_blk h 0, cell_blk h 1, cell_blk h 2⟩
def isP (m : List Rc) (p : ByteArray) (k : Nat) : Bool := match m[k]? with | some x => decide (x.port = p) | none => false
def rIdx (m : List Rc) (p : ByteArray) : Option Nat := (List.range m.length).find? (isP m p)
def rfOf (m : List Rc) : Rf := fun p => (rIdx m p).bind fun k => (m[k]?).map fun x => (x.day, x.legs)
theorem isP_at {m : List Rc} {p : ByteArray} {k : Nat} (h : k < m.length) : isP m p k = decide (m[k].port = p) := by
  unfold isP
  rw [List.getElem?_eq_getElem h]
theorem rIdx_some {m : List Rc} {p : ByteArray} {k : Nat} (hk : k < m.length) (h1 : isP m p k = true) (h2 : ∀ j, j < k → isP m p j = false) : rIdx m p = some k := by
  rw [rIdx, List.find?_range_eq_some]
  exact ⟨h1, List.mem_range.2 hk, fun j hj => by simp [h2 j hj]⟩
theorem rIdx_none {m : List Rc} {p : ByteArray} (h2 : ∀ j, j < m.length → isP m p j = false) : rIdx m p = none := by
  rw [rIdx, List.find?_range_eq_none]
  intro j hj
  simp [h2 j hj]
theorem rIdx_is {m : List Rc} {p : ByteArray} {k : Nat} (h : rIdx m p = some k) : k < m.length ∧ isP m p k = true ∧ ∀ j, j < k → isP m p j = false := by
  rw [rIdx, List.find?_range_eq_some] at h
  exact ⟨List.mem_range.1 h.2.1, h.1, fun j hj => by simpa using h.2.2 j hj⟩
theorem rIdx_not {m : List Rc} {p : ByteArray} (h : rIdx m p = none) : ∀ j, j < m.length → isP m p j = false := by
  rw [rIdx, List.find?_range_eq_none] at h
  exact fun j hj => by simpa using h j hj
theorem rIdx_port {m : List Rc} {p : ByteArray} {k : Nat} (h : rIdx m p = some k) : ∃ hk : k < m.length, m[k].port = p := by
  obtain ⟨h1, h2, _⟩ := rIdx_is h
  rw [isP_at h1] at h2
  exact ⟨h1, of_decide_eq_true h2⟩
theorem rfOf_none {m : List Rc} {p : ByteArray} (h : rIdx m p = none) : rfOf m p = none := by rw [rfOf, h]; rfl
theorem rfOf_some {m : List Rc} {p : ByteArray} {k : Nat} (h : rIdx m p = some k) (hk : k < m.length) : rfOf m p = some (m[k].day, m[k].legs) := by
  rw [rfOf, h, Option.bind_some, List.getElem?_eq_getElem hk]; rfl
theorem isP_append {m : List Rc} {y : Rc} {p : ByteArray} {j : Nat} (h : j < m.length) : isP (m ++ [y]) p j = isP m p j := by
  unfold isP
  rw [List.getElem?_append_left h]
theorem rfOf_append {m : List Rc} {y : Rc} (h : rIdx m y.port = none) : rfOf (m ++ [y]) = updO (rfOf m) y.port (y.day, y.legs) := by
  funext q
  unfold updO
  have hl : m.length < (m ++ [y]).length := by simp
  have hy : ∀ q, isP (m ++ [y]) q m.length = decide (y.port = q) := fun q => by
    rw [isP_at hl, List.getElem_append_right (Nat.le_refl _)]
    simp
  by_cases hq : q = y.port
  · subst hq
    rw [if_pos rfl]
    have h2 : rIdx (m ++ [y]) y.port = some m.length := rIdx_some hl (by rw [hy]; simp) (fun j hj => by rw [isP_append hj]; exact rIdx_not h j hj)
    rw [rfOf_some h2 hl, List.getElem_append_right (Nat.le_refl _)]
    simp
  · rw [if_neg hq]
    cases hi : rIdx m q with
    | none =>
      have h2 : rIdx (m ++ [y]) q = none := rIdx_none (fun j hj => by
        rcases Nat.lt_or_ge j m.length with h3 | h3
        · rw [isP_append h3]; exact rIdx_not hi j h3
        · obtain rfl : j = m.length := by simp at hj; omega
          rw [hy]
          exact decide_eq_false (fun e => hq e.symm))
      rw [rfOf_none h2, rfOf_none hi]
    | some k =>
      obtain ⟨h1, h2, h3⟩ := rIdx_is hi
      have h4 : rIdx (m ++ [y]) q = some k := rIdx_some (by simp; omega) (by rw [isP_append h1]; exact h2) (fun j hj => by rw [isP_append (by omega)]; exact h3 j hj)
      rw [rfOf_some h4 (by simp; omega), rfOf_some hi h1, List.getElem_append_left h1]
theorem rfOf_set {m : List Rc} {y : Rc} {k : Nat} (h : rIdx m y.port = some k) : rfOf (m.set k y) = updO (rfOf m) y.port (y.day, y.legs) := by
  obtain ⟨h1, h2, h3⟩ := rIdx_is h
  have h1' : k < (m.set k y).length := by rw [List.length_set]; exact h1
  have hkp : m[k].port = y.port := by rw [isP_at h1] at h2; exact of_decide_eq_true h2
  have hp : ∀ q j, isP (m.set k y) q j = isP m q j := fun q j => by
    unfold isP
    rw [List.getElem?_set]
    by_cases hj : k = j
    · subst hj
      rw [if_pos rfl, if_pos h1, List.getElem?_eq_getElem h1]
      simp only [hkp]
    · rw [if_neg hj]
  have hi : ∀ q, rIdx (m.set k y) q = rIdx m q := fun q => by
    unfold rIdx
    rw [List.length_set]
    congr 1
    funext j
    exact hp q j
  funext q
  unfold updO
  by_cases hq : q = y.port
  · subst hq
    rw [if_pos rfl, rfOf_some ((hi _).trans h) h1']
    simp
  · rw [if_neg hq]
    cases hx : rIdx m q with
    | none => rw [rfOf_none ((hi q).trans hx), rfOf_none hx]
    | some j =>
      obtain ⟨hj, hj2⟩ := rIdx_port hx
      have hne : ¬ k = j := fun e => by
        subst e
        exact hq (hj2.symm.trans hkp)
      rw [rfOf_some ((hi q).trans hx) (by rw [List.length_set]; exact hj), rfOf_some hx hj, List.getElem_set_ne hne]
theorem rcCells_set : ∀ {m : List Rc} {k : Nat} (_ : k < m.length) (y : Rc), (((rcCells m).set (k * 3) (.string y.port)).set (k * 3 + 1) (.int .i64 y.day)).set (k * 3 + 2) y.val = rcCells (m.set k y)
  | x :: r, 0, _, y => rfl
  | x :: r, k + 1, h, y => by
    have ih := rcCells_set (m := r) (k := k) (by simpa using h) y
    rw [show (k + 1) * 3 = (k * 3) + 1 + 1 + 1 by omega, show k * 3 + 1 + 1 + 1 + 1 = (k * 3 + 1) + 1 + 1 + 1 by omega, show k * 3 + 1 + 1 + 1 + 2 = (k * 3 + 2) + 1 + 1 + 1 by omega]
    show (((Value.string x.port :: Value.int .i64 x.day :: x.val :: rcCells r).set _ _).set _ _).set _ _ = _
    simp only [List.set_cons_succ]
    rw [ih]
    rfl
theorem rcCells_snoc (m : List Rc) (y : Rc) : rcCells (m ++ [y]) = rcCells m ++ [.string y.port, .int .i64 y.day, y.val] := by rw [rcCells_append]; rfl
theorem rcCells_ones (m : List Rc) (h : ∀ x ∈ m, ∃ a n c, x.val = .slice a n c) : ∀ u ∈ rcCells m, u.oneCell' = true := by
  intro u hu
  obtain ⟨x, hx, h2⟩ := List.mem_flatMap.1 hu
  obtain ⟨a, n, c, h3⟩ := h x hx
  exact rc_one x (by rw [h3]; rfl) u h2
set_option maxHeartbeats 2000000 in
theorem find_any (m : List Rc) (v : Value) (p : ByteArray) (w : World) (hs : Sl w 3 v (m.map Rc.row)) : Calls Tryd.prog 35 #[v, .string p] w (Ret w (.int .i64 (idxI (rIdx m p)))) := by
  have hll : m.length ≤ 9223372036854775807 := by have := hs.len_le; simp only [List.length_map, maxLen] at this; omega
  obtain ⟨a, c, rfl⟩ : ∃ a c, v = .slice a m.length c := by simpa using hs.shape
  have HS := Lib.hid hs
  clear hs
  go_enter Tryd.func35, Tryd.ntmps35
  go_wp2_with fail
  go_loopw [5] (fun i wr => wr = w ∧ ∃ k : Nat, k ≤ m.length ∧ i = .int .i64 k ∧ ∀ j : Nat, j < k → isP m p j = false) (fun i _ => m.length - (intOf i).toNat)
  case atStart => exact ⟨rfl, 0, Nat.zero_le _, rfl, fun j hj => absurd hj (Nat.not_lt_zero _)⟩
  case round =>
    obtain ⟨rfl, k, hkl, rfl, hno⟩ := hrel
    have HNO := Lib.hid hno
    clear hno
    by_cases hlt : k < m.length
    · obtain ⟨b, off, rfl, hb, hp⟩ := rc_at HS.out hlt
      have d0 := hp.1
      have HKL := Lib.hid hlt
      have hki : ((k : Nat) : Int) < (m.length : Int) := by omega
      have t7 := str_beq m[k].port p
      obtain ⟨t, ht⟩ : ∃ t, decide (m[k].port = p) = t := ⟨_, rfl⟩
      have HT : Hid (isP m p k = t) := Lib.hid ((isP_at hlt).trans ht)
      rw [ht] at t7
      clear ht hp
      generalize m[k].port = q at *
      cases t
      · go_wp2_with fail
        go_roundw
        case rel => exact ⟨trivial, k + 1, HKL.out, by go_num, fun j hj => by
          rcases Nat.lt_or_ge j k with h | h
          · exact HNO.out j h
          · obtain rfl : j = k := by omega
            exact HT.out⟩
        case measure => (simp [intOf]) <;> omega
      · go_wp2_with fail
        go_ret
        have e : rIdx m p = some k := rIdx_some HKL.out HT.out HNO.out
        exact ⟨by rw [e]; rfl, Below.refl _ _⟩
    · have hki : ¬ ((k : Nat) : Int) < (m.length : Int) := by omega
      have HE : Hid (rIdx m p = none) := Lib.hid (rIdx_none fun j hj => HNO.out j (by omega))
      clear hlt
      go_wp2_with fail
      go_ret
      exact ⟨by rw [HE.out]; rfl, Below.refl _ _⟩
end Go.Proofs.YtbmjficiceiekaaDoor.Sc
