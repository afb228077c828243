/- port.Index, the reference's Index, port.Arrives. -/
import Derived.Test.YtbmjficiceiekaaDoorStart16
namespace Go.Proofs.YtbmjficiceiekaaDoor.Sc
open Go Go.RowKit Go.ChangeShapes Go.WideShapes Go.ChangeAt
set_option maxRecDepth 100000

/-- Is k the first call at port p from f on? -/
def isIdx (l : List Cl) (p : ByteArray) (f : Int) (k : Nat) : Bool := decide (f ≤ (k : Int)) && (match l[k]? with | some c => decide (c.port = p) | none => false)
def idxO (l : List Cl) (p : ByteArray) (f : Int) : Option Nat := (List.range l.length).find? (isIdx l p f)
def idxI (o : Option Nat) : Int := match o with | some k => (k : Int) | none => -1
theorem isIdx_lt {l : List Cl} {p : ByteArray} {f : Int} {k : Nat} (h : k < l.length) : isIdx l p f k = (decide (f ≤ (k : Int)) && decide (l[k].port = p)) := by
  unfold isIdx
  rw [List.getElem?_eq_getElem h]
theorem idxO_some {l : List Cl} {p : ByteArray} {f : Int} {k : Nat} (hk : k < l.length) (h1 : isIdx l p f k = true) (h2 : ∀ j, j < k → isIdx l p f j = false) : idxO l p f = some k := by
  rw [idxO, List.find?_range_eq_some]
  exact ⟨h1, List.mem_range.2 hk, fun j hj => by simp [h2 j hj]⟩
theorem idxO_none {l : List Cl} {p : ByteArray} {f : Int} (h2 : ∀ j, j < l.length → isIdx l p f j = false) : idxO l p f = none := by
  rw [idxO, List.find?_range_eq_none]
  intro j hj
  simp [h2 j hj]
theorem idxO_lt {l : List Cl} {p : ByteArray} {f : Int} {k : Nat} (h : idxO l p f = some k) : k < l.length := by
  rw [idxO] at h
  exact List.mem_range.1 (List.mem_of_find?_eq_some h)
set_option maxHeartbeats 2000000 in
theorem index_any (s p : ByteArray) (v : Value) (l : List Cl) (f : Int) (w : World) (hs : Sl w 4 v (l.map Cl.row)) : Calls Tryd.prog 18 #[.agg #[.string s, v], .string p, .int .i64 f] w
    (Ret w (.tuple #[.int .i64 (idxI (idxO l p f)), .bool (idxO l p f).isSome])) := by
  have hll : l.length ≤ 9223372036854775807 := by have := hs.len_le; simp only [List.length_map, maxLen] at this; omega
  obtain ⟨a, c, rfl⟩ : ∃ a c, v = .slice a l.length c := by simpa using hs.shape
  have HS := Lib.hid hs
  have HX := Lib.hid (heap_alloc_new w (.cells #[.string s, .slice a l.length c] 32))
  have HB := Lib.hid (one_below w (.cells #[.string s, .slice a l.length c] 32))
  obtain ⟨m, hm⟩ : ∃ m, Any.imax f 0 = m := ⟨_, rfl⟩
  have HM := Lib.hid hm
  have HM0 : Hid (0 ≤ m ∧ f ≤ m ∧ (m = f ∨ m = 0)) := Lib.hid (by rw [← hm]; unfold Any.imax; split <;> omega)
  clear hs hm
  go_enter Tryd.func18, Tryd.ntmps18
  go_wp2_with (first
    | ((with_reducible refine Any.wpl_max_is (k := .i64) ?_ HM.out ?_ ?_ ?_); rfl; rfl; rfl)
    | fail)
  obtain ⟨w0, hw0⟩ : ∃ w0, w0 = w.alloc (.cells #[.string s, .slice a l.length c] 32) := ⟨_, rfl⟩
  rw [← hw0] at HX HB ⊢
  clear hw0
  have z1 := cell_blk HX.out 1
  go_loopw [8] (fun i wr => wr = w0 ∧ ∃ k : Int, m ≤ k ∧ i = .int .i64 k ∧ (m = k ∨ k ≤ (l.length : Int)) ∧ ∀ j : Nat, (j : Int) < k → isIdx l p f j = false) (fun i _ => l.length - (intOf i).toNat)
  case atStart =>
    refine ⟨rfl, m, Int.le_refl _, rfl, .inl rfl, fun j hj => ?_⟩
    have h := HM0.out
    rw [isIdx, decide_eq_false (by omega), Bool.false_and]
  case round =>
    obtain ⟨rfl, k, hmk, rfl, hkl, hno⟩ := hrel
    have h0 := HM0.out
    obtain ⟨k, rfl⟩ : ∃ n : Nat, k = (n : Int) := ⟨k.toNat, by omega⟩
    have HNO := Lib.hid hno
    have HKM : Hid (f ≤ (k : Int)) := Lib.hid (by omega)
    have HMK := Lib.hid hmk
    clear hno h0 hkl hmk
    by_cases hlt : k < l.length
    · obtain ⟨b, off, rfl, hb, hp⟩ := cl_at HS.out hlt
      have d0 := (hp.below hb HB.out).1
      have HKL := Lib.hid hlt
      have hki : ((k : Nat) : Int) < (l.length : Int) := by omega
      have t7 := str_beq l[k].port p
      obtain ⟨t, ht⟩ : ∃ t, decide (l[k].port = p) = t := ⟨_, rfl⟩
      have HT : Hid (isIdx l p f k = t) := Lib.hid (by rw [isIdx_lt hlt, decide_eq_true HKM.out, Bool.true_and, ← ht]; exact decide_eq_decide.2 Iff.rfl)
      rw [ht] at t7
      clear ht hp
      generalize l[k].port = q at *
      cases t
      · go_wp2_with fail
        go_roundw
        case rel => exact ⟨trivial, (k : Int) + 1, by have := HMK.out; omega, by go_num, .inr (by have := HKL.out; omega), fun j hj => by
          rcases Nat.lt_or_ge j k with h | h
          · exact HNO.out j (by omega)
          · obtain rfl : j = k := by omega
            exact HT.out⟩
        case measure => (simp [intOf]) <;> omega
      · go_wp2_with fail
        go_ret2
        have e : idxO l p f = some k := idxO_some HKL.out HT.out fun j hj => HNO.out j (by omega)
        exact ⟨by rw [e]; rfl, HB.out⟩
    · have hki : ¬ ((k : Nat) : Int) < (l.length : Int) := by omega
      have HE : Hid (idxO l p f = none) := Lib.hid (idxO_none fun j hj => HNO.out j (by omega))
      clear hlt
      go_wp2_with fail
      go_ret2
      exact ⟨by rw [HE.out]; rfl, HB.out⟩
set_option maxHeartbeats 2000000 in
theorem refIndex_any (s p : ByteArray) (v : Value) (l : List Cl) (f : Int) (w : World) (hs : Sl w 4 v (l.map Cl.row)) : Calls Tryd.prog 19 #[.agg #[.string s, v], .string p, .int .i64 f] w
    (Ret w (.int .i64 (idxI (idxO l p f)))) := by
  have hll : l.length ≤ 9223372036854775807 := by have := hs.len_le; simp only [List.length_map, maxLen] at this; omega
  obtain ⟨a, c, rfl⟩ : ∃ a c, v = .slice a l.length c := by simpa using hs.shape
  have HS := Lib.hid hs
  have HX := Lib.hid (heap_alloc_new w (.cells #[.string s, .slice a l.length c] 32))
  have HB := Lib.hid (one_below w (.cells #[.string s, .slice a l.length c] 32))
  clear hs
  go_enter Tryd.func19, Tryd.ntmps19
  go_wp2_with fail
  obtain ⟨w0, hw0⟩ : ∃ w0, w0 = w.alloc (.cells #[.string s, .slice a l.length c] 32) := ⟨_, rfl⟩
  rw [← hw0] at HX HB ⊢
  clear hw0
  have z1 := cell_blk HX.out 1
  go_loopw [7] (fun i wr => wr = w0 ∧ ∃ k : Nat, k ≤ l.length ∧ i = .int .i64 k ∧ ∀ j : Nat, j < k → isIdx l p f j = false) (fun i _ => l.length - (intOf i).toNat)
  case atStart => exact ⟨rfl, 0, Nat.zero_le _, rfl, fun j hj => absurd hj (Nat.not_lt_zero _)⟩
  case round =>
    obtain ⟨rfl, k, hkl, rfl, hno⟩ := hrel
    have HNO := Lib.hid hno
    clear hno
    by_cases hlt : k < l.length
    · obtain ⟨b, off, rfl, hb, hp⟩ := cl_at HS.out hlt
      have d0 := (hp.below hb HB.out).1
      have HKL := Lib.hid hlt
      have hki : ((k : Nat) : Int) < (l.length : Int) := by omega
      have t7 := str_beq l[k].port p
      obtain ⟨t, ht⟩ : ∃ t, decide (l[k].port = p) = t := ⟨_, rfl⟩
      obtain ⟨u, hu⟩ : ∃ u, decide (f ≤ (k : Int)) = u := ⟨_, rfl⟩
      have HT : Hid (isIdx l p f k = (u && t)) := Lib.hid (by rw [isIdx_lt hlt, ← ht, ← hu]; congr 1)
      rw [ht] at t7
      clear ht hp
      generalize l[k].port = q at *
      cases u
      · go_wp2_with fail
        go_roundw
        case rel => exact ⟨trivial, k + 1, HKL.out, by go_num, fun j hj => by
          rcases Nat.lt_or_ge j k with h | h
          · exact HNO.out j h
          · obtain rfl : j = k := by omega
            exact HT.out⟩
        case measure => (simp [intOf]) <;> omega
      cases t
      · go_wp2_with fail
        go_roundw
        case rel => exact ⟨trivial, k + 1, HKL.out, by go_num, fun j hj => by
          rcases Nat.lt_or_ge j k with h | h
          · exact HNO.out j h
          · obtain rfl : j = k := by omega
            exact HT.out⟩
        case measure => (simp [intOf]) <;> omega
      · go_wp2_with fail
        go_ret
        have e : idxO l p f = some k := idxO_some HKL.out HT.out HNO.out
        exact ⟨by rw [e]; rfl, HB.out⟩
    · have hki : ¬ ((k : Nat) : Int) < (l.length : Int) := by omega
      have HE : Hid (idxO l p f = none) := Lib.hid (idxO_none fun j hj => HNO.out j (by omega))
      clear hlt
      go_wp2_with fail
      go_ret
      exact ⟨by rw [HE.out]; rfl, HB.out⟩
/-- The day of arrival of a first call. -/
def arrI (l : List Cl) (o : Option Nat) : Int := match o.bind fun k => l[k]? with | some c => c.arr | none => 0
set_option maxHeartbeats 2000000 in
theorem arrives_any (s p : ByteArray) (v : Value) (l : List Cl) (w : World) (hs : Sl w 4 v (l.map Cl.row)) : Calls Tryd.prog 20 #[.agg #[.string s, v], .string p] w
    (Ret w (.tuple #[.int .i64 (arrI l (idxO l p 0)), .bool (idxO l p 0).isSome])) := by
  have hll : l.length ≤ 9223372036854775807 := by have := hs.len_le; simp only [List.length_map, maxLen] at this; omega
  have HI := Lib.hid (index_any s p v l 0 (w.alloc (.cells #[.string s, v] 32)) (hs.below (one_below _ _) (Nat.le_refl _)))
  obtain ⟨a, c, rfl⟩ : ∃ a c, v = .slice a l.length c := by simpa using hs.shape
  have HS := Lib.hid hs
  have HX0 := Lib.hid (heap_alloc_new w (.cells #[.string s, .slice a l.length c] 32))
  have z0 := cell_blk HX0.out 0
  have z1 := cell_blk HX0.out 1
  have HO : Hid (∀ k, idxO l p 0 = some k → k < l.length) := Lib.hid fun k h => idxO_lt h
  clear hs
  generalize idxO l p 0 = o at *
  rcases o with - | k
  · simp only [idxI, Option.isSome_none] at HI
    go_enter Tryd.func20, Tryd.ntmps20
    go_wp2_with (first
      | ((with_reducible refine HI.out.mono ?_); rintro e w1 ⟨rfl, hb1⟩; have HB1 := Lib.hid (below_new hb1); clear hb1)
      | fail)
    go_ret2
    exact ⟨rfl, HB1.out⟩
  · have hlt := HO.out k rfl
    have HA : Hid (arrI l (some k) = l[k].arr) := Lib.hid (by rw [arrI, Option.bind_some, List.getElem?_eq_getElem hlt])
    obtain ⟨b, off, rfl, hb, hp⟩ := cl_at HS.out hlt
    have HP := Lib.hid (fun W (hW : Below w.heap.size w W) => (hp.below hb hW).2.2.1)
    clear hp hb
    obtain ⟨r, hr⟩ : ∃ r, l[k].arr = r := ⟨_, rfl⟩
    rw [hr] at HA HP
    have hki : ((k : Nat) : Int) < (l.length : Int) := by omega
    clear hlt hr
    simp only [idxI, Option.isSome_some] at HI
    go_enter Tryd.func20, Tryd.ntmps20
    go_wp2_with (first
      | ((with_reducible refine HI.out.mono ?_); rintro e w1 ⟨rfl, hb1⟩; have HB1 := Lib.hid (below_new hb1); have HX := Lib.hid (blk hb1 (lt_blk HX0.out) HX0.out); have y1 := cell_blk HX.out 1; have d2 := HP.out _ HB1.out; clear hb1)
      | fail)
    go_ret2
    exact ⟨by rw [HA.out]; rfl, HB1.out⟩
end Go.Proofs.YtbmjficiceiekaaDoor.Sc
