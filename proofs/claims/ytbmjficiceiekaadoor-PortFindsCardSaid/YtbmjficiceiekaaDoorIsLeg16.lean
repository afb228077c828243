/- search.isLeg. -/
import Derived.Test.YtbmjficiceiekaaDoorRightPl16
import Derived.BigQuiet
namespace Go.Proofs.YtbmjficiceiekaaDoor.Sc
open Go Go.RowKit Go.ChangeShapes Go.WideShapes Go.ChangeAt
set_option maxRecDepth 100000

theorem legAt_voy {V : List Vm} {x : Li} (h : ¬ (0 ≤ x.voy ∧ x.voy < (V.length : Int))) : legAt V x = none := by
  unfold legAt
  split
  · rename_i h0
    rw [List.getElem?_eq_none (by omega)]
    rfl
  · rfl
theorem legAt_no {V : List Vm} {x : Li} (h : ¬ (0 ≤ x.lf ∧ x.lf < x.lt)) : legAt V x = none := by
  unfold legAt
  split
  · rename_i h0
    exact absurd h0.2 h
  · rfl
theorem legAt_long {V : List Vm} {x : Li} {vo : Nat} {v : Vm} (hv : V[vo]? = some v) (hx : x.voy = (vo : Int)) (h : ¬ (x.lt < (v.calls.length : Int))) : legAt V x = none := by
  unfold legAt
  split
  · rename_i h0
    rw [hx, Int.toNat_natCast, hv, Option.bind_some, List.getElem?_eq_none (l := v.calls) (i := x.lt.toNat) (by omega)]
    cases v.calls[x.lf.toNat]? <;> rfl
  · rfl
theorem legAt_is {V : List Vm} {x : Li} {vo lf lt : Nat} {v : Vm} (hv : V[vo]? = some v) (hx : x = ⟨vo, lf, lt⟩) (h1 : lf < lt) (h : lt < v.calls.length) : legAt V x = some (v.calls[lf], v.calls[lt]) := by
  subst hx
  unfold legAt
  rw [if_pos ⟨Int.natCast_nonneg _, Int.natCast_nonneg _, by simpa using h1⟩]
  simp only [Int.toNat_natCast, hv, Option.bind_some, List.getElem?_eq_getElem (show lf < v.calls.length by omega), List.getElem?_eq_getElem h, Option.map_some]
set_option maxHeartbeats 4000000 in
theorem isLeg_any (V : List Vm) (vv : Value) (fr : ByteArray) (ch : Int) (x : Li) (w : World) (hs : VsAt w vv V) : Calls Tryd.prog 45 #[.agg (seaC vv fr ch), .agg x.cells] w (RetB w (legAt V x).isSome) := by
  have hVL : V.length ≤ 9223372036854775807 := by have := hs.1.len_le; simp only [List.length_map, maxLen] at this; omega
  obtain ⟨av, cv, rfl⟩ : ∃ a c, vv = .slice a V.length c := by simpa using hs.1.shape
  have HS := Lib.hid hs
  obtain ⟨xv, xf, xt⟩ := x
  have HR : Hid (∀ b, (legAt V ⟨xv, xf, xt⟩).isSome = b → ∀ w', Below w.heap.size w w' → RetB w (legAt V ⟨xv, xf, xt⟩).isSome (.returned (.bool b)) w') := Lib.hid (fun b h w' hb => by rw [h]; exact retB rfl hb)
  simp only [Li.cells, seaC]
  obtain ⟨w0, hw0⟩ : ∃ w0, w0 = (w.alloc (.cells #[.slice av V.length cv, .string fr, .int .i64 ch] 52)).alloc (.cells #[.int .i64 xv, .int .i64 xf, .int .i64 xt] 37) := ⟨_, rfl⟩
  have HBW : Hid (Below w.heap.size w w0) := Lib.hid (by
    rw [hw0]
    exact (one_below w _).alloc (by simp) _)
  have H0 : Hid (w0.heap[w.heap.size]? = some (.cells #[.slice av V.length cv, .string fr, .int .i64 ch] 52 (0, 0))) := Lib.hid (by
    rw [hw0]
    exact blk (one_below _ _) (by simp) (heap_alloc_new w _))
  have H1 : Hid (w0.heap[w.heap.size + 1]? = some (.cells #[.int .i64 xv, .int .i64 xf, .int .i64 xt] 37 (0, 0))) := Lib.hid (by
    rw [hw0]
    have := heap_alloc_new (w.alloc (.cells #[.slice av V.length cv, .string fr, .int .i64 ch] 52)) (.cells #[.int .i64 xv, .int .i64 xf, .int .i64 xt] 37)
    simpa using this)
  have p0 := cell_blk H0.out 0
  obtain ⟨q0, q1, q2⟩ := li_box (x := ⟨xv, xf, xt⟩) H1.out
  simp only at q0 q1 q2
  clear hs
  by_cases h1 : ¬ (0 ≤ xv ∧ xv < (V.length : Int))
  · have HR := Lib.hid (HR.out false (by rw [legAt_voy h1]; rfl))
    by_cases h2 : 0 ≤ xv
    · have t1 : decide (0 ≤ xv) = true := decide_eq_true h2
      have t2 : decide (xv < (V.length : Int)) = false := decide_eq_false (fun h => h1 ⟨h2, h⟩)
      clear h1 h2
      go_enter Tryd.func45, Tryd.ntmps45
      go_wp2_with fail
      rw [← hw0]
      clear hw0
      go_quiet (fail)
      go_wp2_with fail
      go_ret
      exact HR.out _ (below_drewN HBW.out _)
    · have t1 : decide (0 ≤ xv) = false := decide_eq_false h2
      clear h1 h2
      go_enter Tryd.func45, Tryd.ntmps45
      go_wp2_with fail
      rw [← hw0]
      clear hw0
      go_quiet (fail)
      go_wp2_with fail
      go_ret
      exact HR.out _ (below_drewN HBW.out _)
  have h1 := Decidable.not_not.1 h1
  obtain ⟨vo, rfl⟩ : ∃ n : Nat, xv = (n : Int) := ⟨xv.toNat, by omega⟩
  have t1 : decide ((0 : Int) ≤ (vo : Int)) = true := decide_eq_true h1.1
  have t2 : decide ((vo : Int) < (V.length : Int)) = true := decide_eq_true h1.2
  have t2' : decide (vo < V.length) = true := decide_eq_true (by omega)
  have hvl : vo < V.length := by omega
  have tv : (vo : Int) < (V.length : Int) := h1.2
  by_cases h3 : ¬ (0 ≤ xf ∧ xf < xt)
  · have HR := Lib.hid (HR.out false (by rw [legAt_no h3]; rfl))
    by_cases h2 : 0 ≤ xf
    · have t3 : decide (0 ≤ xf) = true := decide_eq_true h2
      have t4 : decide (xf < xt) = false := decide_eq_false (fun h => h3 ⟨h2, h⟩)
      clear h1 h2 h3 hvl
      go_enter Tryd.func45, Tryd.ntmps45
      go_wp2_with fail
      rw [← hw0]
      clear hw0
      go_quiet (fail)
      go_wp2_with fail
      go_ret
      exact HR.out _ (below_drewN HBW.out _)
    · have t3 : decide (0 ≤ xf) = false := decide_eq_false h2
      clear h1 h2 h3 hvl
      go_enter Tryd.func45, Tryd.ntmps45
      go_wp2_with fail
      rw [← hw0]
      clear hw0
      go_quiet (fail)
      go_wp2_with fail
      go_ret
      exact HR.out _ (below_drewN HBW.out _)
  have h3 := Decidable.not_not.1 h3
  obtain ⟨lf, rfl⟩ : ∃ n : Nat, xf = (n : Int) := ⟨xf.toNat, by omega⟩
  obtain ⟨lt, rfl⟩ : ∃ n : Nat, xt = (n : Int) := ⟨xt.toNat, by omega⟩
  have t3 : decide ((0 : Int) ≤ (lf : Int)) = true := decide_eq_true h3.1
  have t4 : decide ((lf : Int) < (lt : Int)) = true := decide_eq_true h3.2
  have t4' : decide (lf < lt) = true := decide_eq_true (by omega)
  obtain ⟨b, off, rfl, hb, e0, e1, hcs⟩ := vs_at HS.out hvl
  obtain ⟨ac, cc, hcv⟩ : ∃ a c, V[vo].val = .slice a V[vo].calls.length c := by simpa using hcs.shape
  rw [hcv] at e1
  have e1 := (HBW.out.cell (p := ⟨b, off + vo * 2 + 1, none⟩) hb).trans e1
  have hcl : V[vo].calls.length ≤ 9223372036854775807 := by have := hcs.len_le; simp only [List.length_map, maxLen] at this; omega
  by_cases h5 : lt < V[vo].calls.length
  · have t5 : decide ((lt : Int) < (V[vo].calls.length : Int)) = true := decide_eq_true (by omega)
    have t5' : decide (lt < V[vo].calls.length) = true := decide_eq_true h5
    have HR := Lib.hid (HR.out true (by rw [legAt_is (List.getElem?_eq_getElem hvl) rfl (by omega) h5]; rfl))
    generalize V[vo].calls.length = n at *
    clear h1 h3 h5 hvl hcs hcv hb e0
    go_enter Tryd.func45, Tryd.ntmps45
    go_wp2_with fail
    rw [← hw0]
    clear hw0
    go_quiet (fail)
    go_wp2_with fail
    go_ret
    exact HR.out _ (below_drewN HBW.out _)
  · have t5 : decide ((lt : Int) < (V[vo].calls.length : Int)) = false := decide_eq_false (by omega)
    have t5' : decide (lt < V[vo].calls.length) = false := decide_eq_false h5
    have HR := Lib.hid (HR.out false (by rw [legAt_long (List.getElem?_eq_getElem hvl) rfl (by simpa using h5)]; rfl))
    generalize V[vo].calls.length = n at *
    clear h1 h3 h5 hvl hcs hcv hb e0
    go_enter Tryd.func45, Tryd.ntmps45
    go_wp2_with fail
    rw [← hw0]
    clear hw0
    go_quiet (fail)
    go_wp2_with fail
    go_ret
    exact HR.out _ (below_drewN HBW.out _)
end Go.Proofs.YtbmjficiceiekaaDoor.Sc
