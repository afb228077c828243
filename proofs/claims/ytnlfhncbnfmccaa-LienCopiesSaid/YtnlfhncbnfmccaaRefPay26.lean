/- Pay: by the reference. -/
import Derived.Test.YtnlfhncbnfmccaaRefRank26
import Derived.Test.YtnlfhncbnfmccaaPayA26
namespace Go.Proofs.Ytnlfhncbnfmccaa.Sc
open Go Go.RowKit Go.ChangeShapes Go.WideShapes Go.ChangeAt
set_option maxRecDepth 100000

/-- One creditor's part taken off. -/
def cutC (t c : ByteArray) (m : Int) (x : Pg) : Option Pg := if x.thing = t ∧ x.cred = c then (if x.amt - m = 0 then none else some { x with amt := x.amt - m }) else some x
theorem paidL_nil {l : List Pg} (t : ByteArray) (h : ∀ x ∈ l, 1 ≤ x.amt) : paidL l t [] = l := by
  induction l with
  | nil => rfl
  | cons x r ih =>
    have h1 := h x List.mem_cons_self
    have ih' := ih fun y hy => h y (List.mem_cons_of_mem _ hy)
    unfold paidL at *
    rw [List.filterMap_cons]
    by_cases hx : x.thing = t
    · have h2 : ¬ x.amt - gotC [] x.cred = 0 := by show ¬ x.amt - 0 = 0; omega
      simp only [if_pos hx, if_neg h2]
      rw [ih']
      show ({ x with amt := x.amt - 0 } : Pg) :: r = x :: r
      rw [Int.sub_zero]
    · simp only [if_neg hx]
      rw [ih']
theorem paidL_snoc {l : List Pg} {t : ByteArray} {e : List (ByteArray × Int)} {c : ByteArray} {m : Int} (h : ∀ x ∈ l, 1 ≤ x.amt) (hn : ∀ q ∈ e, q.1 ≠ c) : paidL l t (e ++ [(c, m)]) = (paidL l t e).filterMap (cutC t c m) := by
  induction l with
  | nil => rfl
  | cons x r ih =>
    have h1 := h x List.mem_cons_self
    have ih' := ih fun y hy => h y (List.mem_cons_of_mem _ hy)
    have hg := gotC_snoc (p := (c, m)) hn x.cred
    unfold paidL at *
    rw [List.filterMap_cons, List.filterMap_cons]
    by_cases hx : x.thing = t
    · simp only [if_pos hx]
      by_cases hc : x.cred = c
      · have g0 : gotC e x.cred = 0 := gotC_none fun q hq e => hn q hq (e.trans hc)
        rw [if_pos hc.symm] at hg
        rw [hg, g0, if_neg (by omega : ¬ x.amt - 0 = 0)]
        rw [List.filterMap_cons]
        have hcut : cutC t c m { x with amt := x.amt - 0 } = if x.amt - m = 0 then none else some { x with amt := x.amt - m } := by
          rw [cutC, if_pos ⟨hx, hc⟩]
          simp
        rw [hcut]
        by_cases hm : x.amt - m = 0
        · simp only [if_pos hm]; exact ih'
        · simp only [if_neg hm]; rw [ih']
      · rw [if_neg (fun e => hc e.symm)] at hg
        rw [hg]
        by_cases hz : x.amt - gotC e x.cred = 0
        · simp only [if_pos hz]; exact ih'
        · simp only [if_neg hz]
          rw [List.filterMap_cons]
          have hcut : cutC t c m { x with amt := x.amt - gotC e x.cred } = some { x with amt := x.amt - gotC e x.cred } := by
            rw [cutC, if_neg (fun h => hc h.2)]
          rw [hcut, ih']
    · simp only [if_neg hx]
      rw [List.filterMap_cons]
      have hcut : cutC t c m x = some x := by rw [cutC, if_neg (fun h => hx h.1)]
      rw [hcut, ih']
theorem filterMap_next {l : List Pg} {k : Nat} (h : k < l.length) (f : Pg → Option Pg) : (l.take (k + 1)).filterMap f = match f l[k] with | none => (l.take k).filterMap f | some y => (l.take k).filterMap f ++ [y] := by
  rw [List.take_succ_eq_append_getElem h, List.filterMap_append]
  cases hf : f l[k] <;> simp [hf]
theorem paidL_len (l : List Pg) (t : ByteArray) (e : List (ByteArray × Int)) : (paidL l t e).length ≤ l.length := List.length_filterMap_le _ _
theorem paidL_amt {l : List Pg} {t : ByteArray} {e : List (ByteArray × Int)} (h : ∀ x ∈ l, 1 ≤ x.amt ∧ x.amt ≤ 1099511627776) (hg : ∀ c, 0 ≤ gotC e c ∧ gotC e c ≤ 1099511627776) : ∀ x ∈ paidL l t e, -1099511627776 ≤ x.amt ∧ x.amt ≤ 1099511627776 := by
  intro x hx
  obtain ⟨y, hy, hyx⟩ := List.mem_filterMap.1 hx
  have h1 := h y hy
  have h2 := hg y.cred
  split at hyx
  · split at hyx
    · cases hyx
    · obtain rfl := Option.some.inj hyx
      show -1099511627776 ≤ y.amt - _ ∧ y.amt - _ ≤ _
      omega
  · obtain rfl := Option.some.inj hyx
    omega
theorem gotC_small {r : List Pg} {s : Int} (h0 : 0 ≤ s) (hs : s ≤ 1099511627776) (hr : ∀ x ∈ r, 1 ≤ x.amt) (c : ByteArray) : 0 ≤ gotC (payE r s) c ∧ gotC (payE r s) c ≤ 1099511627776 := by
  induction r generalizing s with
  | nil => exact ⟨Int.le_refl _, by show (0 : Int) ≤ _; omega⟩
  | cons p r ih =>
    have hp := hr p List.mem_cons_self
    rw [payE]
    split
    · exact ih h0 hs fun y hy => hr y (List.mem_cons_of_mem _ hy)
    · rw [gotC]
      split
      · omega
      · exact ih (by omega) (by omega) fun y hy => hr y (List.mem_cons_of_mem _ hy)
end Go.Proofs.Ytnlfhncbnfmccaa.Sc
