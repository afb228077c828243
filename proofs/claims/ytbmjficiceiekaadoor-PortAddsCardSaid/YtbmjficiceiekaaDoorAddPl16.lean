/- Two delays are one; plainly. -/
import Derived.Test.YtbmjficiceiekaaDoorDelPl16
namespace Go.Proofs.YtbmjficiceiekaaDoor.Sc
open Go Go.RowKit Go.ChangeShapes Go.WideShapes Go.ChangeAt
set_option maxRecDepth 100000

theorem delay_may (s : ByteArray) (l : List Cl) (call days : Int) : mayV s (delayR s l call days) = mayV s l := by
  unfold delayR
  split
  · rename_i h
    split
    · rename_i h2
      rw [h2, (delOk_range h).1]
    · rfl
  · rfl
theorem delay_len (s : ByteArray) (l : List Cl) (call days : Int) : (delayR s l call days).length = l.length := by
  unfold delayR
  split
  · split
    · exact shiftTo_len _ _ _ _
    · rfl
  · rfl
theorem shiftTo_get {l : List Cl} {n : Int} {a k : Nat} (h : k < l.length) : (shiftTo l n a l.length)[k]'(by rw [shiftTo_len]; exact h) = if a ≤ k then shiftC n l[k] else l[k] := by
  simp only [shiftTo, List.getElem_mapIdx, h, and_true]
theorem okAt_is {l : List Cl} {j : Nat} (hj : j < l.length) : okAt l j = true ↔ okC l[j] = true ∧ ∀ i (h : i + 1 = j), adjC (l[i]'(by omega)) l[j] = true := by
  unfold okAt
  rw [List.getElem?_eq_getElem hj]
  cases j with
  | zero => simp
  | succ m =>
    simp only [List.getElem?_eq_getElem (show m < l.length by omega), Bool.and_eq_true]
    constructor
    · rintro ⟨h1, h2⟩
      exact ⟨h1, fun i hi => by obtain rfl : i = m := by omega
                                exact h2⟩
    · rintro ⟨h1, h2⟩
      exact ⟨h1, h2 m rfl⟩
theorem mayCs_is {l : List Cl} : mayCs l = true ↔ ∀ j (hj : j < l.length), okC l[j] = true ∧ ∀ i (h : i + 1 = j), adjC (l[i]'(by omega)) l[j] = true := by
  constructor
  · intro h j hj
    rw [mayCs, List.all_eq_true] at h
    exact (okAt_is hj).1 (h j (List.mem_range.2 hj))
  · intro h
    exact mayCs_good fun k hk => (okAt_is hk).2 (h k hk)
theorem okC_shift {c : Cl} {n : Int} (h : okC c = true) (h0 : 0 ≤ n) (h1 : n ≤ 510) (hd : c.dep ≤ 1047976) : okC (shiftC n c) = true := by
  obtain ⟨a1, a2, a3, a4, a5, a6⟩ := okC_range h
  show okC ⟨c.port, c.cut + n, c.arr + n, c.dep + n⟩ = true
  simp only [okC, dayB, Bool.and_eq_true, decide_eq_true_eq]
  exact ⟨a6, ⟨by omega, by omega⟩, ⟨by omega, by omega⟩, ⟨by omega, by omega⟩, by omega, by omega⟩
theorem mayV_len {s : ByteArray} {l m : List Cl} (h : mayV s l = true) (hl : m.length = l.length) (hm : mayCs m = true) : mayV s m = true := by
  obtain ⟨h1, h2, h3, _⟩ := mayV_cs h
  simp only [mayV, Bool.and_eq_true, decide_eq_true_eq]
  exact ⟨h1, by omega, by omega, hm⟩
theorem shift_may {s : ByteArray} {l : List Cl} {n : Int} {a : Nat} (h : mayV s l = true) (h0 : 0 ≤ n) (h1 : n ≤ 510) (hd : ∀ c ∈ l, c.dep ≤ 1047976) : mayV s (shiftTo l n a l.length) = true := by
  refine mayV_len h (shiftTo_len _ _ _ _) (mayCs_is.2 fun j hj => ?_)
  have hj' : j < l.length := by rw [shiftTo_len] at hj; exact hj
  have hm := mayCs_is.1 (mayV_cs h).2.2.2 j hj'
  rw [shiftTo_get hj']
  constructor
  · split
    · exact okC_shift hm.1 h0 h1 (hd _ (List.getElem_mem hj'))
    · exact hm.1
  · intro i hi
    have hi' : i < l.length := by omega
    have h2 := hm.2 i hi
    rw [shiftTo_get hi']
    simp only [adjC, Bool.and_eq_true, decide_eq_true_eq, Bool.not_eq_true', decide_eq_false_iff_not] at h2 ⊢
    have hp : ∀ (b : Prop) [Decidable b] (c : Cl), (if b then shiftC n c else c).port = c.port := fun b _ c => by split <;> rfl
    have hd1 : ∀ (b : Prop) [Decidable b] (c : Cl), (if b then shiftC n c else c).dep = if b then c.dep + n else c.dep := fun b _ c => by split <;> rfl
    have ha1 : ∀ (b : Prop) [Decidable b] (c : Cl), (if b then shiftC n c else c).arr = if b then c.arr + n else c.arr := fun b _ c => by split <;> rfl
    rw [hp, hp, hd1, ha1]
    refine ⟨h2.1, ?_⟩
    split <;> split <;> omega
theorem shift_shift (l : List Cl) (n m : Int) (a : Nat) : shiftTo (shiftTo l n a l.length) m a (shiftTo l n a l.length).length = shiftTo l (n + m) a l.length := by
  apply List.ext_getElem
  · simp only [shiftTo_len]
  · intro i h1 h2
    have hi : i < l.length := by simpa only [shiftTo_len] using h2
    rw [shiftTo_get (by rw [shiftTo_len]; exact hi), shiftTo_get hi, shiftTo_get hi]
    split
    · simp only [shiftC, Int.add_assoc]
    · rfl
theorem delay_add {s : ByteArray} {l : List Cl} {call a b : Int} (ha : 0 ≤ a ∧ a ≤ 255) (hb : 0 ≤ b ∧ b ≤ 255) (hd : ∀ c ∈ l, c.dep ≤ 1047976) : delayR s (delayR s l call a) call b = delayR s l call (a + b) := by
  by_cases hk : mayV s l = true ∧ 0 ≤ call ∧ call < (l.length : Int)
  · obtain ⟨hm, hc0, hc1⟩ := hk
    have ok : ∀ n : Int, 0 ≤ n → n ≤ 510 → delOk s l call n = true := fun n h0 h1 => by
      simp only [delOk, Bool.and_eq_true, decide_eq_true_eq]
      exact ⟨hm, hc0, hc1, h0, by omega⟩
    have e1 : ∀ n : Int, 0 ≤ n → n ≤ 510 → delayR s l call n = shiftTo l n call.toNat l.length := fun n h0 h1 => by
      rw [delayR, if_pos (ok n h0 h1), if_pos (shift_may hm h0 h1 hd)]
    rw [e1 a ha.1 (by omega), e1 (a + b) (by omega) (by omega)]
    have hm2 := shift_may (a := call.toNat) hm ha.1 (show a ≤ 510 by omega) hd
    have ok2 : delOk s (shiftTo l a call.toNat l.length) call b = true := by
      simp only [delOk, Bool.and_eq_true, decide_eq_true_eq, shiftTo_len]
      exact ⟨hm2, hc0, hc1, hb.1, by omega⟩
    rw [delayR, if_pos ok2, shift_shift, if_pos (shift_may hm (show 0 ≤ a + b by omega) (show a + b ≤ 510 by omega) hd)]
  · have no : ∀ n : Int, delOk s l call n = false := fun n => by
      rw [Bool.eq_false_iff]
      intro h
      have := delOk_range h
      exact hk ⟨this.1, this.2.1, this.2.2.1⟩
    have e : ∀ n : Int, delayR s l call n = l := fun n => by rw [delayR, no n]; rfl
    rw [e, e, e]
end Go.Proofs.YtbmjficiceiekaaDoor.Sc
