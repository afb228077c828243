/- What lots weigh: whole, in two parts, joined, and with a piece more; plainly. -/
import Derived.Test.YtogkggmaibeboaaDoorWeigh11
namespace Go.Proofs.YtogkggmaibeboaaDoor.Sc
open Go Go.RowKit
set_option maxRecDepth 100000

def AllIn (t : List Gd) (l : List Lt) : Prop := ∀ x ∈ l, lotOk x = true ∧ ∃ g, gOf t x.good = some g
theorem lotsC_all {t : List Gd} {l : List Lt} (h : AllIn t l) : lotsC t l = 0 := by
  unfold lotsC
  rw [if_neg, if_neg]
  · intro e
    obtain ⟨x, hx, h1⟩ := List.any_eq_true.1 e
    obtain ⟨g, hg⟩ := (h x hx).2
    simp [noG, hg] at h1
  · intro e
    obtain ⟨x, hx, h1⟩ := List.any_eq_true.1 e
    simp [(h x hx).1] at h1
theorem sumV_in {t : List Gd} {f : Gd → Int} {l : List Lt} (h : AllIn t l) (hs : sumL t f l ≤ 1099511627776) : sumV t f l = .tuple #[.int .i64 (sumL t f l), .int .i64 0] := by
  rw [sumV, if_pos (lotsC_all h), if_neg (by omega)]
theorem sumV_fit {t : List Gd} {f : Gd → Int} {l : List Lt} {n : Int} (h : sumV t f l = .tuple #[.int .i64 n, .int .i64 0]) : AllIn t l ∧ sumL t f l ≤ 1099511627776 ∧ n = sumL t f l := by
  unfold sumV at h
  split at h
  · rename_i h0
    split at h
    · simp at h
    · simp at h
      exact ⟨lotsC_ok h0, by omega, h.symm⟩
  · rename_i h0
    simp at h
    exact absurd h.2 h0
theorem sumV_none {t : List Gd} {f : Gd → Int} {l : List Lt} {n q : Int} (h : sumV t f l = .tuple #[.int .i64 n, .int .i64 q]) (hq : ¬ q = 0) : n = 0 := by
  unfold sumV at h
  split at h
  · split at h
    · simp at h; exact h.1.symm
    · simp at h; exact absurd h.2.symm hq
  · simp at h; exact h.1.symm
theorem sumL_jIns (t : List Gd) (f : Gd → Int) (L : List Lt) (x : Lt) : sumL t f (jIns L x) = sumL t f L + tmL t f x := by
  induction L with
  | nil => simp [jIns, sumL]
  | cons y r ih =>
    unfold jIns
    split
    · simp only [sumL, ih]; omega
    · split
      · rename_i h
        simp only [sumL]
        have : tmL t f ⟨y.good, y.cnt + x.cnt⟩ = tmL t f y + tmL t f x := by
          unfold tmL
          simp only [← h]
          cases gOf t y.good with
          | none => rfl
          | some g => exact Int.add_mul _ _ _
        omega
      · simp only [sumL]; omega
theorem sumL_joinL (t : List Gd) (f : Gd → Int) (l : List Lt) (h : ∀ x ∈ l, ¬ x.cnt < 1) : sumL t f (joinL l) = sumL t f l := by
  have : ∀ (l out : List Lt), (∀ x ∈ l, ¬ x.cnt < 1) → sumL t f (l.foldl (fun out x => if x.cnt < 1 then out else jIns out x) out) = sumL t f out + sumL t f l := by
    intro l
    induction l with
    | nil => intro out _; simp [sumL]
    | cons x r ih =>
      intro out h
      rw [List.foldl_cons, if_neg (h x List.mem_cons_self), ih _ (fun y hy => h y (List.mem_cons_of_mem _ hy)), sumL_jIns, sumL]
      omega
  rw [joinL, this l [] h]
  simp [sumL]
theorem joinL_good {l : List Lt} {x : Lt} (hx : x ∈ joinL l) : ∃ y ∈ l, y.good = x.good := by
  have h1 := posTot_of (joinL_norm l) hx
  have h2 := (joinL_norm l).pos x hx
  rw [joinL_tot] at h1
  obtain ⟨y, hy, e, -⟩ := posTot_pos.1 (show 0 < posTot l x.good by omega)
  exact ⟨y, hy, e⟩
theorem sumV_join {t : List Gd} {f : Gd → Int} {l : List Lt} (h : AllIn t l) (hs : sumL t f l ≤ 1099511627776) :
    sumV t f (joinL l) = .tuple #[.int .i64 (sumL t f l), .int .i64 0] ∨ sumV t f (joinL l) = .tuple #[.int .i64 0, .int .i64 1] := by
  have e := sumL_joinL t f l (fun x hx => by have := lot_range (h x hx).1; omega)
  rcases Decidable.em ((joinL l).any (fun x => !lotOk x) = true) with h1 | h1
  · right
    have : lotsC t (joinL l) = 1 := by rw [lotsC, if_pos h1]
    rw [sumV, if_neg (by rw [this]; decide), this]
  · left
    rw [← e] at hs ⊢
    refine sumV_in (fun x hx => ⟨?_, ?_⟩) hs
    · cases hk : lotOk x with
      | true => rfl
      | false => exact absurd (List.any_eq_true.2 ⟨x, hx, by simp [hk]⟩) h1
    · obtain ⟨y, hy, e1⟩ := joinL_good hx
      rw [← e1]
      exact (h y hy).2
theorem gOf_at {t : List Gd} (hn : (codes t).Nodup) {k : Nat} (hk : k < t.length) : gOf t t[k].code = some t[k] := by
  cases h : gOf t t[k].code with
  | none => exact absurd (List.mem_map.2 ⟨t[k], List.getElem_mem hk, rfl⟩) (gOf_none.1 h)
  | some g =>
    obtain ⟨h1, h2⟩ := gOf_mem h
    obtain ⟨j, hj, rfl⟩ := List.getElem_of_mem h1
    have h3 : (codes t)[j]'(by simpa [codes] using hj) = (codes t)[k]'(by simpa [codes] using hk) := by simpa [codes] using h2
    have hp := List.pairwise_iff_getElem.1 hn
    rcases Nat.lt_trichotomy j k with h4 | h4 | h4
    · exact absurd h3 (hp j k _ _ h4)
    · subst h4; rfl
    · exact absurd h3.symm (hp k j _ _ h4)
theorem more_in {t : List Gd} {l : List Lt} (h : AllIn t l) (hg : ∀ g ∈ t, gdOk g = true) (hn : (codes t).Nodup) {k : Nat} (hk : k < t.length) : AllIn t (l ++ [⟨t[k].code, 1⟩]) := by
  intro x hx
  rcases List.mem_append.1 hx with h1 | h1
  · exact h x h1
  · obtain rfl := List.mem_singleton.1 h1
    refine ⟨?_, _, gOf_at hn hk⟩
    have := hg _ (List.getElem_mem hk)
    simp only [gdOk, Bool.and_eq_true] at this
    simp only [lotOk, this.1, Bool.true_and]
    rfl
theorem sumV_more {t : List Gd} {l : List Lt} (h : AllIn t l) (hg : ∀ g ∈ t, gdOk g = true) (hn : (codes t).Nodup) {k : Nat} (hk : k < t.length) :
    sumV t Gd.wt (l ++ [⟨t[k].code, 1⟩]) = .tuple #[.int .i64 0, .int .i64 3] ∨ sumV t Gd.wt (l ++ [⟨t[k].code, 1⟩]) = .tuple #[.int .i64 (sumL t Gd.wt l + t[k].wt), .int .i64 0] := by
  have e : sumL t Gd.wt (l ++ [⟨t[k].code, 1⟩]) = sumL t Gd.wt l + t[k].wt := by
    rw [sumL_append]
    simp only [sumL, tmL, gOf_at hn hk]
    omega
  rw [sumV, if_pos (lotsC_all (more_in h hg hn hk)), e]
  split
  · exact .inl rfl
  · exact .inr rfl
theorem all_take {t : List Gd} {l : List Lt} (h : AllIn t l) (k : Nat) : AllIn t (l.take k) := fun x hx => h x (List.mem_of_mem_take hx)
theorem all_drop {t : List Gd} {l : List Lt} (h : AllIn t l) (k : Nat) : AllIn t (l.drop k) := fun x hx => h x (List.mem_of_mem_drop hx)
theorem sum_parts {t : List Gd} {l : List Lt} (h : AllIn t l) (hg : ∀ g ∈ t, gdOk g = true) (hs : sumL t Gd.wt l ≤ 1099511627776) (k : Nat) :
    sumV t Gd.wt (l.take k) = .tuple #[.int .i64 (sumL t Gd.wt (l.take k)), .int .i64 0] ∧ sumV t Gd.wt (l.drop k) = .tuple #[.int .i64 (sumL t Gd.wt (l.drop k)), .int .i64 0] ∧ sumL t Gd.wt (l.take k) + sumL t Gd.wt (l.drop k) = sumL t Gd.wt l := by
  have h1 := sumL_append t Gd.wt (l.take k) (l.drop k)
  rw [List.take_append_drop] at h1
  have h2 := sumL_nonneg h (sel_wt hg) k
  have h3 := sumL_nonneg (all_drop h k) (sel_wt hg) (l.drop k).length
  rw [List.take_length] at h3
  exact ⟨sumV_in (all_take h k) (by omega), sumV_in (all_drop h k) (by omega), h1.symm⟩
end Go.Proofs.YtogkggmaibeboaaDoor.Sc
