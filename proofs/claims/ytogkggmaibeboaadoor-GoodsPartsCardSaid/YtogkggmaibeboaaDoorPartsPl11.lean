/- Classes of parts; who may lie together in parts; plainly. -/
import Derived.Test.YtogkggmaibeboaaDoorRefTog11
import Derived.Test.YtogkggmaibeboaaDoorWeighPl11
namespace Go.Proofs.YtogkggmaibeboaaDoor.Sc
open Go Go.RowKit
set_option maxRecDepth 100000

theorem hasC_parts (t : List Gd) (l : List Lt) (k c : Nat) : hasC t l c = (hasC t (l.take k) c || hasC t (l.drop k) c) := by
  unfold hasC
  rw [← List.any_append, List.take_append_drop]
theorem clsN_mem {t : List Gd} {l : List Lt} {a : Int} : a ∈ clsN t l 10 ↔ ∃ c : Nat, c < 10 ∧ hasC t l c = true ∧ a = (c : Int) := by
  unfold clsN
  rw [List.mem_map]
  constructor
  · rintro ⟨n, hn, rfl⟩
    have := List.mem_filter.1 hn
    exact ⟨n, List.mem_range.1 this.1, this.2, rfl⟩
  · rintro ⟨n, h1, h2, rfl⟩
    exact ⟨n, List.mem_filter.2 ⟨List.mem_range.2 h1, h2⟩, rfl⟩
theorem cls_parts {t : List Gd} {l : List Lt} (k : Nat) {a : Int} : a ∈ clsN t l 10 ↔ a ∈ clsN t (l.take k) 10 ∨ a ∈ clsN t (l.drop k) 10 := by
  simp only [clsN_mem]
  constructor
  · rintro ⟨c, h1, h2, rfl⟩
    rw [hasC_parts t l k c, Bool.or_eq_true] at h2
    exact h2.imp (fun h => ⟨c, h1, h, rfl⟩) (fun h => ⟨c, h1, h, rfl⟩)
  · rintro (⟨c, h1, h2, rfl⟩ | ⟨c, h1, h2, rfl⟩)
    · exact ⟨c, h1, by rw [hasC_parts t l k c, h2]; rfl, rfl⟩
    · exact ⟨c, h1, by rw [hasC_parts t l k c, h2, Bool.or_true], rfl⟩
theorem clsN_up (t : List Gd) (l : List Lt) (n : Nat) : (clsN t l n).Pairwise (· < ·) := by
  unfold clsN
  rw [List.pairwise_map]
  exact (List.pairwise_lt_range.filter _).imp fun h => by omega
theorem lotsC_is (t : List Gd) (l : List Lt) : lotsC t l = 0 ∨ lotsC t l = 1 ∨ lotsC t l = 4 := by
  unfold lotsC
  split
  · exact .inr (.inl rfl)
  · split
    · exact .inr (.inr rfl)
    · exact .inl rfl
theorem tog_zero {t : List Gd} {l : List Lt} : togC t l = 0 ↔ AllIn t l ∧ apL [] (clsN t l 10) = false := by
  unfold togC
  constructor
  · intro h
    split at h
    · rename_i h0
      refine ⟨lotsC_ok h0, ?_⟩
      cases ha : apL [] (clsN t l 10) with
      | false => rfl
      | true => rw [if_pos ha] at h; cases h
    · rename_i h0
      exact absurd h h0
  · rintro ⟨h1, h2⟩
    rw [if_pos (lotsC_all h1), h2]
    rfl
theorem tog_in {t : List Gd} {l : List Lt} (h : togC t l = 0 ∨ togC t l = 12) : AllIn t l := by
  refine lotsC_ok ?_
  rcases Decidable.em (lotsC t l = 0) with h0 | h0
  · exact h0
  · rw [togC, if_neg h0] at h
    rcases lotsC_is t l with h1 | h1 | h1
    · exact h1
    · rw [h1] at h; omega
    · rw [h1] at h; omega
theorem tog_all {t : List Gd} {l : List Lt} (h : AllIn t l) : togC t l = 0 ∨ togC t l = 12 := by
  rw [togC, if_pos (lotsC_all h)]
  split
  · exact .inr rfl
  · exact .inl rfl
theorem ap_mono {L M : List Int} (h : ∀ a ∈ L, a ∈ M) (h1 : apL [] L = true) : apL [] M = true := by
  rw [apL_iff] at h1 ⊢
  obtain ⟨a, ha, ⟨b, hb, -⟩ | ⟨b, hb, e⟩⟩ := h1
  · cases hb
  · exact ⟨a, h a ha, .inr ⟨b, h b hb, e⟩⟩
theorem ap_take {t : List Gd} {l : List Lt} (k : Nat) (h : apL [] (clsN t (l.take k) 10) = true) : apL [] (clsN t l 10) = true := ap_mono (fun _ ha => (cls_parts k).2 (.inl ha)) h
theorem ap_drop {t : List Gd} {l : List Lt} (k : Nat) (h : apL [] (clsN t (l.drop k) 10) = true) : apL [] (clsN t l 10) = true := ap_mono (fun _ ha => (cls_parts k).2 (.inr ha)) h
/-- The first two tests. -/
theorem tog_one {t : List Gd} {l : List Lt} (k : Nat) (h : togC t l = 0) : togC t (l.take k) = 0 ∧ togC t (l.drop k) = 0 := by
  obtain ⟨h1, h2⟩ := tog_zero.1 h
  refine ⟨tog_zero.2 ⟨all_take h1 k, ?_⟩, tog_zero.2 ⟨all_drop h1 k, ?_⟩⟩
  · cases ha : apL [] (clsN t (l.take k) 10) with
    | false => rfl
    | true => rw [ap_take k ha] at h2; cases h2
  · cases ha : apL [] (clsN t (l.drop k) 10) with
    | false => rfl
    | true => rw [ap_drop k ha] at h2; cases h2
theorem tog_two {t : List Gd} {l : List Lt} (k : Nat) (h : togC t l = 12) : ¬ togC t (l.take k) = 1 ∧ ¬ togC t (l.drop k) = 1 := by
  have h1 := tog_in (.inr h)
  have h2 := tog_all (all_take h1 k)
  have h3 := tog_all (all_drop h1 k)
  omega
end Go.Proofs.YtogkggmaibeboaaDoor.Sc
