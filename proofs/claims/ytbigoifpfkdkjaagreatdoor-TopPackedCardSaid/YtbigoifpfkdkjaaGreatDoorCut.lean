/- Parts of a slice: 'x[:n]', 'x[n:]'. -/
import Derived.Test.YtbigoifpfkdkjaaGreatDoorStrRows
import Derived.Test.YtbigoifpfkdkjaaGreatDoorAny
namespace Go.Proofs.YtbigoifpfkdkjaaGreatDoor.Sc
open Go Go.RowKit
set_option maxRecDepth 100000

/-- 'x[n:]' as a value. -/
def cutV (a : Option Addr) (len cap k sz : Nat) : Value := .slice (if cap = k then a else a.map (·.add (k * sz))) (len - k) (cap - k)
theorem run_slice_from {P : Program} {w : World} {t e : TypeId} {i : TypeInfo} {sz : Nat} (ht : P.underlying t = some (.slice e)) (hi : P.info? e = some i) (hs : i.size = sz) (a : Option Addr) (len cap k : Nat) (h : k ≤ len) :
    (Instr.slice t (.slice a len cap) (some (.int .i64 k)) none none).run P w = .ok (cutV a len cap k sz) w := by
  subst hs
  have h1 : (0 : Int) ≤ k ∧ (k : Int) ≤ len := ⟨by omega, by omega⟩
  simp [Instr.slice, run_underlying ht, Instr.sliceBounds, Instr.sliceBound, asIntOf, h1, sizeOf, typeInfo, hi, cutV]
  exact fun hlt => absurd hlt (by omega)
theorem add_off (b off n : Nat) : Addr.add ⟨b, off, none⟩ n = ⟨b, off + n, none⟩ := by
  unfold Addr.add
  split
  · rename_i h; subst h; rfl
  · rfl
theorem Sl.drop {w : World} {sz : Nat} {a : Option Addr} {n c k : Nat} {xs : List (List Value)} (h : Sl w sz (.slice a n c) xs) (hk : k ≤ xs.length) : Sl w sz (cutV a n c k sz) (xs.drop k) := by
  rcases h with ⟨rfl, a', c', hv, hn⟩ | ⟨b, off, cap, hv, hb, h1, h2, hc⟩
  · simp only [Value.slice.injEq] at hv
    obtain ⟨rfl, rfl, rfl⟩ := hv
    obtain rfl : k = 0 := by simpa using hk
    refine .inl ⟨by simp, _, _, rfl, fun h => ?_⟩
    split at h
    · omega
    · cases a with
      | none => rw [hn rfl]
      | some a => simp at h
  · simp only [Value.slice.injEq] at hv
    obtain ⟨rfl, rfl, rfl⟩ := hv
    by_cases hlt : c = k
    · subst hlt
      have e : xs.drop c = [] := List.drop_eq_nil_of_le h1
      refine .inl ⟨e, some ⟨b, off, none⟩, 0, ?_, by simp⟩
      rw [cutV, if_pos rfl, Nat.sub_eq_zero_of_le h1, Nat.sub_self]
    · refine .inr ⟨b, off + k * sz, c - k, ?_, hb, by simp; omega, by omega, fun i r hr j u hu => ?_⟩
      · rw [cutV, if_neg hlt, List.length_drop]
        simp only [Option.map_some, add_off]
      · rw [List.getElem?_drop] at hr
        have := hc (k + i) r hr j u hu
        rw [show off + k * sz + i * sz + j = off + (k + i) * sz + j by rw [Nat.add_mul]; omega]
        exact this
end Go.Proofs.YtbigoifpfkdkjaaGreatDoor.Sc
