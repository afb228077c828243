/- Put makes rising rows. -/
import Derived.Test.YticnmmfiadpbbaaGreatPut1
import Derived.Test.YticnmmfiadpbbaaGreatBt
namespace Go.Proofs.YticnmmfiadpbbaaGreat.Sc
open Go Go.RowKit Go.ChangeShapes Go.WideShapes Go.ChangeAt
set_option maxRecDepth 100000

theorem mem_putR {x : ByteArray} : ∀ (l : List ByteArray) (s : ByteArray) (d : Bool), x ∈ putR l s d ↔ (x ∈ l ∧ x ≠ s) ∨ (x = s ∧ d = false)
  | [], s, d => by cases d <;> simp [putR]
  | y :: r, s, d => by
    have ih := mem_putR (x := x) r s (d || strLe s y)
    simp only [putR, List.mem_append, ih, List.mem_cons]
    by_cases hx : x = s
    · subst hx
      cases d <;> cases strLe x y <;> by_cases hy : y = x <;> (try have hy' : ¬ x = y := fun e => hy e.symm) <;> simp_all
    · have hx' : ¬ s = x := fun e => hx e.symm
      by_cases hy : y = s
      · subst hy
        cases d <;> cases strLe y y <;> simp [hx]
      · cases d <;> cases strLe s y <;> simp [hx, hy]
theorem mem_putS {x : ByteArray} (l : List ByteArray) (s : ByteArray) : x ∈ putS l s ↔ x ∈ l ∨ x = s := by
  rw [putS, mem_putR]
  by_cases h : x = s <;> simp [h]
theorem strLe_eq (a b : ByteArray) : strLe a b = decide (bt a ≤ bt b) := by
  unfold strLe
  rw [bytesLess_eq, ByteArray.toList_eq, ByteArray.toList_eq, Bool.eq_iff_iff]
  simp only [Bool.or_eq_true, decide_eq_true_eq, beq_iff_eq]
  show _ ↔ bt a ≤ bt b
  rw [List.le_iff_lt_or_eq]
  rfl
def Rising (l : List ByteArray) : Prop := l.Pairwise fun a b => bt a < bt b
theorem putR_true (l : List ByteArray) (s : ByteArray) : putR l s true = l.filter fun x => !decide (x = s) := by
  induction l with
  | nil => rfl
  | cons x r ih =>
    simp only [putR, Bool.not_true, Bool.false_and, Bool.false_eq_true, if_false, Bool.true_or, ih, List.nil_append, List.filter_cons]
    by_cases h : x = s <;> simp [h]
theorem putR_rising : ∀ (l : List ByteArray) (s : ByteArray), Rising l → Rising (putR l s false)
  | [], s, _ => by simp [putR, Rising]
  | x :: r, s, h => by
    obtain ⟨h1, h2⟩ := List.pairwise_cons.1 h
    simp only [putR, Bool.not_false, Bool.true_and, Bool.false_or]
    cases hle : strLe s x with
    | true =>
      rw [strLe_eq, decide_eq_true_eq] at hle
      have e : (if x = s then [] else [x]) ++ putR r s true = (x :: r).filter fun y => !decide (y = s) := by
        rw [putR_true, List.filter_cons]
        by_cases hx : x = s <;> simp [hx]
      rw [if_pos rfl, e]
      refine List.pairwise_cons.2 ⟨fun y hy => ?_, h.filter _⟩
      obtain ⟨hy1, hy2⟩ := List.mem_filter.1 hy
      have hne : ¬ y = s := by simpa using hy2
      have hsy : bt s ≤ bt y := by
        rcases List.mem_cons.1 hy1 with rfl | hr
        · exact hle
        · exact List.le_trans hle (List.le_of_lt (h1 y hr))
      rcases List.le_iff_lt_or_eq.1 hsy with h3 | h3
      · exact h3
      · exact absurd (bt_inj h3).symm hne
    | false =>
      rw [strLe_eq, decide_eq_false_iff_not] at hle
      have hlt : bt x < bt s := List.not_le.1 hle
      have hne : ¬ x = s := fun e => by rw [e] at hlt; exact List.lt_irrefl _ hlt
      rw [if_neg (by simp), if_neg hne, List.nil_append, List.singleton_append]
      refine List.pairwise_cons.2 ⟨fun y hy => ?_, putR_rising r s h2⟩
      rcases (mem_putR r s false).1 hy with ⟨h3, _⟩ | ⟨rfl, _⟩
      · exact h1 y h3
      · exact hlt
theorem rising_nodup {l : List ByteArray} (h : Rising l) : l.Nodup := h.imp fun {a b} hab e => by rw [e] at hab; exact List.lt_irrefl _ hab

/-- Texts put in one behind the other. -/
def putAll (l : List ByteArray) : List ByteArray := l.foldl putS []
theorem putAll_rising (l : List ByteArray) : Rising (putAll l) := by
  have : ∀ (l out : List ByteArray), Rising out → Rising (l.foldl putS out) := by
    intro l
    induction l with
    | nil => exact fun out h => h
    | cons h r ih => exact fun out ho => ih _ (putR_rising out h ho)
  exact this l [] (by simp [Rising])
theorem mem_putAll {x : ByteArray} (l : List ByteArray) : x ∈ putAll l ↔ x ∈ l := by
  have : ∀ (l out : List ByteArray), x ∈ l.foldl putS out ↔ x ∈ out ∨ x ∈ l := by
    intro l
    induction l with
    | nil => simp
    | cons h r ih =>
      intro out
      simp only [List.foldl_cons, ih, mem_putS, List.mem_cons, or_assoc]
  simpa [putAll] using this l []
end Go.Proofs.YticnmmfiadpbbaaGreat.Sc
