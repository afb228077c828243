/- The library's insertion sort, told on lists. No program in sight. -/
import Derived.Test.YtbigoifpfkdkjaaGreatLn26
import Derived.Shelf.SlSortCmp.InsertionK
namespace Go.Proofs.YtbigoifpfkdkjaaGreat.Sc
open Go Go.RowKit Go.Sort
set_option maxRecDepth 100000

instance inhPg : Inhabited Pg := ⟨⟨⟨#[]⟩, ⟨#[]⟩, ⟨#[]⟩, 0, 0, false⟩⟩
section
variable {α : Type} [Inhabited α] (lt : α → α → Bool)
def insB : List α → α → List α
  | [], x => [x]
  | a :: r, x => if lt x a then a :: insB r x else x :: a :: r
def insE (l : List α) (x : α) : List α := (insB lt l.reverse x).reverse
omit [Inhabited α] in
theorem insE_snoc (l : List α) (a x : α) : insE lt (l ++ [a]) x = if lt x a then insE lt l x ++ [a] else l ++ [a] ++ [x] := by
  unfold insE
  rw [List.reverse_append, List.reverse_singleton, List.singleton_append, insB]
  split
  · rw [List.reverse_cons]
  · rw [List.reverse_cons, List.reverse_cons, List.reverse_reverse]
theorem at_mid (P rest : List α) (a : α) : ((P ++ a :: rest).toArray)[P.length]! = a := by
  rw [getElem!_pos _ _ (by simp)]
  simp
theorem at_next (P rest : List α) (a x : α) : ((P ++ a :: x :: rest).toArray)[P.length + 1]! = x := by
  simp
theorem swp_mid (P rest : List α) (a x : α) : swp (P ++ a :: x :: rest).toArray (P.length + 1) P.length = (P ++ x :: a :: rest).toArray := by
  unfold swp
  rw [at_mid, at_next]
  apply Array.ext'
  simp
theorem insInner_is (P : List α) : ∀ (x : α) (rest : List α), insInner lt 0 P.length (P ++ x :: rest).toArray = (insE lt P x ++ rest).toArray := by
  induction h : P.length generalizing P with
  | zero =>
    intro x rest
    obtain rfl := List.length_eq_zero_iff.1 h
    rfl
  | succ n ih =>
    intro x rest
    obtain ⟨P', a, rfl⟩ : ∃ P' a, P = P' ++ [a] := ⟨P.dropLast, P.getLast (by intro e; rw [e] at h; cases h), (List.dropLast_concat_getLast _).symm⟩
    have hl : P'.length = n := by simpa using h
    subst hl
    have e : P' ++ [a] ++ x :: rest = P' ++ a :: x :: rest := by simp
    rw [e, insInner, at_next, at_mid, insE_snoc]
    cases hx : lt x a
    · simp
    · have h1 : (decide (P'.length + 1 > 0) && true) = true := by simp
      rw [h1, if_pos rfl, swp_mid, ih P' rfl x (a :: rest)]
      simp
theorem insOuter_is : ∀ (rest P : List α), insOuter lt 0 (P.length + rest.length) P.length (P ++ rest).toArray = (rest.foldl (insE lt) P).toArray
  | [], P => by
    rw [insOuter, if_neg (by simp)]
    simp
  | x :: r, P => by
    rw [insOuter, if_pos (by simp), insInner_is]
    have hp : (insE lt P x).length = P.length + 1 := by
      unfold insE
      rw [List.length_reverse]
      have : ∀ l : List α, (insB lt l x).length = l.length + 1 := by
        intro l
        induction l with
        | nil => rfl
        | cons b q ih => rw [insB]; split <;> simp [ih]
      rw [this, List.length_reverse]
    have h2 := insOuter_is r (insE lt P x)
    rw [hp] at h2
    rw [List.length_cons, List.foldl_cons, ← h2]
    congr 1
    omega
theorem insertion_is (l : List α) : (insertionSort lt l.toArray 0 l.length).toList = l.foldl (insE lt) [] := by
  cases l with
  | nil => rw [insertionSort, insOuter, if_neg (by simp)]; rfl
  | cons x r =>
    have h := insOuter_is lt r [x]
    rw [insertionSort]
    have e : ([x] : List α).length + r.length = (x :: r).length := by simp; omega
    rw [e] at h
    exact congrArg Array.toList h
end
def cmpP (a b : Pg) : Int := if a.held && !b.held then -1 else if b.held && !a.held then 1 else if a.day < b.day then -1 else if b.day < a.day then 1 else 0
theorem lt_less (x a : Pg) : ltOf cmpP x a = less x a := by
  unfold ltOf cmpP less
  split
  · rfl
  · split
    · rfl
    · by_cases h : x.day < a.day
      · simp [h]
      · by_cases h2 : a.day < x.day <;> simp [h, h2]
theorem insB_is : ∀ (l : List Pg) (x : Pg), insB (ltOf cmpP) l x = insR l x
  | [], _ => rfl
  | a :: r, x => by rw [insB, insR, insB_is r x, lt_less]
theorem insE_is (l : List Pg) (x : Pg) : insE (ltOf cmpP) l x = rIns l x := by rw [insE, rIns, insB_is]
theorem rank_is (l : List Pg) : (insertionSort (ltOf cmpP) l.toArray 0 l.length).toList = rankOf l := by
  rw [insertion_is, rankOf]
  have : ∀ (r P : List Pg), r.foldl (insE (ltOf cmpP)) P = r.foldl rIns P := by
    intro r
    induction r with
    | nil => intro P; rfl
    | cons x q ih => intro P; rw [List.foldl_cons, List.foldl_cons, insE_is, ih]
  exact this l []
end Go.Proofs.YtbigoifpfkdkjaaGreat.Sc
