/- The same rights, the same award: plainly. No program in sight. -/
import Derived.Test.YtbigoifpfkdkjaaGreatLnR4
import Derived.Test.YtbigoifpfkdkjaaGreatDisD4
import Derived.Test.YtbigoifpfkdkjaaGreatAwd4
namespace Go.Proofs.YtbigoifpfkdkjaaGreat.Sc
open Go Go.RowKit Go.ChangeShapes Go.WideShapes Go.ChangeAt
set_option maxRecDepth 100000

def rightOf (p : Pg) : Int := if p.held = true then 2 else 3
def clmOf (p : Pg) : Clm := ⟨p.cred, thingB, rightOf p, p.day, p.amt⟩
/-- One stands strictly ahead. -/
def Ahead (x y : Pg) : Prop := (x.held = true ∧ y.held = false) ∨ (x.held = y.held ∧ x.day < y.day)
theorem cmp_ahead {x y : Pg} (h : Ahead x y) : cmpC (clmOf x) (clmOf y) = -1 ∧ cmpC (clmOf y) (clmOf x) = 1 := by
  unfold cmpC clmOf rightOf or5 cmpI
  rcases h with ⟨h1, h2⟩ | ⟨h1, h2⟩
  · simp [h1, h2]
  · have h3 : ¬ y.day < x.day := by omega
    simp [h1, h2, h3]
theorem cmpI_self (a : Int) : cmpI a a = 0 := by simp [cmpI]
theorem cmpS_self (a : ByteArray) : cmpS a a = 0 := by simp [cmpS, List.lt_irrefl]
theorem cmpC_self (x : Clm) : cmpC x x = 0 := by simp [cmpC, or5, cmpI_self, cmpS_self]
/-- The rank: no two of one day, but the one that is held. -/
def NoTie (r : List Pg) : Prop := ∀ m (hm : m + 1 < r.length), r[m].held = false → r[m].day ≠ r[m + 1].day
theorem rank_ahead {L : List Pg} (h : LnOk L) (t : ByteArray) {r : List Pg} (hr : r = rankOf (ofT L t)) (hn : NoTie r) : r.Pairwise Ahead := by
  have h1 := (rank_once h t hr).1
  rw [List.pairwise_iff_getElem]
  intro i j hi hj hij
  have hst : ∀ d (hd : i + d + 1 < r.length), Ahead r[i] (r[i + d + 1]'hd) := by
    intro d
    induction d with
    | zero =>
      intro hd
      have h2 := h1 i hd
      cases hq : r[i].held with
      | true => exact .inl ⟨hq, h2.1⟩
      | false =>
        have h3 := h2.2.2 hq
        have h4 := hn i hd hq
        exact .inr ⟨by rw [hq]; exact h2.1.symm, by show r[i].day < r[i + 1].day; omega⟩
    | succ d ih =>
      intro hd
      have h2 := h1 (i + d + 1) hd
      have h3 := ih (by omega)
      have h4 := (h1 (i + d) (by omega)).1
      have h5 := h2.2.2 h4
      rcases h3 with h3 | ⟨h3, h6⟩
      · exact .inl ⟨h3.1, h2.1⟩
      · exact .inr ⟨by rw [h3, h4]; exact h2.1.symm, by show r[i].day < r[i + d + 1 + 1].day; omega⟩
  have := hst (j - i - 1) (by omega)
  have e : i + (j - i - 1) + 1 = j := by omega
  simpa only [e] using this
theorem ranked_of {r : List Pg} (h : r.Pairwise Ahead) : Ranked (r.map clmOf) := by
  intro i j hi hj
  have hi' : i < r.length := by simpa using hi
  have hj' : j < r.length := by simpa using hj
  rw [List.getElem_map, List.getElem_map]
  rcases Nat.lt_trichotomy i j with h1 | h1 | h1
  · rw [if_pos h1]
    exact (cmp_ahead (List.pairwise_iff_getElem.1 h i j hi' hj' h1)).1
  · subst h1
    rw [if_neg (by omega), if_neg (by omega)]
    exact cmpC_self _
  · rw [if_neg (by omega), if_pos h1]
    exact (cmp_ahead (List.pairwise_iff_getElem.1 h j i hj' hi' h1)).2
theorem best_stays {b : Clm} : ∀ {l : List Clm}, (∀ c ∈ l, ¬ cmpC c b < 0) → l.foldl betterE (some b) = some b
  | [], _ => rfl
  | c :: l, h => by
    have h1 := h c List.mem_cons_self
    rw [List.foldl_cons, show betterE (some b) c = some b from if_neg h1]
    exact best_stays fun c hc => h c (List.mem_cons_of_mem _ hc)
theorem best_first {r : List Pg} (h : r.Pairwise Ahead) : bestC (r.map clmOf) = (r.map clmOf).head? := by
  cases r with
  | nil => rfl
  | cons a r =>
    have h1 := (List.pairwise_cons.1 h).1
    show (r.map clmOf).foldl betterE (some (clmOf a)) = some (clmOf a)
    refine best_stays fun c hc => ?_
    obtain ⟨p, hp, rfl⟩ := List.mem_map.1 hc
    rw [(cmp_ahead (h1 p hp)).2]
    decide
theorem best_last {r : List Pg} (h : r.Pairwise Ahead) : bestC (r.map clmOf).reverse = (r.map clmOf).head? := by
  induction r with
  | nil => rfl
  | cons a r ih =>
    obtain ⟨h1, h2⟩ := List.pairwise_cons.1 h
    have h3 := ih h2
    rw [List.map_cons, List.reverse_cons, bestC, List.foldl_append]
    unfold bestC at h3
    rw [h3]
    cases r with
    | nil => rfl
    | cons b r =>
      show betterE (some (clmOf b)) (clmOf a) = some (clmOf a)
      exact if_pos (by rw [(cmp_ahead (h1 b List.mem_cons_self)).1]; decide)
theorem clmOf_ok {L : List Pg} (h : LnOk L) {x : Pg} (hx : x ∈ rankOf (ofT L thingB)) : ClmOk (clmOf x) := by
  have h1 := ofT_mem.1 ((rankOf_perm _).mem_iff.1 hx)
  have h2 := h.fit x h1.1
  refine ⟨h2.2.2.2.2, show nameOk thingB = true by decide +kernel, ?_, ?_, h2.1.1, h2.1.2, by show 0 ≤ x.amt; omega, h2.2.2.1⟩
  · show 0 ≤ rightOf x; unfold rightOf; split <;> decide
  · show rightOf x ≤ 4; unfold rightOf; split <;> decide
end Go.Proofs.YtbigoifpfkdkjaaGreat.Sc
