/- share.Split: what is left over is no more than the weights; what is added to which part; plainly. And the last loop's world. -/
import Derived.Test.YtbigoifpfkdkjaaGreatDoorSplitB4
namespace Go.Proofs.YtbigoifpfkdkjaaGreatDoor.Sc
open Go Go.RowKit Go.ChangeShapes Go.WideShapes Go.ChangeAt Go.Sort Go.Shelf
set_option maxRecDepth 100000

def sumI : List Int → Int
  | [] => 0
  | a :: r => a + sumI r
theorem sumI_take {l : List Int} {k : Nat} (h : k < l.length) : sumI (l.take (k + 1)) = sumI (l.take k) + l[k] := by
  induction l generalizing k with
  | nil => simp at h
  | cons a r ih =>
    cases k with
    | zero => simp [sumI]
    | succ k => simp only [List.take_succ_cons, sumI, List.getElem_cons_succ]; rw [ih (by simpa using h)]; omega
theorem sumI_bd {l : List Int} (h : ∀ x ∈ l, 0 ≤ x ∧ x ≤ 1099511627776) : 0 ≤ sumI l ∧ sumI l ≤ 1099511627776 * l.length := by
  induction l with
  | nil => simp [sumI]
  | cons a r ih =>
    have h1 := h a (by simp)
    have h2 := ih fun x hx => h x (List.mem_cons_of_mem _ hx)
    simp only [sumI, List.length_cons]
    omega
def qV (total : Int) (ws : List Int) (j : Nat) : Int := total * ws.getD j 0 / sumI ws
def rV (total : Int) (ws : List Int) (j : Nat) : Int := total * ws.getD j 0 % sumI ws
def sumQ (q : Nat → Int) : Nat → Int
  | 0 => 0
  | k + 1 => sumQ q k + q k
theorem getD_lt {l : List Int} {k : Nat} (h : k < l.length) : l.getD k 0 = l[k] := by rw [List.getD_eq_getElem?_getD, List.getElem?_eq_getElem h]; rfl
theorem left_step (T : Int) (ws : List Int) (hS : 0 < sumI ws) : ∀ k, k ≤ ws.length → sumI ws * sumQ (qV T ws) k ≤ T * sumI (ws.take k) ∧ T * sumI (ws.take k) ≤ sumI ws * (sumQ (qV T ws) k + k)
  | 0, _ => by simp [sumQ, sumI]
  | k + 1, h => by
    obtain ⟨h1, h2⟩ := left_step T ws hS k (by omega)
    rw [sumI_take (by omega), sumQ, qV, getD_lt (by omega)]
    generalize ws[k] = x
    have e1 := Int.emod_add_mul_ediv (T * x) (sumI ws)
    have e2 := Int.emod_nonneg (T * x) (Int.ne_of_gt hS)
    have e3 := Int.emod_lt_of_pos (T * x) hS
    rw [Int.mul_add] at h2
    rw [Int.mul_add T, Int.mul_add, Int.mul_add, Int.mul_add]
    have e4 : sumI ws * ((k + 1 : Nat) : Int) = sumI ws * k + sumI ws := by rw [Int.natCast_add, Int.mul_add]; simp
    rw [e4]
    generalize T * x % sumI ws = a at *
    generalize sumI ws * (T * x / sumI ws) = b at *
    generalize T * x = c at *
    generalize sumI ws * (k : Int) = d at *
    generalize T * sumI (ws.take k) = e at *
    generalize sumI ws * sumQ (qV T ws) k = f at *
    omega
theorem left_bd {T : Int} {ws : List Int} (hS : 0 < sumI ws) : 0 ≤ T - sumQ (qV T ws) ws.length ∧ T - sumQ (qV T ws) ws.length ≤ ws.length := by
  obtain ⟨h1, h2⟩ := left_step T ws hS ws.length (Nat.le_refl _)
  rw [List.take_length, Int.mul_comm T] at h1 h2
  have h3 := Int.le_of_mul_le_mul_left h1 hS
  have h4 := Int.le_of_mul_le_mul_left h2 hS
  omega
def restL (T : Int) (ws : List Int) : List Int := (List.range ws.length).map (rV T ws)
def ordF (m : Nat) (rs : List Int) : List (Fin (m + 1)) := (List.finRange (m + 1)).foldl (insE4 (ltOf (cmpR rs))) []
theorem ordF_perm (m : Nat) (rs : List Int) : (ordF m rs).Perm (List.finRange (m + 1)) := by
  have := fold_perm4 (ltOf (cmpR rs)) (List.finRange (m + 1)) []
  rwa [List.append_nil] at this
theorem ordF_len (m : Nat) (rs : List Int) : (ordF m rs).length = m + 1 := by rw [(ordF_perm m rs).length_eq, List.length_finRange]
theorem ordF_nodup (m : Nat) (rs : List Int) : (ordF m rs).Nodup := (ordF_perm m rs).nodup_iff.2 (List.nodup_finRange _)
def ordN (n : Nat) (rs : List Int) : List Nat := match n with | 0 => [] | m + 1 => (ordF m rs).map Fin.val
def bumpV (q : Nat → Int) (E : List Nat) (j : Nat) : Int := q j + if j ∈ E then 1 else 0
def splitS (T : Int) (ws : List Int) : List Int := (List.range ws.length).map (bumpV (qV T ws) ((ordN ws.length (restL T ws)).take (T - sumQ (qV T ws) ws.length).toNat))
theorem nodup_map_val {m : Nat} {E : List (Fin (m + 1))} (h : E.Nodup) : (E.map Fin.val).Nodup := List.Pairwise.map _ (fun _ _ hab e => hab (Fin.ext e)) h
theorem bump_step {q : Nat → Int} {E : List Nat} (h : E.Nodup) {k : Nat} (hk : k < E.length) (j : Nat) : bumpV q (E.take (k + 1)) j = if j = E[k] then bumpV q (E.take k) j + 1 else bumpV q (E.take k) j := by
  have e : E.take (k + 1) = E.take k ++ [E[k]] := List.take_succ_eq_append_getElem hk
  have hm : ∀ x, x ∈ E.take (k + 1) ↔ x ∈ E.take k ∨ x = E[k] := fun x => by rw [e, List.mem_append, List.mem_singleton]
  unfold bumpV
  by_cases h1 : j = E[k]
  · have hn : j ∉ E.take k := by
      have h2 : (E.take (k + 1)).Nodup := h.sublist (List.take_sublist _ _)
      rw [e, List.nodup_append] at h2
      intro h3
      exact h2.2.2 j h3 E[k] (List.mem_singleton.2 rfl) h1
    rw [if_pos h1, if_neg hn, if_pos ((hm j).2 (.inr h1))]
    omega
  · rw [if_neg h1]
    by_cases h2 : j ∈ E.take k
    · rw [if_pos h2, if_pos ((hm j).2 (.inl h2))]
    · rw [if_neg h2, if_neg (fun h3 => ((hm j).1 h3).elim h2 h1)]
/-- The world of the last loop: the parts, and the places in order. -/
structure Sp5 {m : Nat} (w wr : World) (p g n : Nat) (P : Array Value) (E : List (Fin (m + 1))) : Prop where
  below : Below w.heap.size w wr
  hp : wr.heap[p]? = some (.cells P 2 (0, 0))
  hg : ∀ j (hj : j < E.length), wr.cell? ⟨g, j, none⟩ = some (posE E[j])
  lp : w.heap.size ≤ p
  pg : p < g
  sp : P.size = n
theorem Sp5.setP {m : Nat} {w wr : World} {p g n : Nat} {P : Array Value} {E : List (Fin (m + 1))} (h : Sp5 w wr p g n P E) (k : Nat) (u : Value) : Sp5 w (wr.setCell ⟨p, k, none⟩ u) p g n (P.setIfInBounds k u) E := by
  have h1 := h.pg
  refine ⟨h.below.setCell (p := ⟨p, k, none⟩) h.lp u, by simp [World.setCell, Array.getElem?_modify, h.hp], fun j hj => ?_, h.lp, h.pg, by simp [h.sp]⟩
  have ho : (wr.setCell ⟨p, k, none⟩ u).heap[g]? = wr.heap[g]? := Below.heap_setCell wr ⟨p, k, none⟩ u g (by show g ≠ p; omega)
  rw [World.cell?_of_block ho]
  exact h.hg j hj
theorem Sp5.sorted {m : Nat} {w wr : World} {p g n q : Nat} {P : Array Value} {D E : List (Fin (m + 1))} (hb : Below w.heap.size w wr) (hp : wr.heap[p]? = some (.cells P 2 (0, 0))) (hH : Holds posE wr g 0 D.toArray) (hl : E.length = D.length) (lp : w.heap.size ≤ p) (pg : p < g) (sp : P.size = n) :
    Sp5 w ((putRow posE wr g 0 E.toArray).drewN q) p g n P E := by
  have ho : ∀ b, b ≠ g → ((putRow posE wr g 0 E.toArray).drewN q).heap[b]? = wr.heap[b]? := fun b hb => by
    have : ¬ g = b := fun e => hb e.symm
    show (putRow posE wr g 0 E.toArray).heap[b]? = _
    simp only [Go.Sort.putRow, Go.Sort.mapBlock, Array.getElem?_modify, this, if_false]
  refine ⟨⟨hb.os, hb.tape, hb.output, ?_, fun k hk => ?_⟩, (ho p (by omega)).trans hp, fun j hj => ?_, lp, pg, sp⟩
  · have h1 := hb.size
    show _ ≤ (putRow posE wr g 0 E.toArray).heap.size
    rw [Go.Sort.size_putRow]
    exact h1
  · exact (ho k (by omega)).trans (hb.block k hk)
  · have h1 := cell?_putRow posE wr g 0 D.toArray E.toArray hH (by simp [hl]) j (by simpa using hj)
    rw [Nat.zero_add] at h1
    have h2 : (E.toArray)[j]! = E[j] := by rw [getElem!_pos _ _ (by simpa using hj)]; simp
    rw [h2] at h1
    exact h1
end Go.Proofs.YtbigoifpfkdkjaaGreatDoor.Sc
