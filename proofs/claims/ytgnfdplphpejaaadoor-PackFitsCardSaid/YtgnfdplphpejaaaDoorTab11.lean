/- A table of goods: what is wrong first; New of both. -/
import Derived.Test.YtgnfdplphpejaaaDoorGood11
import Derived.Test.YtgnfdplphpejaaaDoorKMap
import Derived.Test.YtgnfdplphpejaaaDoorGrow
import Derived.Test.YtgnfdplphpejaaaDoorStrRows
import Derived.StillTailTactics
import Derived.OwnWalk
namespace Go.Proofs.YtgnfdplphpejaaaDoor.Sc
open Go Go.RowKit Go.ChangeShapes Go.WideShapes Go.ChangeAt
set_option maxRecDepth 100000

instance decMem (n : ByteArray) (S : List ByteArray) : Decidable (n ∈ S) := decidable_of_iff (S.any (fun m => decide (n = m)) = true) (by simp)
def gEnts (l : List Gd) : Mp.Ents := l.map fun g => (g.code, g.val)
def codes (l : List Gd) : List ByteArray := l.map Gd.code
/-- Does a code stand twice, of rest, or there already? -/
def dupG : List ByteArray → List Gd → Bool
  | _, [] => false
  | seen, g :: r => decide (g.code ∈ seen) || dupG (seen ++ [g.code]) r
def tabC (l : List Gd) : Int := if l.any (fun g => !gdOk g) = true then 1 else if dupG [] l = true then 5 else if 4096 < l.length then 7 else 0
theorem dupG_nodup : ∀ (l : List Gd) (seen : List ByteArray), seen.Nodup → dupG seen l = false → (seen ++ codes l).Nodup
  | [], seen, hs, _ => by simpa [codes] using hs
  | g :: r, seen, hs, h => by
    simp only [dupG, Bool.or_eq_false_iff, decide_eq_false_iff_not] at h
    have := dupG_nodup r (seen ++ [g.code]) (List.nodup_append.2 ⟨hs, by simp, fun a ha b hb => by rw [List.mem_singleton.1 hb]; rintro rfl; exact h.1 ha⟩) h.2
    simpa [codes] using this
theorem dupG_next {l : List Gd} {k : Nat} (h : k < l.length) : dupG (codes (l.take k)) (l.drop k) = (decide (l[k].code ∈ codes (l.take k)) || dupG (codes (l.take (k + 1))) (l.drop (k + 1))) := by
  have e : codes (l.take (k + 1)) = codes (l.take k) ++ [l[k].code] := by unfold codes; rw [List.take_succ_eq_append_getElem h, List.map_append]; rfl
  rw [List.drop_eq_getElem_cons h, dupG, e]
theorem tabC_ok {l : List Gd} (h : tabC l = 0) : (∀ g ∈ l, gdOk g = true) ∧ (codes l).Nodup ∧ l.length ≤ 4096 := by
  unfold tabC at h
  split at h
  · cases h
  · rename_i h1
    split at h
    · cases h
    · rename_i h2
      split at h
      · cases h
      · rename_i h3
        refine ⟨fun g hg => ?_, ?_, by omega⟩
        · have := List.any_eq_false.1 (Bool.eq_false_iff.2 h1) g hg
          simpa using this
        · have := dupG_nodup l [] (by simp) (by simpa using h2)
          simpa using this
theorem gFind_mem {l : List Gd} {n : ByteArray} : decide (0 ≤ gFind n 0 l) = decide (n ∈ codes l) := by
  rcases gFind_of n l 0 with ⟨h1, h2⟩ | ⟨j, hj, h1, h2⟩
  · rw [h1]
    have : n ∉ codes l := fun h => by
      obtain ⟨g, hg, rfl⟩ := List.mem_map.1 h
      have := List.find?_eq_none.1 h2 g hg
      simp at this
    rw [decide_eq_false this]; rfl
  · have : n ∈ codes l := by
      have h3 := List.find?_some h2
      exact List.mem_map.2 ⟨l[j], List.getElem_mem hj, by simpa using h3⟩
    rw [h1, decide_eq_true this, decide_eq_true (by omega)]
theorem gEnts_get {l : List Gd} (h : (codes l).Nodup) (n : ByteArray) : Mp.mget (gEnts l) n = (gOf l n).map Gd.val := by
  induction l with
  | nil => rfl
  | cons g r ih =>
    simp only [codes, List.map_cons, List.nodup_cons] at h
    by_cases hn : n = g.code
    · subst hn
      rw [gOf, List.find?_cons_of_pos (by simp)]
      simp [gEnts, Mp.mget]
    · rw [gOf, List.find?_cons_of_neg (by simpa using fun e => hn e.symm), ← gOf, ← ih h.2]
      simp [gEnts, Mp.mget, hn]
theorem gOf_none {l : List Gd} {n : ByteArray} : gOf l n = none ↔ n ∉ codes l := by
  rw [gOf, List.find?_eq_none]
  constructor
  · rintro h hm
    obtain ⟨g, hg, rfl⟩ := List.mem_map.1 hm
    exact h g hg (by simp)
  · intro h g hg he
    exact h (List.mem_map.2 ⟨g, hg, by simpa using he⟩)
theorem gOf_mem {l : List Gd} {n : ByteArray} {g : Gd} (h : gOf l n = some g) : g ∈ l ∧ g.code = n := ⟨List.mem_of_find?_eq_some h, by simpa using List.find?_some h⟩
theorem gEnts_keys (l : List Gd) : Mp.mkeys (gEnts l) = codes l := by simp [Mp.mkeys, gEnts, codes, List.map_map, Function.comp_def]
/-- A table in memory. -/
def Tab (w : World) (bt bm : Nat) (l : List Gd) : Prop := w.heap[bt]? = some (.cells #[.map (some bm)] 67 (0, 0)) ∧ Mp.MapAt w bm (gEnts l)
theorem Tab.below {w w' : World} {bt bm : Nat} {l : List Gd} (h : Tab w bt bm l) (hb : Below w.heap.size w w') : Tab w' bt bm l := ⟨blk hb (lt_blk h.1) h.1, h.2.same (hb.block _ h.2.lt)⟩
def NewG (w : World) (l : List Gd) (e : Ending) (w' : World) : Prop :=
  Below w.heap.size w w' ∧ ((tabC l ≠ 0 ∧ e = .returned (.tuple #[.pointer none, .int .i64 (tabC l)])) ∨ (tabC l = 0 ∧ ∃ bt bm, e = .returned (.tuple #[.pointer (some ⟨bt, 0, none⟩), .int .i64 0]) ∧ Tab w' bt bm l))
theorem newG_err {w w' : World} {l : List Gd} {c : Int} (h : tabC l = c) (hc : c ≠ 0) (hb : Below w.heap.size w w') : NewG w l (.returned (.tuple #[.pointer none, .int .i64 c])) w' := ⟨hb, .inl ⟨by rw [h]; exact hc, by rw [h]⟩⟩
theorem zeroGd (w : World) : (zeroValue 49).run Tryd.prog w = .ok (.agg #[.string ⟨#[]⟩, .int .i64 0, .int .i64 0, .int .i64 0]) w := by kernel_rfl
theorem grown_set (w : World) (b o : Nat) (u : Value) : w.grownBy (w.setCell ⟨b, o, none⟩ u) (some b) :=
  ⟨rfl, rfl, rfl, by simp [World.setCell], fun k _ hne => Below.heap_setCell w _ u k (fun e => hne (by rw [e]))⟩
theorem any_nextG {l : List Gd} {k : Nat} (h : k < l.length) (f : Gd → Bool) : (l.drop k).any f = (f l[k] || (l.drop (k + 1)).any f) := by rw [List.drop_eq_getElem_cons h, List.any_cons]
end Go.Proofs.YtgnfdplphpejaaaDoor.Sc
