/- A range over a map: what is still to come. No program in sight. -/
import Derived.Test.YtbmjficiceiekaaDoorMapD
import Derived.Test.YtbmjficiceiekaaDoorKeep
namespace Go.Proofs.YtbmjficiceiekaaDoor.Mp
open Go Go.RowKit
def itLeft (w : World) (r b : Nat) : Nat :=
  match w.heap[r]?, w.heap[b]? with
  | some (.mapIter _ _ seen _), some (.map es _) => (leftOf es seen).size
  | _, _ => 0
theorem itLeft_eq {w : World} {r b : Nat} {l todo : Ents} (h : IterAt w r b l todo) : itLeft w r b = todo.length := by
  obtain ⟨es, clock, since, seen, c0, hr, hb, _, _, _, _, _, _, hl⟩ := h
  unfold itLeft
  rw [hr, hb]
  have := hl.length
  simpa using this
theorem mdel_lt {l : Ents} {k : ByteArray} {v : Value} (h : (k, v) ∈ l) : (mdel l k).length < l.length := by
  rcases Nat.lt_or_ge (mdel l k).length l.length with h1 | h1
  · exact h1
  · exfalso
    have h2 := List.length_filter_le (fun p : ByteArray × Value => !decide (k = p.1)) l
    have h3 : (mdel l k).length = l.length := Nat.le_antisymm h2 h1
    have h4 := List.length_filter_eq_length_iff.1 h3 (k, v) h
    simp at h4
end Go.Proofs.YtbmjficiceiekaaDoor.Mp
namespace Go.Proofs.YtbmjficiceiekaaDoor.Sc
open Go Go.RowKit
theorem row_ne_mapP {w : World} {B sz n b : Nat} {e : TypeId} {v : Value} {xs : List Value} {l : Mp.Ents} (h : w.ownsRow B e sz v n xs) (hm : Mp.MapAt w b l) : v.ownBlock ≠ some b := by
  intro hb
  obtain ⟨_, h2⟩ := h
  rcases h2 with ⟨rfl, _⟩ | ⟨g, cap, cur, rfl, hg, hh, _⟩
  · cases hb
  · obtain rfl : g = b := Option.some.inj hb
    obtain ⟨es, clock, hm, _⟩ := hm
    rw [hh] at hm
    cases hm
end Go.Proofs.YtbmjficiceiekaaDoor.Sc
