/- The answer of a search; who is ready earlier arrives no later; plainly. -/
import Derived.Test.YtbmjficiceiekaaDoorWayPl16
import Derived.Test.YtbmjficiceiekaaDoorBest16
namespace Go.Proofs.YtbmjficiceiekaaDoor.Sc
open Go Go.RowKit Go.ChangeShapes Go.WideShapes Go.ChangeAt
set_option maxRecDepth 100000

def rLegs (r : Option (Int × List Lg)) : List Lg := match r with | none => [] | some (_, ls) => ls
def rDay (r : Option (Int × List Lg)) : Int := match r with | none => 0 | some (d, _) => d
theorem best_tup {W w' : World} {r : Option (Int × List Lg)} {e : Ending} (h : BestP W r e w') : ∃ a c, e = .returned (.tuple #[.slice a (rLegs r).length c, .int .i64 (rDay r), .bool r.isSome]) ∧ Below W.heap.size W w' ∧ Sl w' 3 (.slice a (rLegs r).length c) ((rLegs r).map Lg.row) := by
  unfold BestP at h
  cases r with
  | none => exact ⟨none, 0, h.1, h.2, .inl ⟨rfl, none, 0, rfl, fun _ => rfl⟩⟩
  | some q =>
    obtain ⟨d, ls⟩ := q
    obtain ⟨v, he, hb, hs⟩ := h
    obtain ⟨a, c, rfl⟩ : ∃ a c, v = .slice a ls.length c := by simpa using hs.shape
    exact ⟨a, c, he, hb, hs⟩
theorem held_range (ch : Int) : 0 ≤ heldN ch ∧ heldN ch ≤ 1048576 := by
  unfold heldN
  split <;> (try split) <;> omega
theorem held_in {ch : Int} (h : 0 ≤ ch ∧ ch ≤ 1048576) : heldN ch = ch := by rw [heldN, if_neg (by omega), if_neg (by omega)]
theorem best_mono {l l' : List Vm} {fr tp : ByteArray} {ready ready' ch ch' : Int} (hV : ∀ (i : Nat) v, l[i]? = some v → l'[i]? = some v) (hr : ready' ≤ ready) (hch : heldN ch' ≤ heldN ch) (h : (bestR l fr tp ready ch).isSome = true) :
    (bestR l' fr tp ready' ch').isSome = true ∧ rDay (bestR l' fr tp ready' ch') ≤ rDay (bestR l fr tp ready ch) := by
  unfold bestR at h ⊢
  by_cases hft : fr = tp
  · rw [if_pos hft] at h; cases h
  rw [if_neg hft] at h
  rw [if_neg hft, if_neg hft]
  cases hq : roundsR (l.map cleanV) fr (heldN ch) ready 8 tp with
  | none => rw [hq] at h; cases h
  | some q =>
    obtain ⟨d, ls⟩ := q
    have hw := rounds_way (clean_ok l) fr (heldN ch) ready 8 tp d ls hq
    have hn := (rounds_ok (clean_ok l) fr (heldN ch) ready 8).len tp d ls hq
    obtain ⟨d1, h1, h2⟩ := hw.mono (V' := l'.map cleanV) (fun i v hv => by
      rw [List.getElem?_map] at hv ⊢
      cases hx : l[i]? with
      | none => rw [hx] at hv; cases hv
      | some x => rw [hx] at hv; rw [hV i x hx]; exact hv) hr hch
    obtain ⟨d2, l2, h3, h4⟩ := way_best (clean_up l') (clean_ok l') (held_range ch').1 h1 (fun e => hft e.symm) hn
    rw [h3]
    exact ⟨rfl, by show d2 ≤ d; omega⟩
end Go.Proofs.YtbmjficiceiekaaDoor.Sc
