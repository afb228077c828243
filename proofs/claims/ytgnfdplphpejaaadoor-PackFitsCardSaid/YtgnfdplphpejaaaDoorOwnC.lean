/- One cell of an own row written, also in a region that draws its order. No program in sight. -/
import Derived.Test.YtgnfdplphpejaaaDoorPutM
namespace Go.Proofs.YtgnfdplphpejaaaDoor.Sc
open Go Go.RowKit
set_option maxRecDepth 100000
theorem own_pos {w : World} {B sz n : Nat} {e : TypeId} {v : Value} {xs : List Value} (h : w.ownsRow B e sz v n xs) (hn : 0 < n) : ∃ g cap cur, v = .slice (some ⟨g, 0, none⟩) n cap ∧ w.heap[g]? = some (.cells cur e (0, 0)) ∧ B ≤ g := by
  rcases h.2 with ⟨_, h0⟩ | ⟨g, cap, cur, rfl, hg, hh, _⟩
  · omega
  · exact ⟨g, cap, cur, rfl, hh, hg⟩
theorem own_cell {w : World} {B n sz : Nat} {e : TypeId} {g cap : Nat} {xs : List Value} (h : w.ownsRow B e sz (.slice (some ⟨g, 0, none⟩) n cap) n xs) (j : Nat) (u : Value) :
    (w.setCell ⟨g, j, none⟩ u).ownsRow B e sz (.slice (some ⟨g, 0, none⟩) n cap) n (xs.set j u) := by
  obtain ⟨h1, h2⟩ := h
  rcases h2 with ⟨h2, _⟩ | ⟨g', cap', cur, hv, hB, hh, h3, h4, h5, h6⟩
  · cases h2
  simp only [Value.slice.injEq, Option.some.injEq, Addr.mk.injEq, and_true, true_and] at hv
  obtain ⟨rfl, rfl⟩ := hv
  refine ⟨by simpa using h1, .inr ⟨g, cap, cur.setIfInBounds j u, rfl, hB, ?_, h3, h4, by simpa using h5, ?_⟩⟩
  · simp [World.setCell, Array.getElem?_modify, hh]
  · rw [Array.toList_setIfInBounds, ← h6, List.take_set]
theorem own_read {w : World} {B n sz : Nat} {e : TypeId} {g cap : Nat} {xs : List Value} (h : w.ownsRow B e sz (.slice (some ⟨g, 0, none⟩) n cap) n xs) {j : Nat} (hj : j < xs.length) : w.cell? ⟨g, j, none⟩ = some xs[j] ∧ w.frozen? ⟨g, j, none⟩ = false := by
  obtain ⟨h1, h2⟩ := h
  rcases h2 with ⟨h2, _⟩ | ⟨g', cap', cur, hv, hB, hh, h3, h4, h5, h6⟩
  · cases h2
  simp only [Value.slice.injEq, Option.some.injEq, Addr.mk.injEq, and_true, true_and] at hv
  obtain ⟨rfl, rfl⟩ := hv
  refine ⟨?_, free_blk hh _⟩
  rw [cell_blk hh, ← Array.getElem?_toList]
  have h7 : xs[j]? = (cur.toList.take (n * sz))[j]? := by rw [h6]
  rw [List.getElem?_take, if_pos (by omega), List.getElem?_eq_getElem hj] at h7
  exact h7.symm
end Go.Proofs.YtgnfdplphpejaaaDoor.Sc
namespace Go.Proofs.YtgnfdplphpejaaaDoor.Ord
open Go Go.RowKit
set_option maxRecDepth 100000
/-- A row that lay there, one cell of it written. -/
def setrow (e : TypeId) (sz n : Nat) (xs : List Value) (v : Value) : Spec := ⟨fun _ _ O w => w.ownsRow 0 e sz v n xs ∧ ∀ k, O k ↔ v.ownBlock = some k, [], fun k => v.ownBlock = some k⟩
theorem lasts_setrow {F : Nat → Prop} {w0 : World} (e : TypeId) (sz n : Nat) (xs : List Value) (v : Value) : Lasts F (setrow e sz n xs v) w0 :=
  ⟨fun _ _ _ _ h k hk => (h.1.lt k ((h.2 k).1 hk)).2, fun _ _ _ _ _ h _ _ _ hs => ⟨Any.ownsRow_same h.1 (fun k hk => hs k ((h.2 k).2 hk)), h.2⟩⟩
section
variable {P : Program} {S : Nat → Spec} {Os : Nat → Nat → Prop} {dst : Option Tmp} {t : TypeId} {pos : String} {after : Array Edge} {gd : Option (Nat × Bool)} {ρ : Operand → Value} {w w0 : World} {i : Nat}
theorem ok_setrow {e : TypeId} {sz n g cap off : Nat} {xs : List Value} {q : IntKind} {c : Int} {x y : Operand} {t' : TypeId} (hp : ρ x = .pointer (some ⟨g, off, none⟩)) (hy : ρ y = .int q c) (hown : w0.ownsRow 0 e sz (.slice (some ⟨g, 0, none⟩) n cap) n xs)
    (hkeep : ∀ k, (Value.slice (some ⟨g, 0, none⟩) n cap).ownBlock = some k → w.heap[k]? = w0.heap[k]?) (hoff : off < xs.length) (hone : ∀ w, (sizeOf t').run P w = .ok 1 w) (hS : S i = setrow e sz n (xs.set off (.int q c)) (.slice (some ⟨g, 0, none⟩) n cap)) :
    Any.OpOk P ⟨dst, .store t' x y, t, pos, after, gd⟩ ρ w (Post S Os i ρ w) := by
  have hw : w.ownsRow 0 e sz (.slice (some ⟨g, 0, none⟩) n cap) n xs := Any.ownsRow_same hown hkeep
  obtain ⟨hc, hf⟩ := Sc.own_read hw hoff
  have hset := Sc.own_cell hw off (.int q c)
  have hg := set_grown w g off (.int q c)
  have hpost : Post S Os i ρ w undef (w.setCell ⟨g, off, none⟩ (.int q c)) := by
    refine ⟨fun k => (Value.slice (some ⟨g, 0, none⟩) n cap).ownBlock = some k, ?_, ⟨hg.os, hg.tape, hg.output⟩, hg.size, fun k hlt _ hn => hg.block k hlt (fun e => hn (by rw [hS]; exact (by first | exact e | exact e.symm))), fun k hk => .inr (.inr (by rw [hS]; exact hk))⟩
    rw [hS]
    exact ⟨hset, fun k => Iff.rfl⟩
  unfold Any.OpOk
  simp only [execOp, hp, hy, Instr.storeAt, Instr.sureAddr, Sem.run_bind, Sem.run_pure, Result.andThen_ok]
  have hr : ((storeVar t' ⟨g, off, none⟩ (.int q c)).run P w) = .ok () (w.setCell ⟨g, off, none⟩ (.int q c)) := by
    have h1 := hone w
    go_simp
  simp [hr, Result.andThen]
  exact hpost
end
end Go.Proofs.YtgnfdplphpejaaaDoor.Ord
