/- General words of my own: what a call returns while old memory stays as it was; slices that are read. No program in sight. -/
import Derived.WalkKit
import Derived.WalkLawsBesides
import Derived.WalkSpells
import Derived.BigQuiet
import Derived.Deep.QuietTactic
import Derived.ProofKit
import Derived.OpenShut
import Derived.Lib.Hide
import Derived.Deep.Slices
import Derived.Deep.Fields
import Derived.ChangeSame
namespace Go.Proofs.Ytemfjgokkajjpaa.Sc
open Go Go.RowKit Go.ChangeShapes Go.WideShapes Go.Deep

/-- The call returns v; no old block has changed. -/
def Ret (w : World) (v : Value) (e : Ending) (w' : World) : Prop := e = .returned v ∧ Below w.heap.size w w'

theorem Ret.mk {w w' : World} {v : Value} {e : Ending} (h1 : e = .returned v) (h2 : Below w.heap.size w w') : Ret w v e w' := ⟨h1, h2⟩

theorem ret_eq {v v' : Value} (h : v = v') : Ending.returned v = .returned v' := by rw [h]

theorem ret_int {k : IntKind} {a b : Int} (h : a = b) : Ending.returned (.int k a) = .returned (.int k b) := by rw [h]

theorem bcell {W w1 : World} (hb : Below W.heap.size W w1) : (∀ b o, b < W.heap.size → w1.cell? ⟨b, o, none⟩ = W.cell? ⟨b, o, none⟩) ∧ (∀ b o, b < W.heap.size → w1.frozen? ⟨b, o, none⟩ = W.frozen? ⟨b, o, none⟩) :=
  ⟨fun b o h => hb.cell (p := ⟨b, o, none⟩) h, fun b o h => hb.frozen (p := ⟨b, o, none⟩) h⟩

/-- An old block lies on. -/
theorem blk {B : Nat} {W w1 : World} {k : Nat} {o : Obj} (hb : Below B W w1) (hk : k < B) (h : W.heap[k]? = some o) : w1.heap[k]? = some o := (hb.block k hk).trans h
theorem below_new {w w1 : World} {o : Obj} (hb : Below (w.alloc o).heap.size (w.alloc o) w1) : Below w.heap.size w w1 := ((Below.refl _ _).alloc (Nat.le_refl _) _).trans (hb.mono (by simp))
theorem size_new {w w1 : World} {o : Obj} (hb : Below (w.alloc o).heap.size (w.alloc o) w1) : w.heap.size + 1 ≤ w1.heap.size := by have := hb.size; simpa using this
theorem below_then {w w1 w2 : World} (h : Below w.heap.size w w1) (k : Below w1.heap.size w1 w2) : Below w.heap.size w w2 := h.trans (k.mono h.size)
theorem one_below (w : World) (o : Obj) : Below w.heap.size w (w.alloc o) := (Below.refl _ _).alloc (Nat.le_refl _) _

/-- A slice that reads as rows of sz cells each. -/
def Sl (w : World) (sz : Nat) (v : Value) (xs : List (List Value)) : Prop :=
  (v = .slice none 0 0 ∧ xs = []) ∨
  ∃ b off cap, v = .slice (some ⟨b, off, none⟩) xs.length cap ∧ b < w.heap.size ∧ xs.length ≤ cap ∧ cap ≤ maxLen ∧
    ∀ (i : Nat) (r : List Value), xs[i]? = some r → ∀ (j : Nat) (u : Value), r[j]? = some u → w.cell? ⟨b, off + i * sz + j, none⟩ = some u

theorem Sl.below {B : Nat} {w w' : World} {sz : Nat} {v : Value} {xs : List (List Value)} (h : Sl w sz v xs) (hb : Below B w w') (hB : w.heap.size ≤ B) : Sl w' sz v xs := by
  rcases h with h | ⟨b, off, cap, hv, hlt, h1, h2, hc⟩
  · exact .inl h
  · exact .inr ⟨b, off, cap, hv, Nat.lt_of_lt_of_le hlt hb.size, h1, h2, fun i r hr j u hu => (hb.cell (p := ⟨b, off + i * sz + j, none⟩) (Nat.lt_of_lt_of_le hlt hB)).trans (hc i r hr j u hu)⟩

theorem Sl.len_le {w : World} {sz : Nat} {v : Value} {xs : List (List Value)} (h : Sl w sz v xs) : xs.length ≤ maxLen := by
  rcases h with ⟨_, rfl⟩ | ⟨b, off, cap, hv, hlt, h1, h2, hc⟩
  · simp [maxLen]
  · omega

end Go.Proofs.Ytemfjgokkajjpaa.Sc
