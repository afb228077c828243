/- A struct that holds a row of the region's own, in a region that draws its order. No program in sight. -/
import Derived.Test.YticnmmfiadpbbaaGreatAnyLast
namespace Go.Proofs.YticnmmfiadpbbaaGreat.Any
open Go Go.RowKit
set_option maxRecDepth 100000
def aggAt (k : Nat) : Value → Value
  | .agg cs => cs.getD k undef
  | _ => undef
def aggOwn (k : Nat) : Value → Option Nat
  | .agg cs => (cs.getD k undef).ownBlock
  | _ => none
/-- A struct whose cell k is the row of operation j. -/
def built (k : Nat) (cells : Value → Array Value) (B : Nat) (e : TypeId) (size n : Nat) (xs : List Value) (j : Nat) : Spec :=
  ⟨fun v w => ∃ s, v = .agg (cells s) ∧ (cells s).getD k undef = s ∧ w.ownsRow B e size s n xs, aggOwn k, [j]⟩
section
variable {ops : Array Oper} {S : Nat → Spec} {w0 : World}
theorem lasts_built (k : Nat) (cells : Value → Array Value) (B : Nat) (e : TypeId) (size n : Nat) (xs : List Value) (j : Nat) : Lasts (built k cells B e size n xs j) w0 :=
  ⟨fun v w h b hb => by
    obtain ⟨s, rfl, h1, h2⟩ := h
    simp only [built, aggOwn, h1] at hb
    exact (h2.lt b hb).2, fun v w w' h _ _ _ hk => by
    obtain ⟨s, rfl, h1, h2⟩ := h
    exact ⟨s, rfl, h1, ownsRow_same h2 fun b hb => hk b (by simp only [built, aggOwn, h1]; exact hb)⟩⟩
theorem post_built {i : Nat} {ρ : Operand → Value} {w : World} {k j : Nat} {t : Tmp} {cells : Value → Array Value} {B : Nat} {e : TypeId} {size n : Nat} {xs : List Value} {s : Value} (hw : Below w0.heap.size w0 w)
    (hS : S i = built k cells B e size n xs j) (hSj : ∃ tk, S j = row B e size n xs tk) (hd : (ops[j]?).bind (·.dst) = some t) (hs : ρ (.tmp t) = s) (hk : (cells s).getD k undef = s) (hown : w.ownsRow B e size s n xs) :
    Post ops S w0 i ρ w (.agg (cells s)) w := by
  obtain ⟨tk, hSj⟩ := hSj
  refine ⟨by rw [hS]; exact ⟨s, rfl, hk, hown⟩, hw, Nat.le_refl _, fun _ _ _ => rfl, fun b hb => .inl ⟨j, t, by rw [hS]; exact List.mem_cons_self, hd, ?_⟩⟩
  rw [hS] at hb
  simp only [built, aggOwn, hk] at hb
  rw [hSj, hs]
  exact hb
end
end Go.Proofs.YticnmmfiadpbbaaGreat.Any
