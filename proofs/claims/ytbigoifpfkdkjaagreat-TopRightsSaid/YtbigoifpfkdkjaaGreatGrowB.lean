/- An own row that grows by one element in a drawn region, its base kept. No program in sight. -/
import Derived.Test.YtbigoifpfkdkjaaGreatGrow
namespace Go.Proofs.YtbigoifpfkdkjaaGreat.Ord
open Go Go.RowKit
set_option maxRecDepth 100000
/-- A row that took the place of v0, out of operation j's element; its base is B. -/
def grownB (B : Nat) (e : TypeId) (sz n : Nat) (xs : List Value) (j : Nat) (v0 : Value) : Spec := ⟨fun _ v O w => w.ownsRow B e sz v n xs ∧ ∀ b, O b ↔ v.ownBlock = some b, [j], fun k => v0.ownBlock = some k⟩
theorem lasts_grownB {F : Nat → Prop} {w0 : World} (B : Nat) (e : TypeId) (sz n : Nat) (xs : List Value) (j : Nat) (v0 : Value) : Lasts F (grownB B e sz n xs j v0) w0 :=
  ⟨fun _ _ _ _ h b hb => (h.1.lt b ((h.2 b).1 hb)).2, fun _ _ _ _ _ h _ _ _ hs => ⟨Any.ownsRow_same h.1 (fun b hb => hs b ((h.2 b).2 hb)), h.2⟩⟩
section
variable {P : Program} {S : Nat → Spec} {Os : Nat → Nat → Prop} {dst : Option Tmp} {t : TypeId} {pos : String} {after : Array Edge} {gd : Option (Nat × Bool)} {ρ : Operand → Value} {w w0 : World} {i : Nat}
theorem ok_grownB {te e : TypeId} {z : Value} {size bytes n j B : Nat} {v0 : Value} {xs : List Value} {cs : Array Value} {x y : Operand} {ti : TypeInfo} (hu : P.underlying te = some (.slice e)) (hi : P.info? e = some ti) (hz : ti.zero = some z)
    (hsz : ti.size = size) (hby : ti.bytes = bytes) (hzs : z.cells.size = size) (hpos : 0 < size) (hx : ρ x = v0) (hy : ∃ ρ', (one e cs).know ρ' (ρ y) (Os j) w) (hown : w0.ownsRow B e size v0 n xs)
    (hkeep : ∀ b, v0.ownBlock = some b → w.heap[b]? = w0.heap[b]?) (hcs : cs.size = size) (h1 : ∀ u ∈ cs.toList, u.oneCell' = true) (h63 : n + 1 ≤ maxLen) (hb : (n + 1) * bytes ≤ 140737488355328) (hB : B ≤ w.heap.size)
    (hS : S i = grownB B e size (n + 1) (xs ++ cs.toList) j v0) : Any.OpOk P ⟨dst, .call ⟨.builtin .append, #[x, y], #[te, te]⟩, t, pos, after, gd⟩ ρ w (Post S Os i ρ w) := by
  obtain ⟨_, g, hg, hgb, -⟩ := hy
  have hown' : w.ownsRow B e size (ρ x) n xs := by rw [hx]; exact Any.ownsRow_same hown hkeep
  have hsrc : Sc.Src w size (ρ y) 1 cs.toList := by rw [hg]; exact Sc.src_block hgb (by simp [hcs])
  refine Any.ok_append_own hu hi hz hsz hby hzs hpos hown' hsrc h1 h63 hb hB fun v' w' h1 h2 h3 => ?_
  rw [hx] at h2 h3
  refine ⟨fun b => v'.ownBlock = some b, by rw [hS]; exact ⟨h1, fun b => Iff.rfl⟩, ⟨h2.os, h2.tape, h2.output⟩, h2.size, fun b hlt _ hne => h2.block b hlt (fun e => hne (by rw [hS]; exact e.symm)), fun b hb => ?_⟩
  rw [hS]
  rcases h3 b hb with h4 | h4
  · exact .inr (.inr h4)
  · exact .inr (.inl h4)
/-- Operation j's row, passed on. -/
theorem post_passB {B sz n j : Nat} {e : TypeId} {xs : List Value} {v : Value} {tk : List Nat} (hr : w.ownsRow B e sz v n xs) (hO : ∀ k, Os j k ↔ v.ownBlock = some k) (hj : j ∈ tk) (hS : S i = own B e sz n xs tk) : Post S Os i ρ w v w :=
  ⟨fun b => v.ownBlock = some b, by rw [hS]; exact ⟨hr, fun _ => Iff.rfl⟩, ⟨rfl, rfl, rfl⟩, Nat.le_refl _, fun _ _ _ _ => rfl, fun b hb => .inl ⟨j, by rw [hS]; exact hj, (hO b).2 hb⟩⟩
end
end Go.Proofs.YtbigoifpfkdkjaaGreat.Ord
