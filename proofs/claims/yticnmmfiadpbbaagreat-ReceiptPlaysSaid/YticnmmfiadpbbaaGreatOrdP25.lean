/- A new receipt made, put among the others and laid into the house, in a region that draws its order. -/
import Derived.Test.YticnmmfiadpbbaaGreatRfH25
import Derived.Test.YticnmmfiadpbbaaGreatFillR
namespace Go.Proofs.YticnmmfiadpbbaaGreat.Ord
open Go Go.RowKit Sc
set_option maxRecDepth 100000

def lotsS (B : Nat) (J : List Lt) : Spec := ⟨fun _ v O w => w.ownsRow B 47 2 v J.length (ltCells J) ∧ ∀ b, O b ↔ v.ownBlock = some b, [], fun _ => False⟩
def rcS (B : Nat) (J : List Lt) (rc : Rc) (j : Nat) : Spec := ⟨fun _ v O w => ∃ s, v = .agg (Rv.cells ⟨rc, s⟩) ∧ w.ownsRow B 47 2 s J.length (ltCells J) ∧ ∀ b, O b ↔ s.ownBlock = some b, [j], fun _ => False⟩
def putsS (B : Nat) (J : List Lt) (rc : Rc) (M : List Rv) (j : Nat) : Spec := ⟨fun _ v O w => ∃ s, w.ownsRow B 34 5 v (rputV M ⟨rc, s⟩).length (rvCells (rputV M ⟨rc, s⟩)) ∧ w.ownsRow B 47 2 s J.length (ltCells J) ∧ ∀ b, O b ↔ (v.ownBlock = some b ∨ s.ownBlock = some b), [j], fun _ => False⟩
def inS (B : Nat) (J : List Lt) (rc : Rc) (M : List Rv) (bx : Nat) (nm : ByteArray) (vU : Value) (j : Nat) : Spec := ⟨fun _ _ O w => ∃ s v, w.heap[bx]? = some (.cells #[.string nm, v, vU] 29 (0, 0)) ∧
  w.ownsRow B 34 5 v (rputV M ⟨rc, s⟩).length (rvCells (rputV M ⟨rc, s⟩)) ∧ w.ownsRow B 47 2 s J.length (ltCells J) ∧ ∀ b, O b ↔ (b = bx ∨ v.ownBlock = some b ∨ s.ownBlock = some b), [j], fun k => k = bx⟩
section
variable {F : Nat → Prop} {w0 : World}
theorem lasts_lots (B : Nat) (J : List Lt) : Lasts F (lotsS B J) w0 :=
  ⟨fun _ _ _ _ h b hb => (h.1.lt b ((h.2 b).1 hb)).2, fun _ _ _ _ _ h _ _ _ hs => ⟨Any.ownsRow_same h.1 fun b hb => hs b ((h.2 b).2 hb), h.2⟩⟩
theorem lasts_rc (B : Nat) (J : List Lt) (rc : Rc) (j : Nat) : Lasts F (rcS B J rc j) w0 :=
  ⟨fun _ _ _ _ h b hb => by obtain ⟨s, _, h2, h3⟩ := h; exact (h2.lt b ((h3 b).1 hb)).2,
   fun _ _ _ _ _ h _ _ _ hs => by obtain ⟨s, h1, h2, h3⟩ := h; exact ⟨s, h1, Any.ownsRow_same h2 fun b hb => hs b ((h3 b).2 hb), h3⟩⟩
theorem lasts_puts (B : Nat) (J : List Lt) (rc : Rc) (M : List Rv) (j : Nat) : Lasts F (putsS B J rc M j) w0 :=
  ⟨fun _ _ _ _ h b hb => by obtain ⟨s, h1, h2, h3⟩ := h; exact ((h3 b).1 hb).elim (fun e => (h1.lt b e).2) (fun e => (h2.lt b e).2),
   fun _ _ _ _ _ h _ _ _ hs => by obtain ⟨s, h1, h2, h3⟩ := h; exact ⟨s, Any.ownsRow_same h1 fun b hb => hs b ((h3 b).2 (.inl hb)), Any.ownsRow_same h2 fun b hb => hs b ((h3 b).2 (.inr hb)), h3⟩⟩
theorem lasts_in (B : Nat) (J : List Lt) (rc : Rc) (M : List Rv) (bx : Nat) (nm : ByteArray) (vU : Value) (j : Nat) : Lasts F (inS B J rc M bx nm vU j) w0 :=
  ⟨fun _ _ _ _ h b hb => by obtain ⟨s, v, h0, h1, h2, h3⟩ := h; exact ((h3 b).1 hb).elim (fun e => e ▸ Sc.lt_blk h0) fun e => e.elim (fun e => (h1.lt b e).2) fun e => (h2.lt b e).2,
   fun _ _ _ _ _ h _ _ _ hs => by obtain ⟨s, v, h0, h1, h2, h3⟩ := h; exact ⟨s, v, (hs bx ((h3 bx).2 (.inl rfl))).trans h0, Any.ownsRow_same h1 fun b hb => hs b ((h3 b).2 (.inr (.inl hb))), Any.ownsRow_same h2 fun b hb => hs b ((h3 b).2 (.inr (.inr hb))), h3⟩⟩
end
section
variable {S : Nat → Spec} {Os : Nat → Nat → Prop} {ρ : Operand → Value} {i j : Nat} {w w' : World}
theorem post_lots {B : Nat} {J : List Lt} {v : Value} (h : w'.ownsRow w.heap.size 47 2 v J.length (ltCells J)) (hb : Below w.heap.size w w') (hB : B ≤ w.heap.size) (hS : S i = lotsS B J) : Post S Os i ρ w v w' :=
  post_new (O := fun b => v.ownBlock = some b) (by rw [hS]; exact ⟨ownsRow_base h hB, fun _ => Iff.rfl⟩) hb fun b e => (h.lt b e).1
theorem post_rc {B : Nat} {J : List Lt} {rc : Rc} {s : Value} (h : w.ownsRow B 47 2 s J.length (ltCells J)) (hO : ∀ b, Os j b ↔ s.ownBlock = some b) (hS : S i = rcS B J rc j) : Post S Os i ρ w (.agg (Rv.cells ⟨rc, s⟩)) w :=
  ⟨fun b => s.ownBlock = some b, by rw [hS]; exact ⟨s, rfl, h, fun _ => Iff.rfl⟩, ⟨rfl, rfl, rfl⟩, Nat.le_refl _, fun _ _ _ _ => rfl, fun b hb => .inl ⟨j, by rw [hS]; exact List.mem_cons_self, (hO b).2 hb⟩⟩
theorem post_puts {B : Nat} {J : List Lt} {rc : Rc} {M : List Rv} {s v : Value} (h : w'.ownsRow w.heap.size 34 5 v (rputV M ⟨rc, s⟩).length (rvCells (rputV M ⟨rc, s⟩))) (hb : Below w.heap.size w w') (hB : B ≤ w.heap.size)
    (hs : w.ownsRow B 47 2 s J.length (ltCells J)) (hO : ∀ b, Os j b ↔ s.ownBlock = some b) (hS : S i = putsS B J rc M j) : Post S Os i ρ w v w' :=
  ⟨fun b => v.ownBlock = some b ∨ s.ownBlock = some b, by rw [hS]; exact ⟨s, ownsRow_base h hB, ownsRow_below hs hb, fun _ => Iff.rfl⟩, ⟨hb.os, hb.tape, hb.output⟩, hb.size, fun b hlt _ _ => hb.block b hlt,
   fun b e => e.elim (fun e => .inr (.inl (h.lt b e).1)) (fun e => .inl ⟨j, by rw [hS]; exact List.mem_cons_self, (hO b).2 e⟩)⟩
theorem post_in {B : Nat} {J : List Lt} {rc : Rc} {M : List Rv} {bx : Nat} {nm : ByteArray} {vU v0 s v u : Value} (hx : w.heap[bx]? = some (.cells #[.string nm, v0, vU] 29 (0, 0)))
    (h : w.ownsRow B 34 5 v (rputV M ⟨rc, s⟩).length (rvCells (rputV M ⟨rc, s⟩))) (hs : w.ownsRow B 47 2 s J.length (ltCells J)) (hO : ∀ b, Os j b ↔ (v.ownBlock = some b ∨ s.ownBlock = some b)) (hB : bx < B)
    (hS : S i = inS B J rc M bx nm vU j) : Post S Os i ρ w u (w.setCell ⟨bx, 1, none⟩ v) := by
  have hk := Sc.set_keep w bx 1 v
  refine ⟨fun b => b = bx ∨ v.ownBlock = some b ∨ s.ownBlock = some b, ?_, ⟨rfl, rfl, rfl⟩, hk.size, fun b hlt _ hne => hk.block b hlt (fun e => hne (by rw [hS]; exact e)), fun b e => ?_⟩
  · rw [hS]
    exact ⟨s, v, Sc.set_three hx, ownsRow_keep h hk (fun b hb e => by have := (h.lt b hb).1; omega), ownsRow_keep hs hk (fun b hb e => by have := (hs.lt b hb).1; omega), fun _ => Iff.rfl⟩
  · rcases e with e | e
    · exact .inr (.inr (by rw [hS]; exact e))
    · exact .inl ⟨j, by rw [hS]; exact List.mem_cons_self, (hO b).2 e⟩
end
end Go.Proofs.YticnmmfiadpbbaaGreat.Ord
