/- One number of a block written in a region that draws its order. No program in sight. -/
import Derived.Test.YtbigoifpfkdkjaaGreatPutM
namespace Go.Proofs.YtbigoifpfkdkjaaGreat.Ord
open Go Go.RowKit
set_option maxRecDepth 100000
/-- One number of block b written: its cells are these. -/
def setc (b : Nat) (cs : Array Value) (T : TypeId) : Spec := ⟨fun _ _ O w => w.heap[b]? = some (.cells cs T (0, 0)) ∧ ∀ k, O k ↔ k = b, [], fun k => k = b⟩
theorem lasts_setc {F : Nat → Prop} {w0 : World} (b : Nat) (cs : Array Value) (T : TypeId) : Lasts F (setc b cs T) w0 :=
  ⟨fun _ _ _ _ h k hk => (h.2 k).1 hk ▸ Sc.lt_blk h.1, fun _ _ _ _ _ h _ _ _ hs => ⟨(hs b ((h.2 b).2 rfl)).trans h.1, h.2⟩⟩
section
variable {P : Program} {S : Nat → Spec} {Os : Nat → Nat → Prop} {dst : Option Tmp} {t : TypeId} {pos : String} {after : Array Edge} {gd : Option (Nat × Bool)} {ρ : Operand → Value} {w w0 : World} {i : Nat}
theorem ok_setc {T : TypeId} {b off : Nat} {cs old : Array Value} {q : IntKind} {c : Int} {x y : Operand} {t' : TypeId} (hp : ρ x = .pointer (some ⟨b, off, none⟩)) (hy : ρ y = .int q c) (hblk : w0.heap[b]? = some (.cells old T (0, 0))) (hkeep : w.heap[b]? = w0.heap[b]?) (hoff : off < old.size)
    (hcells : old.setIfInBounds off (.int q c) = cs) (hone : ∀ w, (sizeOf t').run P w = .ok 1 w) (hS : S i = setc b cs T) : Any.OpOk P ⟨dst, .store t' x y, t, pos, after, gd⟩ ρ w (Post S Os i ρ w) := by
  have hb := hkeep.trans hblk
  have hc : w.cell? ⟨b, off, none⟩ = some old[off] := by rw [Sc.cell_blk hb, Array.getElem?_eq_getElem hoff]
  have hf : w.frozen? ⟨b, off, none⟩ = false := Sc.free_blk hb off
  have hset : (w.setCell ⟨b, off, none⟩ (.int q c)).heap[b]? = some (.cells cs T (0, 0)) := by
    simp [World.setCell, Array.getElem?_modify, hb, hcells]
  have hg := set_grown w b off (.int q c)
  have hpost : Post S Os i ρ w undef (w.setCell ⟨b, off, none⟩ (.int q c)) := by
    refine ⟨fun k => k = b, ?_, ⟨hg.os, hg.tape, hg.output⟩, hg.size, fun k hlt _ hn => hg.block k hlt (fun e => hn (by rw [hS]; show k = b; simp only [Option.some.injEq] at e; omega)), fun k hk => .inr (.inr (by rw [hS]; exact hk))⟩
    rw [hS]
    exact ⟨hset, fun k => Iff.rfl⟩
  unfold Any.OpOk
  simp only [execOp, hp, hy, Instr.storeAt, Instr.sureAddr, Sem.run_bind, Sem.run_pure, Result.andThen_ok]
  have hr : ((storeVar t' ⟨b, off, none⟩ (.int q c)).run P w) = .ok () (w.setCell ⟨b, off, none⟩ (.int q c)) := by
    have h1 := hone w
    go_simp
  simp [hr, Result.andThen]
  exact hpost
end
end Go.Proofs.YtbigoifpfkdkjaaGreat.Ord
