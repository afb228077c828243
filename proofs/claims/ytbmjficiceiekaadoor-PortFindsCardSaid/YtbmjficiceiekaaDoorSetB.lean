/- A whole block written with a struct in a region that draws its order. No program in sight. -/
import Derived.Test.YtbmjficiceiekaaDoorSetC
namespace Go.Proofs.YtbmjficiceiekaaDoor.Ord
open Go Go.RowKit
set_option maxRecDepth 100000
section
variable {P : Program} {S : Nat → Spec} {Os : Nat → Nat → Prop} {dst : Option Tmp} {t : TypeId} {pos : String} {after : Array Edge} {gd : Option (Nat × Bool)} {ρ : Operand → Value} {w w0 : World} {i : Nat}
theorem ok_setb {T : TypeId} {b : Nat} {cs old : Array Value} {x y : Operand} (hp : ρ x = .pointer (some ⟨b, 0, none⟩)) (hy : ρ y = .agg cs) (hblk : w0.heap[b]? = some (.cells old T (0, 0))) (hkeep : w.heap[b]? = w0.heap[b]?)
    (hi : (P.info? T).map (·.size) = some cs.size) (hold : old.size = cs.size) (h1 : cs.all (·.oneCell') = true) (hS : S i = setc b cs T) : Any.OpOk P ⟨dst, .store T x y, t, pos, after, gd⟩ ρ w (Post S Os i ρ w) := by
  have hb := hkeep.trans hblk
  have hr := run_storeVar_row (P := P) w b T T old cs hb hi hold h1
  have hpost : Post S Os i ρ w undef (w.setRow b cs) := by
    refine ⟨fun k => k = b, ?_, ⟨rfl, rfl, rfl⟩, by simp [World.setRow], fun k _ _ hn => ?_, fun k hk => .inr (.inr (by rw [hS]; exact hk))⟩
    · rw [hS]
      exact ⟨by simp [World.setRow, Array.getElem?_modify, hb], fun _ => Iff.rfl⟩
    · have hkg : ¬ b = k := fun e => hn (by rw [hS]; exact e.symm)
      simp [World.setRow, Array.getElem?_modify, hkg]
  unfold Any.OpOk
  simp only [execOp, hp, hy, Instr.storeAt, Instr.sureAddr, Sem.run_bind, Sem.run_pure, Result.andThen_ok]
  simp [hr, Result.andThen]
  exact hpost
end
end Go.Proofs.YtbmjficiceiekaaDoor.Ord
