/- Guarded operations of a drawn region whose guard is known: they run as any other, or not at all. No program in sight. -/
import Derived.Test.YtbigoifpfkdkjaaGreatOrd
namespace Go.Proofs.YtbigoifpfkdkjaaGreat.Sc
open Go Go.RowKit
theorem below_undrew {B : Nat} {w w' : World} (h : Below B w.drew w') : Below B w w' := ⟨h.os, h.tape, h.output, h.size, h.block⟩
end Go.Proofs.YtbigoifpfkdkjaaGreat.Sc
namespace Go.Proofs.YtbigoifpfkdkjaaGreat.Any
open Go Go.RowKit
section
variable {P : Program} {ops : Array Oper} {S : Nat → Spec} {w0 : World} {a0 : Act}
theorem owes_on {i : Nat} {o : Oper} {j : Nat} {want : Bool} {d : Tmp} (hg : o.guard = some (j, want)) (hd : (ops[j]?).bind (·.dst) = some d) (hseen : ((o.looksAt ops).contains d && (writer ops d == some j && !late ops i j)) = true)
    (hSj : S j = val (.bool want)) (h : ∀ ρ w, Sees ops S w0 a0 i o ρ w → Below w0.heap.size w0 w → (∀ c, ρ (.const c) = c) → OpOk P o ρ w (Post ops S w0 i ρ w)) : Owes P ops S w0 a0 i o := by
  intro ρ w hs
  have hb : ρ (.tmp d) = .bool want := by
    have := hs.new' d j hseen
    rw [hSj] at this
    exact this
  have hw : wantR ops ρ o = true := by unfold wantR; rw [hg]; simp only [hd, hb, beq_self_eq_true]
  rw [if_pos hw]
  exact h ρ w hs hs.below hs.const
theorem owes_off {i : Nat} {o : Oper} {j : Nat} {want b : Bool} {d : Tmp} (hg : o.guard = some (j, want)) (hd : (ops[j]?).bind (·.dst) = some d) (hseen : ((o.looksAt ops).contains d && (writer ops d == some j && !late ops i j)) = true)
    (hSj : S j = val (.bool b)) (hb : b ≠ want) (hS : S i = idle) : Owes P ops S w0 a0 i o := by
  intro ρ w hs
  have hv : ρ (.tmp d) = .bool b := by
    have := hs.new' d j hseen
    rw [hSj] at this
    exact this
  have hw : wantR ops ρ o = false := by unfold wantR; rw [hg]; simp [hd, hv, hb]
  rw [if_neg (by simp [hw]), hS]
  exact ⟨trivial, rfl⟩
end
end Go.Proofs.YtbigoifpfkdkjaaGreat.Any
namespace Go.Proofs.YtbigoifpfkdkjaaGreat.Ord
open Go Go.RowKit Any
section
variable {P : Program} {ops : Array Oper} {S : Nat → Spec} {F : Nat → Prop} {w0 : World} {a0 : Act}
theorem owes_on {i : Nat} {o : Oper} {j : Nat} {want : Bool} {d : Tmp} (hg : o.guard = some (j, want)) (hd : (ops[j]?).bind (·.dst) = some d) (hseen : ((o.looksAt ops).contains d && (writer ops d == some j && !late ops i j)) = true)
    (hSj : S j = val (.bool want)) (h : ∀ ρ Os w, Sees ops S F w0 a0 i o ρ Os w → Sc.Keep F w0 w → (∀ c, ρ (.const c) = c) → OpOk P o ρ w (Post S Os i ρ w)) : Owes P ops S F w0 a0 i o := by
  intro ρ Os w hs
  have hb : ρ (.tmp d) = .bool want := hs.val' d j hseen hSj
  have hw : wantR ops ρ o = true := by unfold wantR; rw [hg]; simp only [hd, hb, beq_self_eq_true]
  rw [if_pos hw]
  exact h ρ Os w hs hs.keep hs.const
/-- .. whose guard is known among other things. -/
theorem owes_onk {i : Nat} {o : Oper} {j : Nat} {want : Bool} {d : Tmp} (hg : o.guard = some (j, want)) (hd : (ops[j]?).bind (·.dst) = some d) (hseen : ((o.looksAt ops).contains d && (writer ops d == some j && !late ops i j)) = true)
    (hSj : ∀ ρ v O w, (S j).know ρ v O w → v = .bool want) (h : ∀ ρ Os w, Sees ops S F w0 a0 i o ρ Os w → Sc.Keep F w0 w → (∀ c, ρ (.const c) = c) → OpOk P o ρ w (Post S Os i ρ w)) : Owes P ops S F w0 a0 i o := by
  intro ρ Os w hs
  have hb : ρ (.tmp d) = .bool want := by
    obtain ⟨_, h1⟩ := hs.new' d j hseen
    exact hSj _ _ _ _ h1
  have hw : wantR ops ρ o = true := by unfold wantR; rw [hg]; simp only [hd, hb, beq_self_eq_true]
  rw [if_pos hw]
  exact h ρ Os w hs hs.keep hs.const
theorem owes_off {i : Nat} {o : Oper} {j : Nat} {want b : Bool} {d : Tmp} (hg : o.guard = some (j, want)) (hd : (ops[j]?).bind (·.dst) = some d) (hseen : ((o.looksAt ops).contains d && (writer ops d == some j && !late ops i j)) = true)
    (hSj : S j = val (.bool b)) (hb : b ≠ want) (hS : S i = idle) : Owes P ops S F w0 a0 i o := by
  intro ρ Os w hs
  have hv : ρ (.tmp d) = .bool b := hs.val' d j hseen hSj
  have hw : wantR ops ρ o = false := by unfold wantR; rw [hg]; simp [hd, hv, hb]
  rw [if_neg (by simp [hw]), hS]
  exact fun _ h => h
end
end Go.Proofs.YtbigoifpfkdkjaaGreat.Ord
