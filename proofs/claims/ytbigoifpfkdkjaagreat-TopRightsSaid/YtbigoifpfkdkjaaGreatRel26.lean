/- New liens; Release, Free, May: by the program. -/
import Derived.Test.YtbigoifpfkdkjaaGreatKeepL26
namespace Go.Proofs.YtbigoifpfkdkjaaGreat.Sc
open Go Go.RowKit Go.ChangeShapes Go.WideShapes Go.ChangeAt
set_option maxRecDepth 100000

def NewP (w : World) (e : Ending) (w' : World) : Prop := ∃ bk bm, e = .returned (.pointer (some ⟨bk, 0, none⟩)) ∧ LnAt w' (fun k => w.heap.size ≤ k ∧ k < w'.heap.size) bk bm (fun _ => []) 0 [] ∧ Below w.heap.size w w'
theorem new_any (w : World) : Calls Tryz.prog 5 #[] w (NewP w) := by
  have tm : ∀ W : World, (Instr.makeMap 47 none).run Tryz.prog W = .ok (.map (some W.heap.size)) (W.alloc (.map #[] 0)) := fun W => by kernel_rfl
  obtain ⟨w1, hw1⟩ : ∃ x, x = (w.alloc (.map #[] 0)).alloc (.cells #[.map (some w.heap.size), .int .i64 0] 49) := ⟨_, rfl⟩
  have HN : Hid (NewP w (.returned (.pointer (some ⟨w.heap.size + 1, 0, none⟩))) w1) := Lib.hid (by
    have h0 := Mp.MapAt.made w
    have hs : w1.heap.size = w.heap.size + 2 := by rw [hw1]; simp
    refine ⟨w.heap.size + 1, w.heap.size, rfl, ⟨?_, ?_, (fun t v h => by cases h), fun _ _ => rfl, (fun t v g h => by cases h), (fun t u v v' g h => by cases h), ⟨by omega, by omega⟩, ⟨by omega, by omega⟩, by omega, fun k hk => hk.2⟩, ?_⟩
    · rw [hw1]
      have := heap_alloc_new (w.alloc (.map #[] 0)) (.cells #[.map (some w.heap.size), .int .i64 0] 49)
      simpa using this
    · rw [hw1]
      exact h0.same (Below.heap_alloc _ _ _ h0.lt)
    · rw [hw1]
      exact (one_below w _).alloc (one_below w _).size _)
  go_enter Tryz.func5, Tryz.ntmps5
  go_wp2_with fail
  rw [← hw1]
  go_ret
  exact HN.out
theorem LnP.from {w w1 w' : World} {F : Nat → Prop} {bk bm n : Nat} {R : ByteArray → List Pg} {v : Value} {e : Ending} (hb : Below w.heap.size w w1) (h : LnP w1 F bk bm R n v e w') : LnP w F bk bm R n v e w' := by
  obtain ⟨F', es', he, h1, h2, h3⟩ := h
  exact ⟨F', es', he, h1, fun k hk => (h2 k hk).imp id (fun h => Nat.le_trans hb.size h), (Keep.of_below hb).trans h3 fun _ _ h => h⟩
section
variable {w : World} {F : Nat → Prop} {bk bm n : Nat} {R : ByteArray → List Pg} {es : Mp.Ents}
def notC (c : ByteArray) (x : Pg) : Bool := !decide (x.cred = c)
def relK (R : ByteArray → List Pg) (t c : ByteArray) : Int := if ((R t).filter (notC c)).length = (R t).length then 4 else 0
end
end Go.Proofs.YtbigoifpfkdkjaaGreat.Sc
