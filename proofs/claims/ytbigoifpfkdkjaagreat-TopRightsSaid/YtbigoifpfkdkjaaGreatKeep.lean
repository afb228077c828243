/- What stays while some blocks may be written: a frame told by the blocks that may turn. No program in sight. -/
import Derived.Test.YtbigoifpfkdkjaaGreatMap
namespace Go.Proofs.YtbigoifpfkdkjaaGreat.Sc
open Go Go.RowKit
set_option maxRecDepth 100000

/-- From w to w' no block has turned but those of F and new ones. -/
structure Keep (F : Nat → Prop) (w w' : World) : Prop where
  os : w'.os = w.os
  tape : w'.tape = w.tape
  output : w'.output = w.output
  size : w.heap.size ≤ w'.heap.size
  block : ∀ k, k < w.heap.size → ¬ F k → w'.heap[k]? = w.heap[k]?

theorem Keep.refl (F : Nat → Prop) (w : World) : Keep F w w := ⟨rfl, rfl, rfl, Nat.le_refl _, fun _ _ _ => rfl⟩
theorem Keep.trans {F G : Nat → Prop} {a b c : World} (h : Keep F a b) (k : Keep G b c) (hG : ∀ i, i < a.heap.size → G i → F i) : Keep F a c :=
  ⟨k.os.trans h.os, k.tape.trans h.tape, k.output.trans h.output, Nat.le_trans h.size k.size, fun i hi hF => (k.block i (Nat.lt_of_lt_of_le hi h.size) (fun g => hF (hG i hi g))).trans (h.block i hi hF)⟩
theorem Keep.mono {F G : Nat → Prop} {a b : World} (h : Keep F a b) (hG : ∀ i, i < a.heap.size → F i → G i) : Keep G a b :=
  ⟨h.os, h.tape, h.output, h.size, fun i hi hF => h.block i hi (fun g => hF (hG i hi g))⟩
theorem Keep.of_below {F : Nat → Prop} {w w' : World} (h : Below w.heap.size w w') : Keep F w w' := ⟨h.os, h.tape, h.output, h.size, fun k hk _ => h.block k hk⟩
theorem Keep.of_grown {w w' : World} {r : Option Nat} (h : w.grownBy w' r) : Keep (fun k => r = some k) w w' := ⟨h.os, h.tape, h.output, h.size, fun k hk hne => h.block k hk (fun e => hne e.symm)⟩
theorem Keep.alloc (F : Nat → Prop) (w : World) (o : Obj) : Keep F w (w.alloc o) := .of_below (one_below w o)
theorem Keep.drew (F : Nat → Prop) (w : World) (n : Nat) : Keep F w (w.drewN n) := ⟨rfl, rfl, rfl, Nat.le_refl _, fun _ _ _ => rfl⟩
theorem Keep.undrew {F : Nat → Prop} {w w' : World} (h : Keep F w.drew w') : Keep F w w' := ⟨h.os, h.tape, h.output, h.size, h.block⟩
theorem Keep.below {F : Nat → Prop} {B : Nat} {w w' : World} (h : Keep F w w') (hB : B ≤ w.heap.size) (hF : ∀ k, k < B → ¬ F k) : Below B w w' := ⟨h.os, h.tape, h.output, h.size, fun k hk => h.block k (Nat.lt_of_lt_of_le hk hB) (hF k hk)⟩
/-- .. behind what lies below B. -/
theorem Keep.behind {F : Nat → Prop} {B : Nat} {a w w' : World} (hb : Below B a w) (h : Keep F w w') (hB : B ≤ w.heap.size) (hF : ∀ k, k < B → ¬ F k) : Below B a w' := hb.trans (h.below hB hF)
theorem Keep.cell {F : Nat → Prop} {w w' : World} (h : Keep F w w') {b o : Nat} (hb : b < w.heap.size) (hF : ¬ F b) : w'.cell? ⟨b, o, none⟩ = w.cell? ⟨b, o, none⟩ := World.cell?_of_block (h.block b hb hF)
theorem Keep.blk {F : Nat → Prop} {w w' : World} (h : Keep F w w') {b : Nat} {o : Obj} (hb : w.heap[b]? = some o) (hF : ¬ F b) : w'.heap[b]? = some o := (h.block b (lt_blk hb) hF).trans hb

/-- No row lies in a block of F. -/
def Off (F : Nat → Prop) (v : Value) : Prop := ∀ b, v.ownBlock = some b → ¬ F b
theorem Sl.keep {F : Nat → Prop} {w w' : World} {sz : Nat} {v : Value} {xs : List (List Value)} (h : Sl w sz v xs) (k : Keep F w w') (hF : Off F v) : Sl w' sz v xs := by
  rcases h with h | ⟨b, off, cap, rfl, hlt, h1, h2, hc⟩
  · exact .inl h
  · exact .inr ⟨b, off, cap, rfl, Nat.lt_of_lt_of_le hlt k.size, h1, h2, fun i r hr j u hu => (k.cell hlt (hF b rfl)).trans (hc i r hr j u hu)⟩
theorem ownsRow_keep {F : Nat → Prop} {w w' : World} {B n : Nat} {e : TypeId} {size : Nat} {v : Value} {xs : List Value} (h : w.ownsRow B e size v n xs) (k : Keep F w w') (hF : Off F v) : w'.ownsRow B e size v n xs := by
  obtain ⟨h1, h2⟩ := h
  refine ⟨h1, ?_⟩
  rcases h2 with h2 | ⟨g, cap, cur, rfl, hg, hh, r⟩
  · exact .inl h2
  · exact .inr ⟨g, cap, cur, rfl, hg, k.blk hh (hF g rfl), r⟩
theorem ownsRow_below {w w' : World} {B n : Nat} {e : TypeId} {size : Nat} {v : Value} {xs : List Value} (h : w.ownsRow B e size v n xs) (k : Below w.heap.size w w') : w'.ownsRow B e size v n xs :=
  ownsRow_keep h (Keep.of_below (F := fun _ => False) k) (fun _ _ h => h)
theorem MapAt.keep {F : Nat → Prop} {w w' : World} {b : Nat} {l : Mp.Ents} (h : Mp.MapAt w b l) (k : Keep F w w') (hF : ¬ F b) : Mp.MapAt w' b l := h.same (k.block b h.lt hF)
theorem IterAt.keep {F : Nat → Prop} {w w' : World} {r b : Nat} {l todo : Mp.Ents} (h : Mp.IterAt w r b l todo) (k : Keep F w w') (hr : ¬ F r) (hb : ¬ F b) : Mp.IterAt w' r b l todo := h.same (k.block r h.lt.1 hr) (k.block b h.lt.2 hb)
theorem ownsRow_off {w : World} {B n : Nat} {e : TypeId} {size : Nat} {v : Value} {xs : List Value} {F : Nat → Prop} (h : w.ownsRow B e size v n xs) (hF : ∀ b, B ≤ b → b < w.heap.size → ¬ F b) : Off F v := fun b hb => hF b (h.lt b hb).1 (h.lt b hb).2
theorem Sl.off_old {w : World} {sz : Nat} {v : Value} {xs : List (List Value)} {F : Nat → Prop} (h : Sl w sz v xs) (h0 : xs ≠ []) (hF : ∀ b, b < w.heap.size → ¬ F b) : Off F v := by
  rcases h with ⟨rfl, _⟩ | ⟨b, off, cap, rfl, hlt, _⟩
  · exact absurd rfl h0
  · intro b' hb'
    obtain rfl : b = b' := Option.some.inj hb'
    exact hF _ hlt
end Go.Proofs.YtbigoifpfkdkjaaGreat.Sc
