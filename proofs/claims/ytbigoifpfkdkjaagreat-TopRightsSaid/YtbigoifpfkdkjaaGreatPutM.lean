/- m[k] = append(m[k], e) in a region that draws its order: the map's turn. No program in sight. -/
import Derived.Test.YtbigoifpfkdkjaaGreatGrow
import Derived.Test.YtbigoifpfkdkjaaGreatMap
namespace Go.Proofs.YtbigoifpfkdkjaaGreat.Ord
open Go Go.RowKit
set_option maxRecDepth 100000
/-- Block bm is a map in which key has operation j's row. -/
def laid (e : TypeId) (sz n : Nat) (xs : List Value) (bm : Nat) (es : Mp.Ents) (key : ByteArray) (j : Nat) : Spec :=
  ⟨fun _ _ O w => ∃ v, w.ownsRow 0 e sz v n xs ∧ Mp.MapAt w bm (Mp.mput es key v) ∧ ∀ k, O k ↔ (k = bm ∨ v.ownBlock = some k), [j], fun k => k = bm⟩
theorem lasts_laid {F : Nat → Prop} {w0 : World} (e : TypeId) (sz n : Nat) (xs : List Value) (bm : Nat) (es : Mp.Ents) (key : ByteArray) (j : Nat) : Lasts F (laid e sz n xs bm es key j) w0 :=
  ⟨fun _ _ _ _ h k hk => by
    obtain ⟨v', h1, h2, h3⟩ := h
    rcases (h3 k).1 hk with rfl | h4
    · exact h2.lt
    · exact (h1.lt k h4).2, fun _ _ _ _ _ h _ _ _ hs => by
    obtain ⟨v', h1, h2, h3⟩ := h
    exact ⟨v', Any.ownsRow_same h1 (fun k hk => hs k ((h3 k).2 (.inr hk))), h2.same (hs bm ((h3 bm).2 (.inl rfl))), h3⟩⟩
theorem row_not_map {w : World} {B sz n b : Nat} {e : TypeId} {v : Value} {xs : List Value} {l : Mp.Ents} (h : w.ownsRow B e sz v n xs) (hm : Mp.MapAt w b l) : v.ownBlock ≠ some b := by
  intro hb
  obtain ⟨es, clock, hh, _⟩ := hm
  rcases h.2 with ⟨hv, _⟩ | ⟨g, cap, cur, hv, _, hc, _⟩
  · rw [hv] at hb; cases hb
  · rw [hv] at hb
    obtain rfl : g = b := Option.some.inj hb
    rw [hh] at hc
    cases hc
section
variable {P : Program} {S : Nat → Spec} {Os : Nat → Nat → Prop} {dst : Option Tmp} {t : TypeId} {pos : String} {after : Array Edge} {gd : Option (Nat × Bool)} {ρ : Operand → Value} {w w0 : World} {i : Nat}
theorem ok_laid {e mt k et : TypeId} {size n j bm : Nat} {xs : List Value} {es : Mp.Ents} {key : ByteArray} {m x y : Operand} (ht : P.underlying mt = some (.map k et)) (hk : P.underlying k = some .string) (hm : ρ m = .map (some bm)) (hx : ρ x = .string key)
    (hy : ∃ _ρ : Operand → Value, w.ownsRow 0 e size (ρ y) n xs ∧ ∀ k, Os j k ↔ (ρ y).ownBlock = some k) (hmap : Mp.MapAt w0 bm es) (hkeep : w.heap[bm]? = w0.heap[bm]?) (hS : S i = laid e size n xs bm es key j) :
    Any.OpOk P ⟨dst, .mapUpdate mt m x y, t, pos, after, gd⟩ ρ w (Post S Os i ρ w) := by
  obtain ⟨_, hrow, hOs⟩ := hy
  have hmw := hmap.same hkeep
  refine Mp.ok_update (key := key) (v := ρ y) ht hk hm hx rfl hmw fun w' h1 h2 h3 => ?_
  refine ⟨fun b => b = bm ∨ (ρ y).ownBlock = some b, ?_, ⟨h2.os, h2.tape, h2.output⟩, h2.size, fun b hlt _ hne => h2.block b hlt (fun e => hne (by rw [hS]; first | exact Option.some.inj e | exact (Option.some.inj e).symm)), fun b hb => ?_⟩
  · rw [hS]
    exact ⟨ρ y, Any.ownsRow_same hrow (fun b hob => h2.block b (hrow.lt b hob).2 (fun e => row_not_map hrow hmw (by first | exact hob.trans e | exact hob.trans e.symm))), h1, fun _ => Iff.rfl⟩
  · rcases hb with rfl | hb
    · exact .inr (.inr (by rw [hS]; exact rfl))
    · exact .inl ⟨j, by rw [hS]; exact List.mem_cons_self, (hOs b).2 hb⟩
end
end Go.Proofs.YtbigoifpfkdkjaaGreat.Ord
