/- The entries of nothing deleted: the library's DeleteFunc at the program's closure, walked. -/
import Derived.Test.YtgnfdplphpejaaaDoorRising11
import Derived.Test.YtgnfdplphpejaaaDoorMapD
namespace Go.Proofs.YtgnfdplphpejaaaDoor.Sc
open Go Go.RowKit Go.ChangeShapes Go.WideShapes Go.ChangeAt
set_option maxRecDepth 100000

def nz (x : Option Int) : Option Int := if x = some 0 then none else x
/-- What stands in the map while the range goes: entries of nothing that have come are gone. -/
def DelOf (cur : Mp.Ents) (C : ByteArray → Option Int) (todo : Mp.Ents) : Prop := ∀ n, Mp.mget cur n = (if Mp.mget todo n = none then nz (C n) else C n).map (Value.int .i64)
theorem delOf_start {es : Mp.Ents} {C : ByteArray → Option Int} (h : ∀ n, Mp.mget es n = (C n).map (Value.int .i64)) : DelOf es C es := fun n => by
  have h1 := h n
  by_cases h0 : Mp.mget es n = none
  · rw [if_pos h0]
    rw [h0] at h1
    have h2 : C n = none := by
      cases hc : C n with
      | none => rfl
      | some c => rw [hc] at h1; cases h1
    rw [h0, h2]
    rfl
  · rw [if_neg h0, h1]
theorem delOf_keep {cur todo : Mp.Ents} {C : ByteArray → Option Int} {key : ByteArray} {c : Int} (h : DelOf cur C todo) (hk : C key = some c) (hin : Mp.mget todo key ≠ none) (hc : ¬ c = 0) : DelOf cur C (Mp.mdel todo key) := fun n => by
  rw [Mp.mget_mdel, h n]
  by_cases hn : key = n
  · subst hn
    rw [if_neg hin, if_pos (if_pos rfl), nz, if_neg]
    rw [hk]
    exact fun e => hc (Option.some.inj e)
  · rw [if_neg hn]
theorem delOf_del {cur todo : Mp.Ents} {C : ByteArray → Option Int} {key : ByteArray} (h : DelOf cur C todo) (hk : C key = some 0) : DelOf (Mp.mdel cur key) C (Mp.mdel (Mp.mdel todo key) key) := fun n => by
  rw [Mp.mget_mdel, Mp.mget_mdel, Mp.mget_mdel, h n]
  by_cases hn : key = n
  · subst hn
    rw [if_pos rfl, if_pos rfl, if_pos rfl, nz, if_pos hk]
    rfl
  · rw [if_neg hn, if_neg hn, if_neg hn]
theorem delOf_end {cur : Mp.Ents} {C : ByteArray → Option Int} (h : DelOf cur C []) (n : ByteArray) : Mp.mget cur n = (nz (C n)).map (Value.int .i64) := by
  rw [h n, if_pos (show Mp.mget [] n = none from rfl)]
theorem mget_ne {l : Mp.Ents} {k : ByteArray} {v : Value} (h : (k, v) ∈ l) : Mp.mget l k ≠ none := fun e => Mp.mget_none.1 e (List.mem_map.2 ⟨_, h, rfl⟩)
def DelP (w : World) (b : Nat) (es : Mp.Ents) (C : ByteArray → Option Int) (e : Ending) (w' : World) : Prop := ∃ es2, e = .returned (.tuple #[]) ∧ Mp.MapAt w' b es2 ∧ (∀ n, Mp.mget es2 n = (nz (C n)).map (Value.int .i64)) ∧ es2.length ≤ es.length ∧ Below b w w'
end Go.Proofs.YtgnfdplphpejaaaDoor.Sc
