/- What is left of lots when others are taken: by the program. -/
import Derived.Test.YtgnfdplphpejaaaDoorDelF11
namespace Go.Proofs.YtgnfdplphpejaaaDoor.Sc
open Go Go.RowKit Go.ChangeShapes Go.WideShapes Go.ChangeAt
set_option maxRecDepth 100000

/-- What stands in the map while the taking goes. -/
def LeftOf (cur : Mp.Ents) (l m : List Lt) (todo : Mp.Ents) : Prop :=
  ∀ n, Mp.mget cur n = (if 0 < posTot l n then some (.int .i64 (posTot l n - if Mp.mget todo n = none then posTot m n else 0)) else none) ∧ (Mp.mget todo n = none → posTot m n ≤ posTot l n)
theorem leftOf_start {el ec : Mp.Ents} {l m : List Lt} (h1 : CntOf el l) (h2 : CntOf ec m) : LeftOf el l m ec := fun n => by
  have h3 := h2 n
  have h4 := posTot_nonneg m n
  have h5 := posTot_nonneg l n
  have h6 : Mp.mget ec n = none → posTot m n = 0 := fun e => by
    rw [e] at h3
    split at h3
    · cases h3
    · omega
  refine ⟨?_, fun e => by rw [h6 e]; exact h5⟩
  rw [h1 n]
  by_cases e : Mp.mget ec n = none
  · rw [if_pos e, h6 e, Int.sub_zero]
  · rw [if_neg e, Int.sub_zero]
theorem leftOf_get {cur todo : Mp.Ents} {l m : List Lt} {key : ByteArray} (h : LeftOf cur l m todo) (hk : Mp.mget todo key ≠ none) : (Mp.mget cur key).getD (.int .i64 0) = .int .i64 (posTot l key) := by
  rw [(h key).1, if_neg hk, Int.sub_zero]
  split
  · rfl
  · have := posTot_nonneg l key
    have : posTot l key = 0 := by omega
    rw [this]; rfl
theorem leftOf_in {cur todo : Mp.Ents} {l m : List Lt} {key : ByteArray} (h : LeftOf cur l m todo) (hk : 0 < posTot l key) : Mp.mget cur key ≠ none := by
  rw [(h key).1, if_pos hk]
  exact fun e => by cases e
theorem leftOf_step {cur todo : Mp.Ents} {l m : List Lt} {key : ByteArray} (h : LeftOf cur l m todo) (h0 : 0 < posTot m key) (hle : posTot m key ≤ posTot l key) :
    LeftOf (Mp.mput cur key (.int .i64 (posTot l key - posTot m key))) l m (Mp.mdel todo key) := fun n => by
  rw [Mp.mget_mdel]
  by_cases hn : key = n
  · subst hn
    rw [if_pos rfl, if_pos rfl, Mp.mget_mput_same, if_pos (by omega)]
    exact ⟨rfl, fun _ => hle⟩
  · rw [if_neg hn, Mp.mget_mput_other _ _ (fun e => hn e.symm)]
    exact h n
theorem leftOf_can {cur : Mp.Ents} {l m : List Lt} (h : LeftOf cur l m []) : canTake l m := fun n => (h n).2 rfl
def leftC (l m : List Lt) (n : ByteArray) : Option Int := if 0 < posTot l n then some (posTot l n - posTot m n) else none
theorem leftOf_end {cur : Mp.Ents} {l m : List Lt} (h : LeftOf cur l m []) (n : ByteArray) : Mp.mget cur n = (leftC l m n).map (Value.int .i64) := by
  rw [(h n).1, if_pos (show Mp.mget [] n = none from rfl), leftC]
  split <;> rfl
theorem left_cnt {es : Mp.Ents} {l m : List Lt} (h : ∀ n, Mp.mget es n = (nz (leftC l m n)).map (Value.int .i64)) (hc : canTake l m) : CntOf es (leftL l m) := fun n => by
  have h1 := hc n
  have h2 := posTot_nonneg m n
  rw [h n, leftL_tot hc, leftC, nz]
  by_cases h3 : 0 < posTot l n
  · rw [if_pos h3]
    by_cases h4 : posTot l n - posTot m n = 0
    · rw [if_pos (by rw [h4]), if_neg (by omega)]; rfl
    · rw [if_neg (fun e => h4 (Option.some.inj e)), if_pos (by omega)]; rfl
  · rw [if_neg h3, if_neg (fun e => by cases e), if_neg (by omega)]; rfl
def TakeP (w : World) (l m : List Lt) (e : Ending) (w' : World) : Prop :=
  (canTake l m ∧ ∃ v, e = .returned (.tuple #[v, .bool true]) ∧ w'.ownsRow w.heap.size 35 2 v (leftL l m).length (ltCells (leftL l m)) ∧ Below w.heap.size w w') ∨
    (¬ canTake l m ∧ e = .returned (.tuple #[.slice none 0 0, .bool false]) ∧ Below w.heap.size w w')
end Go.Proofs.YtgnfdplphpejaaaDoor.Sc
