/- The search for a way: plainly, and what lies in memory. -/
import Derived.Test.YtbmjficiceiekaaDoorMay16
import Derived.Test.YtbmjficiceiekaaDoorAnyIn
namespace Go.Proofs.YtbmjficiceiekaaDoor.Sc
open Go Go.RowKit Go.ChangeShapes Go.WideShapes Go.ChangeAt
set_option maxRecDepth 100000

/-- What is reached: when, and by which legs. -/
abbrev Rf := ByteArray → Option (Int × List Lg)
def waitC (fr : ByteArray) (ch : Int) (p : ByteArray) : Int := if p = fr then 0 else ch
def rdyC (R : Rf) (fr : ByteArray) (ch : Int) (c : Cl) : Bool := match R c.port with
  | none => false
  | some (d, _) => decide (d + waitC fr ch c.port ≤ c.cut)
/-- The legs of voyage i from its call a on, to its calls from b on (n in all). -/
def restT (i a b n : Nat) : List Lg := (List.range' b (n - b)).map fun t => ⟨i, a, t⟩
def restC (R : Rf) (fr : ByteArray) (ch : Int) (i n : Nat) : List Cl → Nat → List Lg
  | [], _ => []
  | c :: r, a => (if rdyC R fr ch c = true then restT i a (a + 1) n else []) ++ restC R fr ch i n r (a + 1)
def restV (R : Rf) (fr : ByteArray) (ch : Int) : List Vm → Nat → List Lg
  | [], _ => []
  | v :: r, i => restC R fr ch i v.calls.length v.calls 0 ++ restV R fr ch r (i + 1)
theorem restT_end (i a b n : Nat) (h : n ≤ b) : restT i a b n = [] := by simp [restT, Nat.sub_eq_zero_of_le h]
theorem restT_next (i a b n : Nat) (h : b < n) : restT i a b n = ⟨i, a, b⟩ :: restT i a (b + 1) n := by
  unfold restT
  rw [show n - b = (n - (b + 1)) + 1 by omega, List.range'_succ]
  rfl
theorem restC_end (R : Rf) (fr : ByteArray) (ch : Int) (i n : Nat) (l : List Cl) (a : Nat) (h : l.length ≤ a) : restC R fr ch i n (l.drop a) a = [] := by rw [List.drop_eq_nil_of_le h]; rfl
theorem restC_next (R : Rf) (fr : ByteArray) (ch : Int) (i n : Nat) (l : List Cl) (a : Nat) (h : a < l.length) : restC R fr ch i n (l.drop a) a = (if rdyC R fr ch l[a] = true then restT i a (a + 1) n else []) ++ restC R fr ch i n (l.drop (a + 1)) (a + 1) := by
  rw [List.drop_eq_getElem_cons h]; rfl
theorem restV_next (R : Rf) (fr : ByteArray) (ch : Int) (l : List Vm) (i : Nat) (h : i < l.length) : restV R fr ch (l.drop i) i = restC R fr ch i l[i].calls.length (l[i].calls.drop 0) 0 ++ restV R fr ch (l.drop (i + 1)) (i + 1) := by
  rw [List.drop_eq_getElem_cons h]; rfl
/-- A leg that is there. -/
def LgOk (V : List Vm) (x : Lg) : Prop := ∃ v, V[x.voy]? = some v ∧ x.fr < x.to ∧ x.to < v.calls.length
abbrev LgS (V : List Vm) := { x : Lg // LgOk V x }
def encL {V : List Vm} (x : LgS V) : Array Value := #[.agg x.1.cells]
/-- What is reached, in a map. -/
def RDay (es : Mp.Ents) (R : Rf) : Prop := ∀ p, match R p with
  | none => Mp.mget es p = none
  | some (d, _) => ∃ ad n c, Mp.mget es p = some (.agg #[.int .i64 d, .slice ad n c])
theorem zeroStop (w : World) : (zeroValue 55).run Tryd.prog w = .ok (.agg #[.int .i64 0, .slice none 0 0]) w := by kernel_rfl
/-- What a round keeps: all cells, and all that is old, but the block bf. -/
structure KpF (bf n₁ : Nat) (W W' : World) : Prop where
  size : W.heap.size ≤ W'.heap.size
  block : ∀ b o, W.heap[b]? = some o → b ≠ bf → (o.isCells = true ∨ b < n₁) → W'.heap[b]? = some o
variable {bf n₁ : Nat} {W W' W2 : World}
theorem KpF.refl : KpF bf n₁ W W := ⟨Nat.le_refl _, fun _ _ h _ _ => h⟩
theorem KpF.trans (h : KpF bf n₁ W W') (k : KpF bf n₁ W' W2) : KpF bf n₁ W W2 := ⟨Nat.le_trans h.size k.size, fun b o hb hn ho => k.block b o (h.block b o hb hn ho) hn ho⟩
theorem KpF.of_below (h : Below W.heap.size W W') : KpF bf n₁ W W' := ⟨h.size, fun _ _ hb _ _ => blk h (lt_blk hb) hb⟩
theorem KpF.of_grown (h : W.grownBy W' (some bf)) : KpF bf n₁ W W' := ⟨h.size, fun b _ hb hn _ => (h.block b (lt_blk hb) (fun e => hn (Option.some.inj e))).trans hb⟩
theorem KpF.putObj (W : World) (l : Nat) (o o' : Obj) (hl : n₁ ≤ l) (h : W.heap[l]? = some o) (hc : o.isCells = false) : KpF bf n₁ W (W.putObj l o') :=
  ⟨by simp, fun b o1 hb _ ho => by
    have hne : b ≠ l := fun e => by
      subst e
      rw [h] at hb
      obtain rfl := Option.some.inj hb
      rcases ho with h1 | h1
      · rw [hc] at h1; cases h1
      · omega
    exact (World.putObj_heap_other hne).trans hb⟩
theorem KpF.cell {b i : Nat} {o : Obj} {x : Value} (h : KpF bf n₁ W W') (hb : W.heap[b]? = some o) (hn : b ≠ bf) (ho : o.isCells = true ∨ b < n₁) (hx : W.cell? ⟨b, i, none⟩ = some x) : W'.cell? ⟨b, i, none⟩ = some x :=
  (World.cell?_of_block ((h.block b o hb hn ho).trans hb.symm)).trans hx
end Go.Proofs.YtbmjficiceiekaaDoor.Sc
