/- The program's rules: their array, one of its rows, whether it holds. -/
import Derived.Test.YtjabjfkfoenmlaaThenB34
namespace Go.Proofs.Ytjabjfkfoenmlaa.Sc
open Go Go.RowKit Go.ChangeShapes Go.WideShapes Go.ChangeAt
set_option maxRecDepth 100000

/-- What `to` makes. -/
def MadeTo (w : World) (x : Int) (e : Ending) (w' : World) : Prop := ∃ b, e = .returned (.func (.func 72) #[] #[.pointer (some ⟨b, 0, none⟩)]) ∧ Below w.heap.size w w' ∧ w.heap.size ≤ b ∧ w'.heap[b]? = some (.cells #[.int .i64 x] 3 (0, 0))
theorem mkto_any (x : Int) (w : World) : Calls Try.prog 60 #[.int .i64 x] w (MadeTo w x) := by
  go_enter Try.func60, Try.ntmps60
  go_wp2
  go_ret
  exact ⟨w.heap.size, rfl, one_below _ _, Nat.le_refl _, heap_alloc_new _ _⟩

/-- The function values of a rule. -/
def fnV (k : FuncId) : Value := .func (.func k) #[] #[]
def toV (p : Nat) : Value := .func (.func 72) #[] #[.pointer (some ⟨p, 0, none⟩)]
def rulesRow (p q : Nat) : Array Value := #[
  .int .i64 1, fnV 58, fnV 59, toV p,
  .int .i64 2, fnV 55, fnV 56, fnV 61,
  .int .i64 74, fnV 58, fnV 57, fnV 62,
  .int .i64 4, fnV 58, fnV 38, fnV 63,
  .int .i64 4, fnV 58, fnV 38, toV q,
  .int .i64 16, fnV 58, fnV 38, fnV 64,
  .int .i64 32, fnV 58, fnV 39, fnV 65,
  .int .i64 75, fnV 58, fnV 59, fnV 66]
def stOf (k : Int) : Int := if k = 0 then 1 else if k = 1 then 2 else if k = 2 then 74 else if k = 3 then 4 else if k = 4 then 4 else if k = 5 then 16 else if k = 6 then 32 else 75
def mayF (k : Int) : FuncId := if k = 1 then 55 else 58
def byF (k : Int) : FuncId := if k = 0 ∨ k = 7 then 59 else if k = 1 then 56 else if k = 2 then 57 else if k = 6 then 39 else 38
def thenV (k : Int) (p q : Nat) : Value := if k = 0 then toV p else if k = 4 then toV q else if k = 1 then fnV 61 else if k = 2 then fnV 62 else if k = 3 then fnV 63
  else if k = 5 then fnV 64 else if k = 6 then fnV 65 else fnV 66
def ruleRow (k : Int) (p q : Nat) : Array Value := #[.int .i64 (stOf k), fnV (mayF k), fnV (byF k), thenV k p q]

theorem rule_index (k : Int) (p q : Nat) (h0 : 0 ≤ k) (h7 : k ≤ 7) (w : World) : (Instr.index 81 (.agg (rulesRow p q)) (.int .i64 k)).run Try.prog w = .ok (.agg (ruleRow k p q)) w := by
  rcases eight h0 h7 with rfl | rfl | rfl | rfl | rfl | rfl | rfl | rfl <;> kernel_rfl

/-- The rules: two boxes beside them. -/
def Rules (w : World) (e : Ending) (w' : World) : Prop := ∃ p q, e = .returned (.agg (rulesRow p q)) ∧ Below w.heap.size w w' ∧ w'.heap[p]? = some (.cells #[.int .i64 1] 3 (0, 0)) ∧ w'.heap[q]? = some (.cells #[.int .i64 4] 3 (0, 0)) ∧ w.heap.size ≤ p ∧ w.heap.size ≤ q
theorem rules_info : (Try.prog.info? 81).map (·.size) = some 32 := by kernel_rfl
theorem rules_one (p q : Nat) : (rulesRow p q).all (fun x => x.oneCell') = true := by simp [rulesRow, fnV, toV, Value.oneCell']
theorem rules_under : ∃ e n, Try.prog.underlying 81 = some (.array n e) := ⟨_, _, Try.underlying81⟩

def rulesZero : Array Value := #[.int .i64 0, .nilFunc, .nilFunc, .nilFunc, .int .i64 0, .nilFunc, .nilFunc, .nilFunc, .int .i64 0, .nilFunc, .nilFunc, .nilFunc, .int .i64 0, .nilFunc, .nilFunc, .nilFunc, .int .i64 0, .nilFunc, .nilFunc, .nilFunc, .int .i64 0, .nilFunc, .nilFunc, .nilFunc, .int .i64 0, .nilFunc, .nilFunc, .nilFunc, .int .i64 0, .nilFunc, .nilFunc, .nilFunc]
theorem setRow_at {w : World} {g : Nat} {old cs : Array Value} {t : TypeId} {fr : Nat × Nat} (h : w.heap[g]? = some (.cells old t fr)) : (w.setRow g cs).heap[g]? = some (.cells cs t fr) := by simp [World.setRow, Array.getElem?_modify, h]
theorem setRow_other {w : World} {g k : Nat} {cs : Array Value} (h : k ≠ g) : (w.setRow g cs).heap[k]? = w.heap[k]? := by simp [World.setRow, Array.getElem?_modify, Ne.symm h]
theorem below_setRow {B : Nat} {w w' : World} (h : Below B w w') {g : Nat} (hg : B ≤ g) (cs : Array Value) : Below B w (w'.setRow g cs) :=
  ⟨h.os, h.tape, h.output, by simpa [World.setRow] using h.size, fun k hk => (setRow_other (by omega)).trans (h.block k hk)⟩

set_option maxHeartbeats 1000000 in
theorem rules_any (w : World) : Calls Try.prog 36 #[] w (Rules w) := by
  have HZ : Hid ((w.alloc (.cells rulesZero 81)).heap[w.heap.size]? = some (.cells rulesZero 81 (0, 0))) := Lib.hid (heap_alloc_new _ _)
  go_enter Try.func36, Try.ntmps36
  go_wp2_with fail
  refine (mkto_any 1 _).mono ?_
  rintro e w1 ⟨p, rfl, hb1, hp1, hp2⟩
  have HZ1 := Lib.hid (blk hb1 (lt_blk HZ.out) HZ.out)
  have hs1 : w.heap.size + 1 ≤ w1.heap.size := size_new hb1
  have HB1 : Hid (Below w.heap.size w w1) := Lib.hid (below_new hb1)
  have HP1 : Hid (w.heap.size + 1 ≤ p ∧ w.heap.size + 1 ≤ w1.heap.size) := Lib.hid ⟨by simpa using hp1, hs1⟩
  have HP2 := Lib.hid hp2
  clear hb1 hp1 hp2 hs1
  go_wp2_with fail
  refine (mkto_any 4 _).mono ?_
  rintro e w2 ⟨q, rfl, hb2, hq1, hq2⟩
  have HZ2 := Lib.hid (blk hb2 (lt_blk HZ1.out) HZ1.out)
  have HP3 := Lib.hid (blk hb2 (lt_blk HP2.out) HP2.out)
  have HB2 := Lib.hid (below_then HB1.out hb2)
  have HQ1 := Lib.hid hq1
  have HQ2 := Lib.hid hq2
  clear hb2 hq1 hq2
  go_wp2_with (first
    | (refine wpList_store_row (P := Try.prog) rfl 81 (.tmp 0) (.tmp 17) rfl w.heap.size (rulesRow p q) rfl rfl _ _ HZ2.out (by rw [rules_info]; rfl) rfl (rules_one p q) ?_)
    | fail)
  refine bodyPost_ret (v := .agg (rulesRow p q)) (results_cell_row rfl _ _ w.heap.size _ _ _ _ rfl (setRow_at HZ2.out) Try.underlying81 rfl (by rw [rules_info]; rfl)) rfl
    ⟨p, q, rfl, below_setRow HB2.out (Nat.le_refl _) _, (setRow_other (by have := HP1.out; omega)).trans HP3.out, (setRow_other (by have := HP1.out; have := HQ1.out; omega)).trans HQ2.out, by have := HP1.out; omega, by have := HP1.out; have := HQ1.out; omega⟩
end Go.Proofs.Ytjabjfkfoenmlaa.Sc
