/- The program's rules: their array, one of its rows, whether it holds. Whether a rule holds. -/
import Derived.Test.YtbigoifpfkdkjaaGreatDoorTd12
namespace Go.Proofs.YtbigoifpfkdkjaaGreatDoor.Sc
open Go Go.RowKit Go.ChangeShapes Go.WideShapes Go.ChangeAt
set_option maxRecDepth 100000

/-- What `to` makes. -/
def MadeTo (w : World) (x : Int) (e : Ending) (w' : World) : Prop := ∃ b, e = .returned (.func (.func 160) #[] #[.pointer (some ⟨b, 0, none⟩)]) ∧ Below w.heap.size w w' ∧ w.heap.size ≤ b ∧ w'.heap[b]? = some (.cells #[.int .i64 x] 3 (0, 0))
theorem mkto_any (x : Int) (w : World) : Calls Tryz.prog 109 #[.int .i64 x] w (MadeTo w x) := by
  go_enter Tryz.func109, Tryz.ntmps109
  go_wp2
  go_ret
  exact ⟨w.heap.size, rfl, one_below _ _, Nat.le_refl _, heap_alloc_new _ _⟩

/-- The function values of a rule. -/
def fnV (k : FuncId) : Value := .func (.func k) #[] #[]
def toV (p : Nat) : Value := .func (.func 160) #[] #[.pointer (some ⟨p, 0, none⟩)]
def rulesRow (p q : Nat) : Array Value := #[
  .int .i64 1, fnV 107, fnV 108, toV p,
  .int .i64 2, fnV 104, fnV 105, fnV 110,
  .int .i64 74, fnV 107, fnV 106, fnV 111,
  .int .i64 4, fnV 107, fnV 55, fnV 112,
  .int .i64 4, fnV 107, fnV 55, toV q,
  .int .i64 16, fnV 107, fnV 55, fnV 113,
  .int .i64 32, fnV 107, fnV 56, fnV 114,
  .int .i64 75, fnV 107, fnV 108, fnV 115]
def stOf (k : Int) : Int := if k = 0 then 1 else if k = 1 then 2 else if k = 2 then 74 else if k = 3 then 4 else if k = 4 then 4 else if k = 5 then 16 else if k = 6 then 32 else 75
def mayF (k : Int) : FuncId := if k = 1 then 104 else 107
def byF (k : Int) : FuncId := if k = 0 ∨ k = 7 then 108 else if k = 1 then 105 else if k = 2 then 106 else if k = 6 then 56 else 55
def thenV (k : Int) (p q : Nat) : Value := if k = 0 then toV p else if k = 4 then toV q else if k = 1 then fnV 110 else if k = 2 then fnV 111 else if k = 3 then fnV 112
  else if k = 5 then fnV 113 else if k = 6 then fnV 114 else fnV 115
def ruleRow (k : Int) (p q : Nat) : Array Value := #[.int .i64 (stOf k), fnV (mayF k), fnV (byF k), thenV k p q]

theorem rule_index (k : Int) (p q : Nat) (h0 : 0 ≤ k) (h7 : k ≤ 7) (w : World) : (Instr.index 123 (.agg (rulesRow p q)) (.int .i64 k)).run Tryz.prog w = .ok (.agg (ruleRow k p q)) w := by
  rcases eight h0 h7 with rfl | rfl | rfl | rfl | rfl | rfl | rfl | rfl <;> kernel_rfl

/-- The rules: two boxes beside them. -/
def Rules (w : World) (e : Ending) (w' : World) : Prop := ∃ p q, e = .returned (.agg (rulesRow p q)) ∧ Below w.heap.size w w' ∧ w'.heap[p]? = some (.cells #[.int .i64 1] 3 (0, 0)) ∧ w'.heap[q]? = some (.cells #[.int .i64 4] 3 (0, 0)) ∧ w.heap.size ≤ p ∧ w.heap.size ≤ q
theorem rules_info : (Tryz.prog.info? 123).map (·.size) = some 32 := by kernel_rfl
theorem rules_one (p q : Nat) : (rulesRow p q).all (fun x => x.oneCell') = true := by simp [rulesRow, fnV, toV, Value.oneCell']
theorem rules_under : ∃ e n, Tryz.prog.underlying 123 = some (.array n e) := ⟨_, _, Tryz.underlying123⟩

def rulesZero : Array Value := #[.int .i64 0, .nilFunc, .nilFunc, .nilFunc, .int .i64 0, .nilFunc, .nilFunc, .nilFunc, .int .i64 0, .nilFunc, .nilFunc, .nilFunc, .int .i64 0, .nilFunc, .nilFunc, .nilFunc, .int .i64 0, .nilFunc, .nilFunc, .nilFunc, .int .i64 0, .nilFunc, .nilFunc, .nilFunc, .int .i64 0, .nilFunc, .nilFunc, .nilFunc, .int .i64 0, .nilFunc, .nilFunc, .nilFunc]
theorem setRow_at {w : World} {g : Nat} {old cs : Array Value} {t : TypeId} {fr : Nat × Nat} (h : w.heap[g]? = some (.cells old t fr)) : (w.setRow g cs).heap[g]? = some (.cells cs t fr) := by simp [World.setRow, Array.getElem?_modify, h]
theorem setRow_other {w : World} {g k : Nat} {cs : Array Value} (h : k ≠ g) : (w.setRow g cs).heap[k]? = w.heap[k]? := by simp [World.setRow, Array.getElem?_modify, Ne.symm h]
theorem below_setRow {B : Nat} {w w' : World} (h : Below B w w') {g : Nat} (hg : B ≤ g) (cs : Array Value) : Below B w (w'.setRow g cs) :=
  ⟨h.os, h.tape, h.output, by simpa [World.setRow] using h.size, fun k hk => (setRow_other (by omega)).trans (h.block k hk)⟩

set_option maxHeartbeats 1000000 in
theorem rules_any (w : World) : Calls Tryz.prog 44 #[] w (Rules w) := by
  have HZ : Hid ((w.alloc (.cells rulesZero 123)).heap[w.heap.size]? = some (.cells rulesZero 123 (0, 0))) := Lib.hid (heap_alloc_new _ _)
  go_enter Tryz.func44, Tryz.ntmps44
  go_wp2_with fail
  refine (mkto_any 1 _).mono ?_
  rintro e w1 ⟨p, rfl, hb1, hp1, hp2⟩
  have HZ1 := Lib.hid (blk hb1 (lt_blk HZ.out) HZ.out)
  have hs1 : w.heap.size + 1 ≤ w1.heap.size := size_new hb1
  have HB1 : Hid (Below w.heap.size w w1) := Lib.hid (below_new hb1)
  have HP1 : Hid (w.heap.size + 1 ≤ p ∧ w.heap.size + 1 ≤ w1.heap.size) := Lib.hid ⟨by simpa using hp1, hs1⟩
  have HP2 := Lib.hid hp2
  clear hb1 hp1 hp2 hs1
  go_wp2_with fail
  refine (mkto_any 4 _).mono ?_
  rintro e w2 ⟨q, rfl, hb2, hq1, hq2⟩
  have HZ2 := Lib.hid (blk hb2 (lt_blk HZ1.out) HZ1.out)
  have HP3 := Lib.hid (blk hb2 (lt_blk HP2.out) HP2.out)
  have HB2 := Lib.hid (below_then HB1.out hb2)
  have HQ1 := Lib.hid hq1
  have HQ2 := Lib.hid hq2
  clear hb2 hq1 hq2
  go_wp2_with (first
    | (refine wpList_store_row (P := Tryz.prog) rfl 123 (.tmp 0) (.tmp 17) rfl w.heap.size (rulesRow p q) rfl rfl _ _ HZ2.out (by rw [rules_info]; rfl) rfl (rules_one p q) ?_)
    | fail)
  refine bodyPost_ret (v := .agg (rulesRow p q)) (results_cell_row rfl _ _ w.heap.size _ _ _ _ rfl (setRow_at HZ2.out) Tryz.underlying123 rfl (by rw [rules_info]; rfl)) rfl
    ⟨p, q, rfl, below_setRow HB2.out (Nat.le_refl _) _, (setRow_other (by have := HP1.out; omega)).trans HP3.out, (setRow_other (by have := HP1.out; have := HQ1.out; omega)).trans HQ2.out, by have := HP1.out; omega, by have := HP1.out; have := HQ1.out; omega⟩
end Go.Proofs.YtbigoifpfkdkjaaGreatDoor.Sc
namespace Go.Proofs.YtbigoifpfkdkjaaGreatDoor.Any
open Go Go.RowKit
section
variable {P : Program} {dst : Option Tmp} {t : TypeId} {pos : String} {after : Array Edge} {gd : Option (Nat × Bool)} {ρ : Operand → Value} {w : World} {R : Value → World → Prop}
/-- A call of a function value, of one argument; of two. -/
theorem ok_dyn1 {x y : Operand} {ts : Array TypeId} {k : FuncId} {caps : Array Value} {v0 : Value} (hx : ρ x = .func (.func k) #[] caps) (hy : ρ y = v0) (hgo : (callFunc k (#[v0] ++ caps)).run P w = .ok (.enter k (#[v0] ++ caps)) w)
    (hc : Calls P k (#[v0] ++ caps) w fun e w' => ∃ v, e = .returned v ∧ R v w') : OpOk P ⟨dst, .call ⟨.value x, #[y], ts⟩, t, pos, after, gd⟩ ρ w R := by
  unfold OpOk
  simp [execOp, resolve, hx, hy, Deferred.ofValue, invoke] at hgo ⊢
  rw [hgo]
  simpa using hc
theorem ok_dyn2 {x y z : Operand} {ts : Array TypeId} {k : FuncId} {caps : Array Value} {v0 v1 : Value} (hx : ρ x = .func (.func k) #[] caps) (hy : ρ y = v0) (hz : ρ z = v1) (hgo : (callFunc k (#[v0, v1] ++ caps)).run P w = .ok (.enter k (#[v0, v1] ++ caps)) w)
    (hc : Calls P k (#[v0, v1] ++ caps) w fun e w' => ∃ v, e = .returned v ∧ R v w') : OpOk P ⟨dst, .call ⟨.value x, #[y, z], ts⟩, t, pos, after, gd⟩ ρ w R := by
  unfold OpOk
  simp [execOp, resolve, hx, hy, hz, Deferred.ofValue, invoke] at hgo ⊢
  rw [hgo]
  simpa using hc
/-- An operation on two numbers whose run is known. -/
theorem wpBin2 {op : BinOp} {x y : Operand} {ty ty' : TypeId} {a b v : Value} (hx : ρ x = a) (hy : ρ y = b) (hr : (do eqGuard op ty x y a b; binOp op ty a b : Sem Value).run P w = .ok v w) (h : R v w) : OpOk P ⟨dst, .binOp op ty x y ty', t, pos, after, gd⟩ ρ w R := by
  have hv : (execOp ρ ⟨dst, .binOp op ty x y ty', t, pos, after, gd⟩).run P w = .ok (.value v) w := by
    simp only [execOp, hx, hy]
    rw [Sem.run_bind, hr]
    rfl
  unfold OpOk
  rw [hv]
  exact h
end
end Go.Proofs.YtbigoifpfkdkjaaGreatDoor.Any
namespace Go.Proofs.YtbigoifpfkdkjaaGreatDoor.Sc
open Go Go.RowKit Go.ChangeShapes Go.WideShapes Go.ChangeAt
set_option maxRecDepth 100000

def shv (st : Int) : Int := IntKind.i64.wrap (1 * 2 ^ st.toNat)
def anv (S x : Int) : Int := IntKind.i64.wrap ((BitVec.ofInt 64 S &&& BitVec.ofInt 64 x).toNat)
def bitB (k st : Int) : Bool := anv (stOf k) (shv st) != 0
theorem shl_run (st : Int) (h0 : 0 ≤ st) (h7 : st ≤ 7) (w : World) {x y : Operand} {ty : TypeId} : (do eqGuard .shl ty x y (.int .i64 1) (.int .i64 st); binOp .shl ty (.int .i64 1) (.int .i64 st) : Sem Value).run Tryz.prog w = .ok (.int .i64 (shv st)) w := by
  rcases eight h0 h7 with rfl | rfl | rfl | rfl | rfl | rfl | rfl | rfl <;> rfl
theorem and_run (S x : Int) (w : World) {o o' : Operand} {ty : TypeId} : (do eqGuard .and ty o o' (.int .i64 S) (.int .i64 x); binOp .and ty (.int .i64 S) (.int .i64 x) : Sem Value).run Tryz.prog w = .ok (.int .i64 (anv S x)) w := rfl
theorem bit_st (k st : Int) (h0 : 0 ≤ k) (h7 : k ≤ 7) (s0 : 0 ≤ st) (s7 : st ≤ 7) : bitB k st = (if k = 0 then decide (st = 0) else if k = 1 then decide (st = 1) else if k = 2 then decide (st = 1 ∨ st = 3 ∨ st = 6) else if k = 3 ∨ k = 4 then decide (st = 2)
    else if k = 5 then decide (st = 4) else if k = 6 then decide (st = 5) else decide (st = 0 ∨ st = 1 ∨ st = 3 ∨ st = 6)) := by
  rcases eight h0 h7 with rfl | rfl | rfl | rfl | rfl | rfl | rfl | rfl <;> rcases eight s0 s7 with rfl | rfl | rfl | rfl | rfl | rfl | rfl | rfl <;> decide +kernel

/-- May a kind happen, as a life stands? -/
def Lf.mayB (l : Lf) (k : Int) : Bool := if k = 1 then !l.cf && !l.c.s4.toList.isEmpty else true
def Lf.can (l : Lf) (k : Int) : Bool := bitB k l.st && l.mayB k
theorem may_all (k : Int) (h0 : 0 ≤ k) (h7 : k ≤ 7) (b : Nat) (l : Lf) (vp ve : Value) (w : World) (hb : Box w 116 b l vp ve) : Calls Tryz.prog (mayF k) #[.pointer (some ⟨b, 0, none⟩)] w (Ret w (.bool (l.mayB k))) := by
  by_cases h1 : k = 1
  · subst h1
    exact confirmable_any b l vp ve w hb
  · have e1 : mayF k = 107 := by simp [mayF, h1]
    have e2 : l.mayB k = true := by simp [Lf.mayB, h1]
    rw [e1, e2]
    exact always_any _ w
theorem may_go (k : Int) (a : Array Value) (w : World) : (callFunc (mayF k) a).run Tryz.prog w = .ok (.enter (mayF k) a) w := by
  unfold mayF
  split <;> kernel_rfl

set_option maxHeartbeats 1000000 in
theorem holds_any (k : Int) (h0 : 0 ≤ k) (h7 : k ≤ 7) (p q bk : Nat) (l : Lf) (vp ve : Value) (w : World) (hb : Box w 116 bk l vp ve) (s0 : 0 ≤ l.st) (s7 : l.st ≤ 7) :
    Calls Tryz.prog 45 #[.agg (ruleRow k p q), .pointer (some ⟨bk, 0, none⟩)] w (RetB w (l.can k)) := by
  have SM := Lib.hid (may_all k h0 h7 bk l vp ve)
  have HGO := Lib.hid (may_go k (#[.pointer (some ⟨bk, 0, none⟩)] ++ #[]))
  have hbit : (anv (stOf k) (shv l.st) != 0) = bitB k l.st := rfl
  have hcan : l.can k = (bitB k l.st && l.mayB k) := rfl
  rw [hcan]
  have hc18 : w.cell? ⟨bk, 18, none⟩ = some (.int .i64 l.st) := hb.cell 18
  unfold ruleRow
  clear hcan
  generalize bitB k l.st = bb at *
  generalize l.mayB k = mb at *
  generalize stOf k = S at *
  generalize mayF k = m at *
  generalize byF k = y at *
  generalize thenV k p q = tv at *
  have HO := Lib.hid (one_below w (.cells #[.int .i64 S, fnV m, fnV y, tv] 122))
  have HX : Hid ((w.alloc (.cells #[.int .i64 S, fnV m, fnV y, tv] 122)).heap[w.heap.size]? = some (.cells #[.int .i64 S, fnV m, fnV y, tv] 122 (0, 0))) := Lib.hid (heap_alloc_new _ _)
  have HLT : Hid (bk < (w.alloc (.cells #[.int .i64 S, fnV m, fnV y, tv] 122)).heap.size) := Lib.hid (by have := lt_blk hb; simp; omega)
  have HC : Hid ((w.alloc (.cells #[.int .i64 S, fnV m, fnV y, tv] 122)).cell? ⟨bk, 18, none⟩ = some (.int .i64 l.st)) := Lib.hid ((HO.out.cell (p := ⟨bk, 18, none⟩) (lt_blk hb)).trans hc18)
  have HBB := Lib.hid (hb.below HO.out)
  have HST := Lib.hid (And.intro s0 s7)
  have HBIT := Lib.hid hbit
  clear hbit hc18 hb s0 s7 h0 h7
  generalize l.st = st at *
  cases bb
  · go_enter Tryz.func45, Tryz.ntmps45
    go_wp2_with fail
    refine Any.region_lit (fun
      | 0 => Any.val (.pointer (some ⟨w.heap.size, 0, none⟩))
      | 1 => Any.val (.int .i64 S)
      | 2 => Any.val (.pointer (some ⟨bk, 0, none⟩))
      | 3 => Any.val (.pointer (some ⟨bk, 0, none⟩))
      | 4 => Any.val (.pointer (some ⟨bk, 18, none⟩))
      | 5 => Any.val (.int .i64 st)
      | 6 => Any.val (.int .i64 (shv st))
      | 7 => Any.val (.int .i64 (anv S (shv st)))
      | 8 => Any.val (.bool false)
      | 9 => Any.val (.bool false)
      | 10 => Any.idle
      | 11 => Any.idle
      | 12 => Any.idle
      | 13 => Any.idle
      | 14 => Any.val (.bool false)
      | 15 => Any.val (.bool false)
      | _ => Any.idle) (by kernel_rfl) (by kernel_rfl) (by kernel_rfl) ?_ ?_ ?_
    · intro i _
      match i with
      | 0 => exact Any.lasts_val _
      | 1 => exact Any.lasts_val _
      | 2 => exact Any.lasts_val _
      | 3 => exact Any.lasts_val _
      | 4 => exact Any.lasts_val _
      | 5 => exact Any.lasts_val _
      | 6 => exact Any.lasts_val _
      | 7 => exact Any.lasts_val _
      | 8 => exact Any.lasts_val _
      | 9 => exact Any.lasts_val _
      | 10 => exact Any.lasts_idle
      | 11 => exact Any.lasts_idle
      | 12 => exact Any.lasts_idle
      | 13 => exact Any.lasts_idle
      | 14 => exact Any.lasts_val _
      | 15 => exact Any.lasts_val _
      | n + 16 => exact Any.lasts_idle
    · refine ⟨?_, ?_, ?_, ?_, ?_, ?_, ?_, ?_, ?_, ?_, ?_, ?_, ?_, ?_, ?_, ?_, trivial⟩
      · refine Any.owes_plain rfl fun ρ wo hs' hb hc' => ?_
        have h2 : ρ (.tmp 2) = .pointer (some ⟨w.heap.size, 0, none⟩) := hs'.old' 2 (by kernel_rfl)
        go_simp
        exact Any.post_val hb rfl rfl
      · refine Any.owes_plain rfl fun ρ wo hs' hb hc' => ?_
        have h5 : ρ (.tmp 5) = .pointer (some ⟨w.heap.size, 0, none⟩) := hs'.new' 5 0 (by kernel_rfl)
        have c0 : wo.cell? ⟨w.heap.size, 0, none⟩ = some (.int .i64 S) := cell_blk (blk hb (lt_blk HX.out) HX.out) 0
        go_simp
        exact Any.post_val hb rfl rfl
      · refine Any.owes_plain rfl fun ρ wo hs' hb hc' => ?_
        have h1 : ρ (.tmp 1) = .pointer (some ⟨bk, 0, none⟩) := hs'.old' 1 (by kernel_rfl)
        exact Any.ok_move (Any.post_val hb rfl h1)
      · refine Any.owes_plain rfl fun ρ wo hs' hb hc' => ?_
        have h7 : ρ (.tmp 7) = .pointer (some ⟨bk, 0, none⟩) := hs'.new' 7 2 (by kernel_rfl)
        go_simp
        exact Any.post_val hb rfl rfl
      · refine Any.owes_plain rfl fun ρ wo hs' hb hc' => ?_
        have h8 : ρ (.tmp 8) = .pointer (some ⟨bk, 0, none⟩) := hs'.new' 8 3 (by kernel_rfl)
        go_simp
        exact Any.post_val hb rfl rfl
      · refine Any.owes_plain rfl fun ρ wo hs' hb hc' => ?_
        have h9 : ρ (.tmp 9) = .pointer (some ⟨bk, 18, none⟩) := hs'.new' 9 4 (by kernel_rfl)
        have c0 : wo.cell? ⟨bk, 18, none⟩ = some (.int .i64 st) := (hb.cell (p := ⟨bk, 18, none⟩) HLT.out).trans HC.out
        go_simp
        exact Any.post_val hb rfl rfl
      · refine Any.owes_plain rfl fun ρ wo hs' hb hc' => ?_
        have h10 : ρ (.tmp 10) = .int .i64 st := hs'.new' 10 5 (by kernel_rfl)
        exact Any.wpBin2 (hc' _) h10 (shl_run st HST.out.1 HST.out.2 wo) (Any.post_val hb rfl rfl)
      · refine Any.owes_plain rfl fun ρ wo hs' hb hc' => ?_
        have h6 : ρ (.tmp 6) = .int .i64 S := hs'.new' 6 1 (by kernel_rfl)
        have h11 : ρ (.tmp 11) = .int .i64 (shv st) := hs'.new' 11 6 (by kernel_rfl)
        exact Any.wpBin2 h6 h11 (and_run S (shv st) wo) (Any.post_val hb rfl rfl)
      · refine Any.owes_plain rfl fun ρ wo hs' hb hc' => ?_
        have h12 : ρ (.tmp 12) = .int .i64 (anv S (shv st)) := hs'.new' 12 7 (by kernel_rfl)
        rw [← HBIT.out]
        go_simp
        exact Any.post_val hb rfl rfl
      · refine Any.owes_plain rfl fun ρ wo hs' hb hc' => ?_
        have h13 : ρ (.tmp 13) = .bool false := hs'.new' 13 8 (by kernel_rfl)
        go_simp
        exact Any.post_val hb rfl rfl
      · exact Any.owes_off rfl rfl (by kernel_rfl) rfl (by decide) rfl
      · exact Any.owes_off rfl rfl (by kernel_rfl) rfl (by decide) rfl
      · exact Any.owes_off rfl rfl (by kernel_rfl) rfl (by decide) rfl
      · exact Any.owes_off rfl rfl (by kernel_rfl) rfl (by decide) rfl
      · refine Any.owes_plain rfl fun ρ wo hs' hb hc' => ?_
        have h14 : ρ (.tmp 14) = .bool false := hs'.new' 14 9 (by kernel_rfl)
        go_simp
        exact Any.post_val hb rfl rfl
      · refine Any.owes_plain rfl fun ρ wo hs' hb hc' => ?_
        have h19 : ρ (.tmp 19) = .bool false := hs'.new' 19 14 (by kernel_rfl)
        exact Any.ok_assign (Any.post_val hb rfl h19)
    · intro vals w' hb hk ha
      have h15 : vals 15 = .bool false := hk 15 (by kernel_rfl)
      have HO2 : Hid (Below w.heap.size w w') := Lib.hid (HO.out.trans (hb.mono HO.out.size))
      clear hk ha hb
      simp only [Any.putAll]
      go_frame
      go_wp2_with fail
      go_ret
      exact ⟨ret_eq h15, HO2.out⟩
  · go_enter Tryz.func45, Tryz.ntmps45
    go_wp2_with fail
    refine Any.region_lit (fun
      | 0 => Any.val (.pointer (some ⟨w.heap.size, 0, none⟩))
      | 1 => Any.val (.int .i64 S)
      | 2 => Any.val (.pointer (some ⟨bk, 0, none⟩))
      | 3 => Any.val (.pointer (some ⟨bk, 0, none⟩))
      | 4 => Any.val (.pointer (some ⟨bk, 18, none⟩))
      | 5 => Any.val (.int .i64 st)
      | 6 => Any.val (.int .i64 (shv st))
      | 7 => Any.val (.int .i64 (anv S (shv st)))
      | 8 => Any.val (.bool true)
      | 9 => Any.val (.bool true)
      | 10 => Any.val (.pointer (some ⟨w.heap.size, 1, none⟩))
      | 11 => Any.val (fnV m)
      | 12 => Any.val (.pointer (some ⟨bk, 0, none⟩))
      | 13 => Any.val (.bool mb)
      | 14 => Any.val (.bool mb)
      | 15 => Any.val (.bool mb)
      | _ => Any.idle) (by kernel_rfl) (by kernel_rfl) (by kernel_rfl) ?_ ?_ ?_
    · intro i _
      match i with
      | 0 => exact Any.lasts_val _
      | 1 => exact Any.lasts_val _
      | 2 => exact Any.lasts_val _
      | 3 => exact Any.lasts_val _
      | 4 => exact Any.lasts_val _
      | 5 => exact Any.lasts_val _
      | 6 => exact Any.lasts_val _
      | 7 => exact Any.lasts_val _
      | 8 => exact Any.lasts_val _
      | 9 => exact Any.lasts_val _
      | 10 => exact Any.lasts_val _
      | 11 => exact Any.lasts_val _
      | 12 => exact Any.lasts_val _
      | 13 => exact Any.lasts_val _
      | 14 => exact Any.lasts_val _
      | 15 => exact Any.lasts_val _
      | n + 16 => exact Any.lasts_idle
    · refine ⟨?_, ?_, ?_, ?_, ?_, ?_, ?_, ?_, ?_, ?_, ?_, ?_, ?_, ?_, ?_, ?_, trivial⟩
      · refine Any.owes_plain rfl fun ρ wo hs' hb hc' => ?_
        have h2 : ρ (.tmp 2) = .pointer (some ⟨w.heap.size, 0, none⟩) := hs'.old' 2 (by kernel_rfl)
        go_simp
        exact Any.post_val hb rfl rfl
      · refine Any.owes_plain rfl fun ρ wo hs' hb hc' => ?_
        have h5 : ρ (.tmp 5) = .pointer (some ⟨w.heap.size, 0, none⟩) := hs'.new' 5 0 (by kernel_rfl)
        have c0 : wo.cell? ⟨w.heap.size, 0, none⟩ = some (.int .i64 S) := cell_blk (blk hb (lt_blk HX.out) HX.out) 0
        go_simp
        exact Any.post_val hb rfl rfl
      · refine Any.owes_plain rfl fun ρ wo hs' hb hc' => ?_
        have h1 : ρ (.tmp 1) = .pointer (some ⟨bk, 0, none⟩) := hs'.old' 1 (by kernel_rfl)
        exact Any.ok_move (Any.post_val hb rfl h1)
      · refine Any.owes_plain rfl fun ρ wo hs' hb hc' => ?_
        have h7 : ρ (.tmp 7) = .pointer (some ⟨bk, 0, none⟩) := hs'.new' 7 2 (by kernel_rfl)
        go_simp
        exact Any.post_val hb rfl rfl
      · refine Any.owes_plain rfl fun ρ wo hs' hb hc' => ?_
        have h8 : ρ (.tmp 8) = .pointer (some ⟨bk, 0, none⟩) := hs'.new' 8 3 (by kernel_rfl)
        go_simp
        exact Any.post_val hb rfl rfl
      · refine Any.owes_plain rfl fun ρ wo hs' hb hc' => ?_
        have h9 : ρ (.tmp 9) = .pointer (some ⟨bk, 18, none⟩) := hs'.new' 9 4 (by kernel_rfl)
        have c0 : wo.cell? ⟨bk, 18, none⟩ = some (.int .i64 st) := (hb.cell (p := ⟨bk, 18, none⟩) HLT.out).trans HC.out
        go_simp
        exact Any.post_val hb rfl rfl
      · refine Any.owes_plain rfl fun ρ wo hs' hb hc' => ?_
        have h10 : ρ (.tmp 10) = .int .i64 st := hs'.new' 10 5 (by kernel_rfl)
        exact Any.wpBin2 (hc' _) h10 (shl_run st HST.out.1 HST.out.2 wo) (Any.post_val hb rfl rfl)
      · refine Any.owes_plain rfl fun ρ wo hs' hb hc' => ?_
        have h6 : ρ (.tmp 6) = .int .i64 S := hs'.new' 6 1 (by kernel_rfl)
        have h11 : ρ (.tmp 11) = .int .i64 (shv st) := hs'.new' 11 6 (by kernel_rfl)
        exact Any.wpBin2 h6 h11 (and_run S (shv st) wo) (Any.post_val hb rfl rfl)
      · refine Any.owes_plain rfl fun ρ wo hs' hb hc' => ?_
        have h12 : ρ (.tmp 12) = .int .i64 (anv S (shv st)) := hs'.new' 12 7 (by kernel_rfl)
        rw [← HBIT.out]
        go_simp
        exact Any.post_val hb rfl rfl
      · refine Any.owes_plain rfl fun ρ wo hs' hb hc' => ?_
        have h13 : ρ (.tmp 13) = .bool true := hs'.new' 13 8 (by kernel_rfl)
        go_simp
        exact Any.post_val hb rfl rfl
      · refine Any.owes_on rfl rfl (by kernel_rfl) rfl fun ρ wo hs' hb hc' => ?_
        have h2 : ρ (.tmp 2) = .pointer (some ⟨w.heap.size, 0, none⟩) := hs'.old' 2 (by kernel_rfl)
        go_simp
        exact Any.post_val hb rfl rfl
      · refine Any.owes_on rfl rfl (by kernel_rfl) rfl fun ρ wo hs' hb hc' => ?_
        have h15 : ρ (.tmp 15) = .pointer (some ⟨w.heap.size, 1, none⟩) := hs'.new' 15 10 (by kernel_rfl)
        have c0 : wo.cell? ⟨w.heap.size, 1, none⟩ = some (fnV m) := cell_blk (blk hb (lt_blk HX.out) HX.out) 1
        go_simp
        exact Any.post_val hb rfl rfl
      · refine Any.owes_on rfl rfl (by kernel_rfl) rfl fun ρ wo hs' hb hc' => ?_
        have h1 : ρ (.tmp 1) = .pointer (some ⟨bk, 0, none⟩) := hs'.old' 1 (by kernel_rfl)
        exact Any.ok_move (Any.post_val hb rfl h1)
      · refine Any.owes_on rfl rfl (by kernel_rfl) rfl fun ρ wo hs' hb hc' => ?_
        have h16 : ρ (.tmp 16) = fnV m := hs'.new' 16 11 (by kernel_rfl)
        have h17 : ρ (.tmp 17) = .pointer (some ⟨bk, 0, none⟩) := hs'.new' 17 12 (by kernel_rfl)
        exact Any.ok_dyn1 h16 h17 (HGO.out _) ((SM.out wo (HBB.out.below (below_undrew hb))).mono fun e w' ⟨he, hb'⟩ => ⟨_, he, Any.post_vals hb rfl rfl hb'⟩)
      · refine Any.owes_plain rfl fun ρ wo hs' hb hc' => ?_
        have h14 : ρ (.tmp 14) = .bool true := hs'.new' 14 9 (by kernel_rfl)
        have h18 : ρ (.tmp 18) = .bool mb := hs'.new' 18 13 (by kernel_rfl)
        go_simp
        exact Any.post_val hb rfl rfl
      · refine Any.owes_plain rfl fun ρ wo hs' hb hc' => ?_
        have h19 : ρ (.tmp 19) = .bool mb := hs'.new' 19 14 (by kernel_rfl)
        exact Any.ok_assign (Any.post_val hb rfl h19)
    · intro vals w' hb hk ha
      have h15 : vals 15 = .bool mb := hk 15 (by kernel_rfl)
      have HO2 : Hid (Below w.heap.size w w') := Lib.hid (HO.out.trans (hb.mono HO.out.size))
      clear hk ha hb
      simp only [Any.putAll]
      go_frame
      go_wp2_with fail
      go_ret
      exact ⟨ret_eq h15, HO2.out⟩
end Go.Proofs.YtbigoifpfkdkjaaGreatDoor.Sc
