/- Whether a rule holds. -/
import Derived.Test.YtjabjfkfoenmlaaRules34
namespace Go.Proofs.Ytjabjfkfoenmlaa.Any
open Go Go.RowKit
section
variable {P : Program} {dst : Option Tmp} {t : TypeId} {pos : String} {after : Array Edge} {gd : Option (Nat × Bool)} {ρ : Operand → Value} {w : World} {R : Value → World → Prop}
/-- A call of a function value, of one argument; of two. -/
theorem ok_dyn1 {x y : Operand} {ts : Array TypeId} {k : FuncId} {caps : Array Value} {v0 : Value} (hx : ρ x = .func (.func k) #[] caps) (hy : ρ y = v0) (hgo : (callFunc k (#[v0] ++ caps)).run P w = .ok (.enter k (#[v0] ++ caps)) w)
    (hc : Calls P k (#[v0] ++ caps) w fun e w' => ∃ v, e = .returned v ∧ R v w') : OpOk P ⟨dst, .call ⟨.value x, #[y], ts⟩, t, pos, after, gd⟩ ρ w R := by
  unfold OpOk
  simp [execOp, resolve, hx, hy, Deferred.ofValue, invoke] at hgo ⊢
  rw [hgo]
  simpa using hc
theorem ok_dyn2 {x y z : Operand} {ts : Array TypeId} {k : FuncId} {caps : Array Value} {v0 v1 : Value} (hx : ρ x = .func (.func k) #[] caps) (hy : ρ y = v0) (hz : ρ z = v1) (hgo : (callFunc k (#[v0, v1] ++ caps)).run P w = .ok (.enter k (#[v0, v1] ++ caps)) w)
    (hc : Calls P k (#[v0, v1] ++ caps) w fun e w' => ∃ v, e = .returned v ∧ R v w') : OpOk P ⟨dst, .call ⟨.value x, #[y, z], ts⟩, t, pos, after, gd⟩ ρ w R := by
  unfold OpOk
  simp [execOp, resolve, hx, hy, hz, Deferred.ofValue, invoke] at hgo ⊢
  rw [hgo]
  simpa using hc
/-- An operation on two numbers whose run is known. -/
theorem wpBin2 {op : BinOp} {x y : Operand} {ty ty' : TypeId} {a b v : Value} (hx : ρ x = a) (hy : ρ y = b) (hr : (do eqGuard op ty x y a b; binOp op ty a b : Sem Value).run P w = .ok v w) (h : R v w) : OpOk P ⟨dst, .binOp op ty x y ty', t, pos, after, gd⟩ ρ w R := by
  have hv : (execOp ρ ⟨dst, .binOp op ty x y ty', t, pos, after, gd⟩).run P w = .ok (.value v) w := by
    simp only [execOp, hx, hy]
    rw [Sem.run_bind, hr]
    rfl
  unfold OpOk
  rw [hv]
  exact h
end
end Go.Proofs.Ytjabjfkfoenmlaa.Any
namespace Go.Proofs.Ytjabjfkfoenmlaa.Sc
open Go Go.RowKit Go.ChangeShapes Go.WideShapes Go.ChangeAt
set_option maxRecDepth 100000

def shv (st : Int) : Int := IntKind.i64.wrap (1 * 2 ^ st.toNat)
def anv (S x : Int) : Int := IntKind.i64.wrap ((BitVec.ofInt 64 S &&& BitVec.ofInt 64 x).toNat)
def bitB (k st : Int) : Bool := anv (stOf k) (shv st) != 0
theorem shl_run (st : Int) (h0 : 0 ≤ st) (h7 : st ≤ 7) (w : World) {x y : Operand} {ty : TypeId} : (do eqGuard .shl ty x y (.int .i64 1) (.int .i64 st); binOp .shl ty (.int .i64 1) (.int .i64 st) : Sem Value).run Try.prog w = .ok (.int .i64 (shv st)) w := by
  rcases eight h0 h7 with rfl | rfl | rfl | rfl | rfl | rfl | rfl | rfl <;> rfl
theorem and_run (S x : Int) (w : World) {o o' : Operand} {ty : TypeId} : (do eqGuard .and ty o o' (.int .i64 S) (.int .i64 x); binOp .and ty (.int .i64 S) (.int .i64 x) : Sem Value).run Try.prog w = .ok (.int .i64 (anv S x)) w := rfl
theorem bit_st (k st : Int) (h0 : 0 ≤ k) (h7 : k ≤ 7) (s0 : 0 ≤ st) (s7 : st ≤ 7) : bitB k st = (if k = 0 then decide (st = 0) else if k = 1 then decide (st = 1) else if k = 2 then decide (st = 1 ∨ st = 3 ∨ st = 6) else if k = 3 ∨ k = 4 then decide (st = 2)
    else if k = 5 then decide (st = 4) else if k = 6 then decide (st = 5) else decide (st = 0 ∨ st = 1 ∨ st = 3 ∨ st = 6)) := by
  rcases eight h0 h7 with rfl | rfl | rfl | rfl | rfl | rfl | rfl | rfl <;> rcases eight s0 s7 with rfl | rfl | rfl | rfl | rfl | rfl | rfl | rfl <;> decide +kernel

/-- May a kind happen, as a life stands? -/
def Lf.mayB (l : Lf) (k : Int) : Bool := if k = 1 then !l.cf && !l.c.s4.toList.isEmpty else true
def Lf.can (l : Lf) (k : Int) : Bool := bitB k l.st && l.mayB k
theorem may_all (k : Int) (h0 : 0 ≤ k) (h7 : k ≤ 7) (b : Nat) (l : Lf) (vp ve : Value) (w : World) (hb : Box w 74 b l vp ve) : Calls Try.prog (mayF k) #[.pointer (some ⟨b, 0, none⟩)] w (Ret w (.bool (l.mayB k))) := by
  by_cases h1 : k = 1
  · subst h1
    exact confirmable_any b l vp ve w hb
  · have e1 : mayF k = 58 := by simp [mayF, h1]
    have e2 : l.mayB k = true := by simp [Lf.mayB, h1]
    rw [e1, e2]
    exact always_any _ w
theorem may_go (k : Int) (a : Array Value) (w : World) : (callFunc (mayF k) a).run Try.prog w = .ok (.enter (mayF k) a) w := by
  unfold mayF
  split <;> kernel_rfl

set_option maxHeartbeats 1000000 in
theorem holds_any (k : Int) (h0 : 0 ≤ k) (h7 : k ≤ 7) (p q bk : Nat) (l : Lf) (vp ve : Value) (w : World) (hb : Box w 74 bk l vp ve) (s0 : 0 ≤ l.st) (s7 : l.st ≤ 7) :
    Calls Try.prog 37 #[.agg (ruleRow k p q), .pointer (some ⟨bk, 0, none⟩)] w (RetB w (l.can k)) := by
  have SM := Lib.hid (may_all k h0 h7 bk l vp ve)
  have HGO := Lib.hid (may_go k (#[.pointer (some ⟨bk, 0, none⟩)] ++ #[]))
  have hbit : (anv (stOf k) (shv l.st) != 0) = bitB k l.st := rfl
  have hcan : l.can k = (bitB k l.st && l.mayB k) := rfl
  rw [hcan]
  have hc18 : w.cell? ⟨bk, 18, none⟩ = some (.int .i64 l.st) := hb.cell 18
  unfold ruleRow
  clear hcan
  generalize bitB k l.st = bb at *
  generalize l.mayB k = mb at *
  generalize stOf k = S at *
  generalize mayF k = m at *
  generalize byF k = y at *
  generalize thenV k p q = tv at *
  have HO := Lib.hid (one_below w (.cells #[.int .i64 S, fnV m, fnV y, tv] 80))
  have HX : Hid ((w.alloc (.cells #[.int .i64 S, fnV m, fnV y, tv] 80)).heap[w.heap.size]? = some (.cells #[.int .i64 S, fnV m, fnV y, tv] 80 (0, 0))) := Lib.hid (heap_alloc_new _ _)
  have HLT : Hid (bk < (w.alloc (.cells #[.int .i64 S, fnV m, fnV y, tv] 80)).heap.size) := Lib.hid (by have := lt_blk hb; simp; omega)
  have HC : Hid ((w.alloc (.cells #[.int .i64 S, fnV m, fnV y, tv] 80)).cell? ⟨bk, 18, none⟩ = some (.int .i64 l.st)) := Lib.hid ((HO.out.cell (p := ⟨bk, 18, none⟩) (lt_blk hb)).trans hc18)
  have HBB := Lib.hid (hb.below HO.out)
  have HST := Lib.hid (And.intro s0 s7)
  have HBIT := Lib.hid hbit
  clear hbit hc18 hb s0 s7 h0 h7
  generalize l.st = st at *
  cases bb
  · go_enter Try.func37, Try.ntmps37
    go_wp2_with fail
    refine Any.region_lit (fun
      | 0 => Any.val (.pointer (some ⟨w.heap.size, 0, none⟩))
      | 1 => Any.val (.int .i64 S)
      | 2 => Any.val (.pointer (some ⟨bk, 0, none⟩))
      | 3 => Any.val (.pointer (some ⟨bk, 0, none⟩))
      | 4 => Any.val (.pointer (some ⟨bk, 18, none⟩))
      | 5 => Any.val (.int .i64 st)
      | 6 => Any.val (.int .i64 (shv st))
      | 7 => Any.val (.int .i64 (anv S (shv st)))
      | 8 => Any.val (.bool false)
      | 9 => Any.val (.bool false)
      | 10 => Any.idle
      | 11 => Any.idle
      | 12 => Any.idle
      | 13 => Any.idle
      | 14 => Any.val (.bool false)
      | 15 => Any.val (.bool false)
      | _ => Any.idle) (by kernel_rfl) (by kernel_rfl) (by kernel_rfl) ?_ ?_ ?_
    · intro i _
      match i with
      | 0 => exact Any.lasts_val _
      | 1 => exact Any.lasts_val _
      | 2 => exact Any.lasts_val _
      | 3 => exact Any.lasts_val _
      | 4 => exact Any.lasts_val _
      | 5 => exact Any.lasts_val _
      | 6 => exact Any.lasts_val _
      | 7 => exact Any.lasts_val _
      | 8 => exact Any.lasts_val _
      | 9 => exact Any.lasts_val _
      | 10 => exact Any.lasts_idle
      | 11 => exact Any.lasts_idle
      | 12 => exact Any.lasts_idle
      | 13 => exact Any.lasts_idle
      | 14 => exact Any.lasts_val _
      | 15 => exact Any.lasts_val _
      | n + 16 => exact Any.lasts_idle
    · refine ⟨?_, ?_, ?_, ?_, ?_, ?_, ?_, ?_, ?_, ?_, ?_, ?_, ?_, ?_, ?_, ?_, trivial⟩
      · refine Any.owes_plain rfl fun ρ wo hs' hb hc' => ?_
        have h2 : ρ (.tmp 2) = .pointer (some ⟨w.heap.size, 0, none⟩) := hs'.old' 2 (by kernel_rfl)
        go_simp
        exact Any.post_val hb rfl rfl
      · refine Any.owes_plain rfl fun ρ wo hs' hb hc' => ?_
        have h5 : ρ (.tmp 5) = .pointer (some ⟨w.heap.size, 0, none⟩) := hs'.new' 5 0 (by kernel_rfl)
        have c0 : wo.cell? ⟨w.heap.size, 0, none⟩ = some (.int .i64 S) := cell_blk (blk hb (lt_blk HX.out) HX.out) 0
        go_simp
        exact Any.post_val hb rfl rfl
      · refine Any.owes_plain rfl fun ρ wo hs' hb hc' => ?_
        have h1 : ρ (.tmp 1) = .pointer (some ⟨bk, 0, none⟩) := hs'.old' 1 (by kernel_rfl)
        exact Any.ok_move (Any.post_val hb rfl h1)
      · refine Any.owes_plain rfl fun ρ wo hs' hb hc' => ?_
        have h7 : ρ (.tmp 7) = .pointer (some ⟨bk, 0, none⟩) := hs'.new' 7 2 (by kernel_rfl)
        go_simp
        exact Any.post_val hb rfl rfl
      · refine Any.owes_plain rfl fun ρ wo hs' hb hc' => ?_
        have h8 : ρ (.tmp 8) = .pointer (some ⟨bk, 0, none⟩) := hs'.new' 8 3 (by kernel_rfl)
        go_simp
        exact Any.post_val hb rfl rfl
      · refine Any.owes_plain rfl fun ρ wo hs' hb hc' => ?_
        have h9 : ρ (.tmp 9) = .pointer (some ⟨bk, 18, none⟩) := hs'.new' 9 4 (by kernel_rfl)
        have c0 : wo.cell? ⟨bk, 18, none⟩ = some (.int .i64 st) := (hb.cell (p := ⟨bk, 18, none⟩) HLT.out).trans HC.out
        go_simp
        exact Any.post_val hb rfl rfl
      · refine Any.owes_plain rfl fun ρ wo hs' hb hc' => ?_
        have h10 : ρ (.tmp 10) = .int .i64 st := hs'.new' 10 5 (by kernel_rfl)
        exact Any.wpBin2 (hc' _) h10 (shl_run st HST.out.1 HST.out.2 wo) (Any.post_val hb rfl rfl)
      · refine Any.owes_plain rfl fun ρ wo hs' hb hc' => ?_
        have h6 : ρ (.tmp 6) = .int .i64 S := hs'.new' 6 1 (by kernel_rfl)
        have h11 : ρ (.tmp 11) = .int .i64 (shv st) := hs'.new' 11 6 (by kernel_rfl)
        exact Any.wpBin2 h6 h11 (and_run S (shv st) wo) (Any.post_val hb rfl rfl)
      · refine Any.owes_plain rfl fun ρ wo hs' hb hc' => ?_
        have h12 : ρ (.tmp 12) = .int .i64 (anv S (shv st)) := hs'.new' 12 7 (by kernel_rfl)
        rw [← HBIT.out]
        go_simp
        exact Any.post_val hb rfl rfl
      · refine Any.owes_plain rfl fun ρ wo hs' hb hc' => ?_
        have h13 : ρ (.tmp 13) = .bool false := hs'.new' 13 8 (by kernel_rfl)
        go_simp
        exact Any.post_val hb rfl rfl
      · exact Any.owes_off rfl rfl (by kernel_rfl) rfl (by decide) rfl
      · exact Any.owes_off rfl rfl (by kernel_rfl) rfl (by decide) rfl
      · exact Any.owes_off rfl rfl (by kernel_rfl) rfl (by decide) rfl
      · exact Any.owes_off rfl rfl (by kernel_rfl) rfl (by decide) rfl
      · refine Any.owes_plain rfl fun ρ wo hs' hb hc' => ?_
        have h14 : ρ (.tmp 14) = .bool false := hs'.new' 14 9 (by kernel_rfl)
        go_simp
        exact Any.post_val hb rfl rfl
      · refine Any.owes_plain rfl fun ρ wo hs' hb hc' => ?_
        have h19 : ρ (.tmp 19) = .bool false := hs'.new' 19 14 (by kernel_rfl)
        exact Any.ok_assign (Any.post_val hb rfl h19)
    · intro vals w' hb hk ha
      have h15 : vals 15 = .bool false := hk 15 (by kernel_rfl)
      have HO2 : Hid (Below w.heap.size w w') := Lib.hid (HO.out.trans (hb.mono HO.out.size))
      clear hk ha hb
      simp only [Any.putAll]
      go_frame
      go_wp2_with fail
      go_ret
      exact ⟨ret_eq h15, HO2.out⟩
  · go_enter Try.func37, Try.ntmps37
    go_wp2_with fail
    refine Any.region_lit (fun
      | 0 => Any.val (.pointer (some ⟨w.heap.size, 0, none⟩))
      | 1 => Any.val (.int .i64 S)
      | 2 => Any.val (.pointer (some ⟨bk, 0, none⟩))
      | 3 => Any.val (.pointer (some ⟨bk, 0, none⟩))
      | 4 => Any.val (.pointer (some ⟨bk, 18, none⟩))
      | 5 => Any.val (.int .i64 st)
      | 6 => Any.val (.int .i64 (shv st))
      | 7 => Any.val (.int .i64 (anv S (shv st)))
      | 8 => Any.val (.bool true)
      | 9 => Any.val (.bool true)
      | 10 => Any.val (.pointer (some ⟨w.heap.size, 1, none⟩))
      | 11 => Any.val (fnV m)
      | 12 => Any.val (.pointer (some ⟨bk, 0, none⟩))
      | 13 => Any.val (.bool mb)
      | 14 => Any.val (.bool mb)
      | 15 => Any.val (.bool mb)
      | _ => Any.idle) (by kernel_rfl) (by kernel_rfl) (by kernel_rfl) ?_ ?_ ?_
    · intro i _
      match i with
      | 0 => exact Any.lasts_val _
      | 1 => exact Any.lasts_val _
      | 2 => exact Any.lasts_val _
      | 3 => exact Any.lasts_val _
      | 4 => exact Any.lasts_val _
      | 5 => exact Any.lasts_val _
      | 6 => exact Any.lasts_val _
      | 7 => exact Any.lasts_val _
      | 8 => exact Any.lasts_val _
      | 9 => exact Any.lasts_val _
      | 10 => exact Any.lasts_val _
      | 11 => exact Any.lasts_val _
      | 12 => exact Any.lasts_val _
      | 13 => exact Any.lasts_val _
      | 14 => exact Any.lasts_val _
      | 15 => exact Any.lasts_val _
      | n + 16 => exact Any.lasts_idle
    · refine ⟨?_, ?_, ?_, ?_, ?_, ?_, ?_, ?_, ?_, ?_, ?_, ?_, ?_, ?_, ?_, ?_, trivial⟩
      · refine Any.owes_plain rfl fun ρ wo hs' hb hc' => ?_
        have h2 : ρ (.tmp 2) = .pointer (some ⟨w.heap.size, 0, none⟩) := hs'.old' 2 (by kernel_rfl)
        go_simp
        exact Any.post_val hb rfl rfl
      · refine Any.owes_plain rfl fun ρ wo hs' hb hc' => ?_
        have h5 : ρ (.tmp 5) = .pointer (some ⟨w.heap.size, 0, none⟩) := hs'.new' 5 0 (by kernel_rfl)
        have c0 : wo.cell? ⟨w.heap.size, 0, none⟩ = some (.int .i64 S) := cell_blk (blk hb (lt_blk HX.out) HX.out) 0
        go_simp
        exact Any.post_val hb rfl rfl
      · refine Any.owes_plain rfl fun ρ wo hs' hb hc' => ?_
        have h1 : ρ (.tmp 1) = .pointer (some ⟨bk, 0, none⟩) := hs'.old' 1 (by kernel_rfl)
        exact Any.ok_move (Any.post_val hb rfl h1)
      · refine Any.owes_plain rfl fun ρ wo hs' hb hc' => ?_
        have h7 : ρ (.tmp 7) = .pointer (some ⟨bk, 0, none⟩) := hs'.new' 7 2 (by kernel_rfl)
        go_simp
        exact Any.post_val hb rfl rfl
      · refine Any.owes_plain rfl fun ρ wo hs' hb hc' => ?_
        have h8 : ρ (.tmp 8) = .pointer (some ⟨bk, 0, none⟩) := hs'.new' 8 3 (by kernel_rfl)
        go_simp
        exact Any.post_val hb rfl rfl
      · refine Any.owes_plain rfl fun ρ wo hs' hb hc' => ?_
        have h9 : ρ (.tmp 9) = .pointer (some ⟨bk, 18, none⟩) := hs'.new' 9 4 (by kernel_rfl)
        have c0 : wo.cell? ⟨bk, 18, none⟩ = some (.int .i64 st) := (hb.cell (p := ⟨bk, 18, none⟩) HLT.out).trans HC.out
        go_simp
        exact Any.post_val hb rfl rfl
      · refine Any.owes_plain rfl fun ρ wo hs' hb hc' => ?_
        have h10 : ρ (.tmp 10) = .int .i64 st := hs'.new' 10 5 (by kernel_rfl)
        exact Any.wpBin2 (hc' _) h10 (shl_run st HST.out.1 HST.out.2 wo) (Any.post_val hb rfl rfl)
      · refine Any.owes_plain rfl fun ρ wo hs' hb hc' => ?_
        have h6 : ρ (.tmp 6) = .int .i64 S := hs'.new' 6 1 (by kernel_rfl)
        have h11 : ρ (.tmp 11) = .int .i64 (shv st) := hs'.new' 11 6 (by kernel_rfl)
        exact Any.wpBin2 h6 h11 (and_run S (shv st) wo) (Any.post_val hb rfl rfl)
      · refine Any.owes_plain rfl fun ρ wo hs' hb hc' => ?_
        have h12 : ρ (.tmp 12) = .int .i64 (anv S (shv st)) := hs'.new' 12 7 (by kernel_rfl)
        rw [← HBIT.out]
        go_simp
        exact Any.post_val hb rfl rfl
      · refine Any.owes_plain rfl fun ρ wo hs' hb hc' => ?_
        have h13 : ρ (.tmp 13) = .bool true := hs'.new' 13 8 (by kernel_rfl)
        go_simp
        exact Any.post_val hb rfl rfl
      · refine Any.owes_on rfl rfl (by kernel_rfl) rfl fun ρ wo hs' hb hc' => ?_
        have h2 : ρ (.tmp 2) = .pointer (some ⟨w.heap.size, 0, none⟩) := hs'.old' 2 (by kernel_rfl)
        go_simp
        exact Any.post_val hb rfl rfl
      · refine Any.owes_on rfl rfl (by kernel_rfl) rfl fun ρ wo hs' hb hc' => ?_
        have h15 : ρ (.tmp 15) = .pointer (some ⟨w.heap.size, 1, none⟩) := hs'.new' 15 10 (by kernel_rfl)
        have c0 : wo.cell? ⟨w.heap.size, 1, none⟩ = some (fnV m) := cell_blk (blk hb (lt_blk HX.out) HX.out) 1
        go_simp
        exact Any.post_val hb rfl rfl
      · refine Any.owes_on rfl rfl (by kernel_rfl) rfl fun ρ wo hs' hb hc' => ?_
        have h1 : ρ (.tmp 1) = .pointer (some ⟨bk, 0, none⟩) := hs'.old' 1 (by kernel_rfl)
        exact Any.ok_move (Any.post_val hb rfl h1)
      · refine Any.owes_on rfl rfl (by kernel_rfl) rfl fun ρ wo hs' hb hc' => ?_
        have h16 : ρ (.tmp 16) = fnV m := hs'.new' 16 11 (by kernel_rfl)
        have h17 : ρ (.tmp 17) = .pointer (some ⟨bk, 0, none⟩) := hs'.new' 17 12 (by kernel_rfl)
        exact Any.ok_dyn1 h16 h17 (HGO.out _) ((SM.out wo (HBB.out.below (below_undrew hb))).mono fun e w' ⟨he, hb'⟩ => ⟨_, he, Any.post_vals hb rfl rfl hb'⟩)
      · refine Any.owes_plain rfl fun ρ wo hs' hb hc' => ?_
        have h14 : ρ (.tmp 14) = .bool true := hs'.new' 14 9 (by kernel_rfl)
        have h18 : ρ (.tmp 18) = .bool mb := hs'.new' 18 13 (by kernel_rfl)
        go_simp
        exact Any.post_val hb rfl rfl
      · refine Any.owes_plain rfl fun ρ wo hs' hb hc' => ?_
        have h19 : ρ (.tmp 19) = .bool mb := hs'.new' 19 14 (by kernel_rfl)
        exact Any.ok_assign (Any.post_val hb rfl h19)
    · intro vals w' hb hk ha
      have h15 : vals 15 = .bool mb := hk 15 (by kernel_rfl)
      have HO2 : Hid (Below w.heap.size w w') := Lib.hid (HO.out.trans (hb.mono HO.out.size))
      clear hk ha hb
      simp only [Any.putAll]
      go_frame
      go_wp2_with fail
      go_ret
      exact ⟨ret_eq h15, HO2.out⟩
end Go.Proofs.Ytjabjfkfoenmlaa.Sc
