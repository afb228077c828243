/- The contract of allow.May: the code, by the document's rules. The contracts of allow.Least. -/
import Derived.Test.YtbigoifpfkdkjaaGreatDoorTd02
import Derived.Test.YtbigoifpfkdkjaaGreatDoorTd04
namespace Go.Proofs.YtbigoifpfkdkjaaGreatDoor.Sc
open Go Go.RowKit Go.ChangeShapes Go.WideShapes Go.ChangeAt
set_option maxRecDepth 100000

theorem grown_set (w : World) (b o : Nat) (u : Value) : w.grownBy (w.setCell ⟨b, o, none⟩ u) (some b) :=
  ⟨rfl, rfl, rfl, by simp [World.setCell], fun k _ hne => Below.heap_setCell w _ u k (fun e => hne (by rw [e]))⟩
theorem blk_set {w : World} {b : Nat} {x : Value} {t : TypeId} {fr : Nat × Nat} (h : w.heap[b]? = some (.cells #[x] t fr)) (u : Value) : (w.setCell ⟨b, 0, none⟩ u).heap[b]? = some (.cells #[u] t fr) := by
  simp [World.setCell, Array.getElem?_modify, h]
theorem drCells_flat (l : List Dr) : drCells l = (l.map Dr.row).flatten := by simp [drCells, List.flatMap]
theorem dr_rows (l : List Dr) : ∀ r ∈ l.map Dr.row, r.length = 2 := by intro r hr; obtain ⟨d, _, rfl⟩ := List.mem_map.1 hr; rfl
theorem own_draws {w : World} {B n : Nat} {v : Value} {l : List Dr} (h : w.ownsRow B 42 2 v n (drCells l)) (hn : n = l.length) : Sl w 2 v (l.map Dr.row) := by
  rw [drCells_flat] at h
  exact own_sl h (by rw [List.length_map]; exact hn) (dr_rows l)

theorem ok_load_cr {dst : Option Tmp} {t : TypeId} {pos : String} {after : Array Edge} {gd : Option (Nat × Bool)} {ρ : Operand → Value} {w : World} {R : Value → World → Prop} {x : Operand} (g : Nat) (c : Cr) (t' : TypeId)
    (hx : ρ x = .pointer (some ⟨g, 0, none⟩)) (hg : w.heap[g]? = some (.cells c.cells t' (0, 0))) (h : R (.agg c.cells) w) : Any.OpOk Tryz.prog ⟨dst, .load 30 x, t, pos, after, gd⟩ ρ w R := by
  obtain ⟨fs, hu⟩ := cr_under
  have hr := run_loadVar_row (P := Tryz.prog) w g t' 30 c.cells (0, 0) _ hg hu rfl (by rw [cr_info]; rfl)
  unfold Any.OpOk
  simp only [execOp, hx, Instr.loadAt, Instr.sureAddr, Sem.run_bind, Sem.run_pure, Result.andThen_ok, hr]
  exact h

/-- Is something wrong with the arguments of May? -/
def mayArg (c : Cr) (l : List Dr) (d : Dr) : Bool := !(c.bnd && draws (l ++ [d]))

theorem bounded_yes (c : Cr) (h : c.bnd = true) (w : World) : Calls Tryz.prog 39 #[.agg c.cells] w (RetB w true) := h ▸ bounded_any c w
theorem bounded_no (c : Cr) (h : c.bnd = false) (w : World) : Calls Tryz.prog 39 #[.agg c.cells] w (RetB w false) := h ▸ bounded_any c w

/-- What the first check leaves behind. -/
def Arg1 (w : World) (c : Cr) (l : List Dr) (d : Dr) (bs : Nat) (e : Ending) (w' : World) : Prop :=
  e = .returned (.bool (mayArg c l d)) ∧ w.grownBy w' (some bs) ∧ (mayArg c l d = false → w'.heap[bs]? = some (.cells #[.int .i64 (dsum (l ++ [d]))] 2 (0, 0)))
theorem arg1_yes {w w' : World} {c : Cr} {l : List Dr} {d : Dr} {bs : Nat} (h : mayArg c l d = true) (hg : w.grownBy w' (some bs)) : Arg1 w c l d bs (.returned (.bool true)) w' := ⟨by rw [h], hg, fun h' => by rw [h] at h'; cases h'⟩

set_option maxHeartbeats 2000000 in
set_option maxRecDepth 10000 in
theorem may1 (c : Cr) (l : List Dr) (d : Dr) (v : Value) (x : Int) (bc bl bd bs : Nat) (w : World) (hc : w.heap[bc]? = some (.cells c.cells 30 (0, 0))) (hl : w.heap[bl]? = some (.cells #[v] 40 (0, 0)))
    (hd : w.heap[bd]? = some (.cells #[.int .i64 d.day, .int .i64 d.amt] 42 (0, 0))) (hs : w.heap[bs]? = some (.cells #[.int .i64 x] 2 (0, 0))) (hsl : Sl w 2 v (l.map Dr.row)) :
    Calls Tryz.prog 47 #[.pointer (some ⟨bc, 0, none⟩), .pointer (some ⟨bl, 0, none⟩), .pointer (some ⟨bd, 0, none⟩), .pointer (some ⟨bs, 0, none⟩)] w (Arg1 w c l d bs) := by
  have hml : l.length ≤ 9223372036854775807 := by have := hsl.len_le; simpa [maxLen] using this
  cases hb : c.bnd
  · have hm : mayArg c l d = true := by simp [mayArg, hb]
    have HB := Lib.hid (fun w => bounded_no c hb w)
    have HM := Lib.hid hm
    clear hb hm
    go_enter Tryz.func47, Tryz.ntmps47
    go_wp2_with (first | (refine load_cr (.tmp 0) bc c _ rfl rfl hc ?_) | fail)
    refine (HB.out _).mono ?_
    rintro e w1 ⟨rfl, hb1⟩
    go_wp2_with fail
    go_ret
    exact arg1_yes HM.out (grown_of_below hb1 _)
  · have HB := Lib.hid (fun w => bounded_yes c hb w)
    obtain ⟨a, k, rfl⟩ : ∃ a k, v = .slice a l.length k := by simpa using hsl.shape
    by_cases hfull : 4096 ≤ l.length
    · have hm : mayArg c l d = true := by
        simp only [mayArg, draws, List.length_append, List.length_cons, List.length_nil]
        rw [decide_eq_false (by omega)]
        simp
      have HM := Lib.hid hm
      have hf' : (4096 : Int) ≤ (l.length : Int) := by omega
      clear hb hm hfull
      go_enter Tryz.func47, Tryz.ntmps47
      go_wp2_with (first | (refine load_cr (.tmp 0) bc c _ rfl rfl hc ?_) | fail)
      refine (HB.out _).mono ?_
      rintro e w1 ⟨rfl, hb1⟩
      have c1 := cell_blk (blk hb1 (lt_blk hl) hl) 0
      simp only [List.getElem?_toArray, List.getElem?_cons_zero] at c1
      go_wp2_with fail
      go_ret
      exact arg1_yes HM.out (grown_of_below hb1 _)
    · have hm : mayArg c l d = !draws (l ++ [d]) := by simp [mayArg, hb]
      have HM := Lib.hid hm
      have hf' : (decide ((4096 : Int) ≤ (l.length : Int))) = false := by simp; omega
      have HCAP := Lib.hid (show l.length ≤ 1000000 from by omega)
      clear hb hm hfull
      go_enter Tryz.func47, Tryz.ntmps47
      go_wp2_with (first | (refine load_cr (.tmp 0) bc c _ rfl rfl hc ?_) | fail)
      refine (HB.out _).mono ?_
      rintro e w1 ⟨rfl, hb1⟩
      have c1 := cell_blk (blk hb1 (lt_blk hl) hl) 0
      have d0 := cell_blk (blk hb1 (lt_blk hd) hd) 0
      have d1 := cell_blk (blk hb1 (lt_blk hd) hd) 1
      simp only [List.getElem?_toArray, List.getElem?_cons_zero, List.getElem?_cons_succ] at c1 d0 d1
      go_wp2_with fail
      refine (behind_any l d _ _ (hsl.below hb1 (Nat.le_refl _)) HCAP.out).mono ?_
      rintro e w2 ⟨v2, rfl, hrow, hb2⟩
      go_wp2_with fail
      refine (Drawn_any (l ++ [d]) _ _ (own_draws hrow (by simp))).mono ?_
      rintro e w3 ⟨rfl, hb3⟩
      have hb13 := below_then (below_then hb1 hb2) hb3
      have hs3 := blk hb13 (lt_blk hs) hs
      have s0 := cell_blk hs3 0
      have f0 := free_blk hs3 0
      simp only [List.getElem?_toArray, List.getElem?_cons_zero] at s0
      have HS3 := Lib.hid hs3
      clear c1 d0 d1 hs3
      simp only [drawnR]
      cases hdr : draws (l ++ [d])
      · go_wp2_with fail
        go_ret
        refine arg1_yes (by rw [HM.out, hdr]; rfl) ?_
        exact grown_then (grown_of_below hb13 _) (grown_set _ _ _ _)
      · go_wp2_with fail
        go_ret
        refine ⟨by rw [HM.out, hdr]; rfl, grown_then (grown_of_below hb13 _) (grown_set _ _ _ _), fun _ => ?_⟩
        exact blk_set HS3.out _


theorem may2 (c : Cr) (d : Dr) (bc bd : Nat) (w : World) (hc : w.heap[bc]? = some (.cells c.cells 30 (0, 0))) (hd : w.heap[bd]? = some (.cells #[.int .i64 d.day, .int .i64 d.amt] 42 (0, 0))) :
    Calls Tryz.prog 50 #[.pointer (some ⟨bd, 0, none⟩), .pointer (some ⟨bc, 0, none⟩)] w (RetB w (decide (c.expiry < d.day))) := by
  have d0 := cell_blk hd 0
  have c12 := cell_blk hc 12
  simp only [List.getElem?_toArray, List.getElem?_cons_zero] at d0
  rw [Cr.cell12] at c12
  clear hc hd
  go_enter Tryz.func50, Tryz.ntmps50
  go_wp2
  go_ret
  exact ⟨rfl, Below.refl _ _⟩

theorem may3 (c : Cr) (v : Value) (a : Option Addr) (n k : Nat) (hv : v = .slice a n k) (bc bl : Nat) (w : World) (hc : w.heap[bc]? = some (.cells c.cells 30 (0, 0))) (hl : w.heap[bl]? = some (.cells #[v] 40 (0, 0))) :
    Calls Tryz.prog 51 #[.pointer (some ⟨bc, 0, none⟩), .pointer (some ⟨bl, 0, none⟩)] w (RetB w (!c.part && decide (0 < n))) := by
  subst hv
  have l0 := cell_blk hl 0
  have c15 := cell_blk hc 15
  simp only [List.getElem?_toArray, List.getElem?_cons_zero] at l0
  rw [Cr.cell15] at c15
  go_enter Tryz.func51, Tryz.ntmps51
  go_wp2
  all_goals
    go_ret
    exact retB (by simp [*]) (Below.refl _ _)

/-- Reads and quiet calls in whatever order: the class of worlds in which a region's reads are met. -/
def Cls (w : World) (w' : World) : Prop := ∃ x : { x : World // Below w.heap.size w x }, w' = x.1

theorem may4 (c : Cr) (S : Int) (bc bs : Nat) (w : World) (hbd : Bnd c) (hc : w.heap[bc]? = some (.cells c.cells 30 (0, 0))) (hs : w.heap[bs]? = some (.cells #[.int .i64 S] 2 (0, 0))) :
    Calls Tryz.prog 52 #[.pointer (some ⟨bs, 0, none⟩), .pointer (some ⟨bc, 0, none⟩)] w (RetB w (decide (c.most < S))) := by
  have HM := Lib.hid (fun w => most_any c w hbd)
  clear hbd
  go_enter Tryz.func52, Tryz.ntmps52
  go_wp2_with fail
  refine Any.region_lit (fun
    | 0 => Any.val (.int .i64 S)
    | 1 => Any.val (.agg c.cells)
    | 2 => Any.val (.int .i64 c.most)
    | 3 => Any.val (.bool (decide (c.most < S)))
    | 4 => Any.val (.bool (decide (c.most < S)))
    | _ => Any.idle) (by kernel_rfl) (by kernel_rfl) (by kernel_rfl) ?_ ?_ ?_
  · intro i _
    match i with
    | 0 | 1 | 2 | 3 | 4 => exact Any.lasts_val _
    | n + 5 => exact Any.lasts_idle
  · refine ⟨?_, ?_, ?_, ?_, ?_, trivial⟩
    · refine Any.owes_plain rfl fun ρ W hs' hb hc' => ?_
      have h0 : ρ (.tmp 0) = .pointer (some ⟨bs, 0, none⟩) := hs'.old' 0 (by kernel_rfl)
      have c0 := cell_blk (blk hb (lt_blk hs) hs) 0
      simp only [List.getElem?_toArray, List.getElem?_cons_zero] at c0
      go_simp
      exact Any.post_val hb rfl rfl
    · refine Any.owes_plain rfl fun ρ W hs' hb hc' => ?_
      have h0 : ρ (.tmp 1) = .pointer (some ⟨bc, 0, none⟩) := hs'.old' 1 (by kernel_rfl)
      exact ok_load_cr bc c _ h0 (blk hb (lt_blk hc) hc) (Any.post_val hb rfl rfl)
    · refine Any.owes_plain rfl fun ρ W hs' hb hc' => ?_
      have h0 : ρ (.tmp 4) = .agg c.cells := hs'.new' 4 1 (by kernel_rfl)
      have hf := hs'.func 40
      go_simp
      exact (HM.out _).mono fun e w' ⟨he, hb'⟩ => ⟨_, he, Any.post_vals hb rfl rfl hb'⟩
    · refine Any.owes_plain rfl fun ρ W hs' hb hc' => ?_
      have h0 : ρ (.tmp 3) = .int .i64 S := hs'.new' 3 0 (by kernel_rfl)
      have h1 : ρ (.tmp 5) = .int .i64 c.most := hs'.new' 5 2 (by kernel_rfl)
      go_simp
      exact Any.post_val hb rfl rfl
    · refine Any.owes_plain rfl fun ρ W hs' hb hc' => ?_
      exact Any.ok_assign (Any.post_val hb rfl (hs'.new' 6 3 (by kernel_rfl)))
  · intro vals w' hb hk _
    have h4 : vals 4 = .bool (decide (c.most < S)) := hk 4 (by kernel_rfl)
    clear hk
    go_simp
    go_wp2
    go_ret
    exact ⟨rfl, hb⟩


theorem may5 (c : Cr) (d : Dr) (bc bd : Nat) (w : World) (hbd : Bnd c) (hc : w.heap[bc]? = some (.cells c.cells 30 (0, 0))) (hd : w.heap[bd]? = some (.cells #[.int .i64 d.day, .int .i64 d.amt] 42 (0, 0))) :
    Calls Tryz.prog 53 #[.pointer (some ⟨bc, 0, none⟩), .pointer (some ⟨bd, 0, none⟩)] w (RetB w (!c.part && decide (d.amt < c.least))) := by
  have HM := Lib.hid (fun w => least_any c w hbd)
  clear hbd
  go_enter Tryz.func53, Tryz.ntmps53
  go_wp2_with fail
  refine Any.region_lit (fun
    | 0 => Any.val (.pointer (some ⟨bc, 15, none⟩))
    | 1 => Any.val (.bool c.part)
    | 2 => Any.val (.bool (!c.part))
    | 3 => Any.val (.bool (!c.part))
    | 4 => Any.val (if (!c.part) = true then .pointer (some ⟨bd, 1, none⟩) else undef)
    | 5 => Any.val (if (!c.part) = true then .int .i64 d.amt else undef)
    | 6 => Any.val (if (!c.part) = true then .agg c.cells else undef)
    | 7 => Any.val (if (!c.part) = true then .int .i64 c.least else undef)
    | 8 => Any.val (if (!c.part) = true then .bool (decide (d.amt < c.least)) else undef)
    | 9 => Any.val (.bool (!c.part && decide (d.amt < c.least)))
    | 10 => Any.val (.bool (!c.part && decide (d.amt < c.least)))
    | _ => Any.idle) (by kernel_rfl) (by kernel_rfl) (by kernel_rfl) ?_ ?_ ?_
  · intro i _
    match i with
    | 0 | 1 | 2 | 3 | 4 | 5 | 6 | 7 | 8 | 9 | 10 => exact Any.lasts_val _
    | n + 11 => exact Any.lasts_idle
  · refine ⟨?_, ?_, ?_, ?_, ?_, ?_, ?_, ?_, ?_, ?_, ?_, trivial⟩
    · refine Any.owes_plain rfl fun ρ W hs' hb hc' => ?_
      have h0 : ρ (.tmp 0) = .pointer (some ⟨bc, 0, none⟩) := hs'.old' 0 (by kernel_rfl)
      go_simp
      exact Any.post_val hb rfl rfl
    · refine Any.owes_plain rfl fun ρ W hs' hb hc' => ?_
      have h0 : ρ (.tmp 3) = .pointer (some ⟨bc, 15, none⟩) := hs'.new' 3 0 (by kernel_rfl)
      have c0 := cell_blk (blk hb (lt_blk hc) hc) 15
      rw [Cr.cell15] at c0
      go_simp
      exact Any.post_val hb rfl rfl
    · refine Any.owes_plain rfl fun ρ W hs' hb hc' => ?_
      have h0 : ρ (.tmp 4) = .bool c.part := hs'.new' 4 1 (by kernel_rfl)
      go_simp
      exact Any.post_val hb rfl rfl
    · refine Any.owes_plain rfl fun ρ W hs' hb hc' => ?_
      exact Any.ok_move (Any.post_val hb rfl (hs'.new' 5 2 (by kernel_rfl)))
    · refine Any.owes_guard rfl rfl (by kernel_rfl) rfl rfl fun hp ρ W hs' hb hc' => ?_
      have h0 : ρ (.tmp 1) = .pointer (some ⟨bd, 0, none⟩) := hs'.old' 1 (by kernel_rfl)
      go_simp
      exact Any.is_mk rfl
    · refine Any.owes_guard rfl rfl (by kernel_rfl) rfl rfl fun hp ρ W hs' hb hc' => ?_
      have h0 : ρ (.tmp 7) = if (!c.part) = true then .pointer (some ⟨bd, 1, none⟩) else undef := hs'.new' 7 4 (by kernel_rfl)
      rw [if_pos hp] at h0
      have c1 := cell_blk (blk hb (lt_blk hd) hd) 1
      simp only [List.getElem?_toArray, List.getElem?_cons_zero, List.getElem?_cons_succ] at c1
      go_simp
      exact Any.is_mk rfl
    · refine Any.owes_guard rfl rfl (by kernel_rfl) rfl rfl fun hp ρ W hs' hb hc' => ?_
      have h0 : ρ (.tmp 0) = .pointer (some ⟨bc, 0, none⟩) := hs'.old' 0 (by kernel_rfl)
      exact ok_load_cr bc c _ h0 (blk hb (lt_blk hc) hc) (Any.is_mk rfl)
    · refine Any.owes_guard rfl rfl (by kernel_rfl) rfl rfl fun hp ρ W hs' hb hc' => ?_
      have h0 : ρ (.tmp 9) = if (!c.part) = true then .agg c.cells else undef := hs'.new' 9 6 (by kernel_rfl)
      rw [if_pos hp] at h0
      have hf := hs'.func 54
      go_simp
      exact (HM.out _).mono fun e w' ⟨he, hb'⟩ => ⟨_, he, Any.is_below rfl hb'⟩
    · refine Any.owes_guard rfl rfl (by kernel_rfl) rfl rfl fun hp ρ W hs' hb hc' => ?_
      have h0 : ρ (.tmp 8) = if (!c.part) = true then .int .i64 d.amt else undef := hs'.new' 8 5 (by kernel_rfl)
      have h1 : ρ (.tmp 10) = if (!c.part) = true then .int .i64 c.least else undef := hs'.new' 10 7 (by kernel_rfl)
      rw [if_pos hp] at h0 h1
      go_simp
      exact Any.is_mk rfl
    · refine Any.owes_plain rfl fun ρ W hs' hb hc' => ?_
      have h0 : ρ (.tmp 6) = .bool (!c.part) := hs'.new' 6 3 (by kernel_rfl)
      have h1 : ρ (.tmp 11) = if (!c.part) = true then .bool (decide (d.amt < c.least)) else undef := hs'.new' 11 8 (by kernel_rfl)
      have h2 := hc' (.bool false)
      refine Any.ok_pick h0 (Any.post_val hb rfl ?_)
      rw [h1, h2]
      cases c.part <;> rfl
    · refine Any.owes_plain rfl fun ρ W hs' hb hc' => ?_
      exact Any.ok_assign (Any.post_val hb rfl (hs'.new' 12 9 (by kernel_rfl)))
  · intro vals w' hb hk _
    have h4 : vals 10 = .bool (!c.part && decide (d.amt < c.least)) := hk 10 (by kernel_rfl)
    clear hk
    go_simp
    go_wp2
    go_ret
    exact ⟨rfl, hb⟩

/-- The document's code. -/
def mayCode (c : Cr) (l : List Dr) (d : Dr) : Int :=
  if mayArg c l d then 1 else if c.expiry < d.day then 11 else if c.part = false ∧ 0 < l.length then 9
  else if c.most < dsum (l ++ [d]) then 10 else if c.part = false ∧ d.amt < c.least then 3 else 0

theorem go1 (caps : Array Value) (w : World) : (callFunc 47 caps).run Tryz.prog w = .ok (.enter 47 caps) w := by kernel_rfl
theorem go2 (caps : Array Value) (w : World) : (callFunc 50 caps).run Tryz.prog w = .ok (.enter 50 caps) w := by kernel_rfl
theorem go3 (caps : Array Value) (w : World) : (callFunc 51 caps).run Tryz.prog w = .ok (.enter 51 caps) w := by kernel_rfl
theorem go4 (caps : Array Value) (w : World) : (callFunc 52 caps).run Tryz.prog w = .ok (.enter 52 caps) w := by kernel_rfl
theorem go5 (caps : Array Value) (w : World) : (callFunc 53 caps).run Tryz.prog w = .ok (.enter 53 caps) w := by kernel_rfl

def mayFn : Nat → FuncId
  | 0 => 47
  | 1 => 50
  | 2 => 51
  | 3 => 52
  | _ => 53
def mayNo : Nat → Int
  | 0 => 1
  | 1 => 11
  | 2 => 9
  | 3 => 10
  | _ => 3
/-- The boxes lie at n, n + 1, n + 2, n + 3: the credit, the draws, the draw, the sum. -/
def mayCap (n : Nat) : Nat → Array Value
  | 0 => #[.pointer (some ⟨n, 0, none⟩), .pointer (some ⟨n + 1, 0, none⟩), .pointer (some ⟨n + 2, 0, none⟩), .pointer (some ⟨n + 3, 0, none⟩)]
  | 1 => #[.pointer (some ⟨n + 2, 0, none⟩), .pointer (some ⟨n, 0, none⟩)]
  | 2 => #[.pointer (some ⟨n, 0, none⟩), .pointer (some ⟨n + 1, 0, none⟩)]
  | 3 => #[.pointer (some ⟨n + 3, 0, none⟩), .pointer (some ⟨n, 0, none⟩)]
  | _ => #[.pointer (some ⟨n, 0, none⟩), .pointer (some ⟨n + 2, 0, none⟩)]
def mayIf (c : Cr) (l : List Dr) (d : Dr) : Nat → Bool
  | 0 => mayArg c l d
  | 1 => decide (c.expiry < d.day)
  | 2 => !c.part && decide (0 < l.length)
  | 3 => decide (c.most < dsum (l ++ [d]))
  | _ => !c.part && decide (d.amt < c.least)

/-- The checks' cells. -/
def mayCells (n : Nat) : Array Value := #[.int .i64 1, .func (.func 47) #[] (mayCap n 0), .int .i64 11, .func (.func 50) #[] (mayCap n 1),
  .int .i64 9, .func (.func 51) #[] (mayCap n 2), .int .i64 10, .func (.func 52) #[] (mayCap n 3), .int .i64 3, .func (.func 53) #[] (mayCap n 4)]

theorem may_code (c : Cr) (l : List Dr) (d : Dr) : firstFrom mayNo (mayIf c l d) 5 0 = mayCode c l d := by
  simp [firstFrom, mayNo, mayIf, mayCode]

/-- How the world stands ahead of check number i. -/
structure MayInv (w : World) (c : Cr) (l : List Dr) (d : Dr) (v : Value) (i : Nat) (w' : World) : Prop where
  below : Below w.heap.size w w'
  hc : w'.heap[w.heap.size]? = some (.cells c.cells 30 (0, 0))
  hl : w'.heap[w.heap.size + 1]? = some (.cells #[v] 40 (0, 0))
  hd : w'.heap[w.heap.size + 2]? = some (.cells #[.int .i64 d.day, .int .i64 d.amt] 42 (0, 0))
  hs : ∃ x, w'.heap[w.heap.size + 3]? = some (.cells #[.int .i64 x] 2 (0, 0)) ∧ (i ≠ 0 → x = dsum (l ++ [d]))
  hf : w'.heap[w.heap.size + 4]? = some (.cells (mayCells w.heap.size) 129 (0, 0))
  ok : i ≠ 0 → mayArg c l d = false

theorem MayInv.keep {w : World} {c : Cr} {l : List Dr} {d : Dr} {v : Value} {i : Nat} {w1 w2 : World} (h : MayInv w c l d v i w1) (hb : Below w1.heap.size w1 w2) : MayInv w c l d v i w2 := by
  obtain ⟨h1, h2, h3, h4, ⟨x, h5, h6⟩, h7, h8⟩ := h
  exact ⟨below_then h1 hb, blk hb (lt_blk h2) h2, blk hb (lt_blk h3) h3, blk hb (lt_blk h4) h4, ⟨x, blk hb (lt_blk h5) h5, h6⟩, blk hb (lt_blk h7) h7, h8⟩
theorem MayInv.next {w : World} {c : Cr} {l : List Dr} {d : Dr} {v : Value} {i : Nat} {w1 w2 : World} (h : MayInv w c l d v i w1) (hi : i ≠ 0) (hb : Below w1.heap.size w1 w2) : MayInv w c l d v (i + 1) w2 := by
  obtain ⟨h1, h2, h3, h4, ⟨x, h5, h6⟩, h7, h8⟩ := h.keep hb
  exact ⟨h1, h2, h3, h4, ⟨x, h5, fun _ => h6 hi⟩, h7, fun _ => h8 hi⟩

theorem top_same {w1 w2 : World} {b : Nat} (hg : w1.grownBy w2 (some b)) (hb : b + 1 < w1.heap.size) : w2.cell? ⟨w1.heap.size - 1, 0, none⟩ = w1.cell? ⟨w1.heap.size - 1, 0, none⟩ := by
  refine World.cell?_of_block (a := ⟨w1.heap.size - 1, 0, none⟩) (hg.block (w1.heap.size - 1) (by omega) fun e => ?_)
  have := Option.some.inj e
  omega
theorem five_new (w : World) (o0 o1 o2 o3 o4 : Obj) : (((((w.alloc o0).alloc o1).alloc o2).alloc o3).alloc o4).heap[w.heap.size]? = some o0 ∧ (((((w.alloc o0).alloc o1).alloc o2).alloc o3).alloc o4).heap[w.heap.size + 1]? = some o1 ∧
    (((((w.alloc o0).alloc o1).alloc o2).alloc o3).alloc o4).heap[w.heap.size + 2]? = some o2 ∧ (((((w.alloc o0).alloc o1).alloc o2).alloc o3).alloc o4).heap[w.heap.size + 3]? = some o3 ∧ (((((w.alloc o0).alloc o1).alloc o2).alloc o3).alloc o4).heap[w.heap.size + 4]? = some o4 := by
  have old : ∀ (w : World) (o x : Obj) (k : Nat), w.heap[k]? = some x → (w.alloc o).heap[k]? = some x := fun w o x k h => (heap_alloc_old w o (lt_blk h)).trans h
  have new : ∀ (w : World) (o : Obj) (k : Nat), k = w.heap.size → (w.alloc o).heap[k]? = some o := fun w o k h => h ▸ heap_alloc_new w o
  exact ⟨old _ _ _ _ (old _ _ _ _ (old _ _ _ _ (old _ _ _ _ (new _ _ _ rfl)))), old _ _ _ _ (old _ _ _ _ (old _ _ _ _ (new _ _ _ (by simp)))), old _ _ _ _ (old _ _ _ _ (new _ _ _ (by simp))), old _ _ _ _ (new _ _ _ (by simp)), new _ _ _ (by simp)⟩


set_option maxHeartbeats 1000000 in
theorem May_any (c : Cr) (l : List Dr) (d : Dr) (v : Value) (w : World) (hsl : Sl w 2 v (l.map Dr.row)) :
    Calls Tryz.prog 10 #[.agg c.cells, v, .agg #[.int .i64 d.day, .int .i64 d.amt]] w (Ret w (.int .i64 (mayCode c l d))) := by
  obtain ⟨a, k, hv⟩ : ∃ a k, v = .slice a l.length k := by simpa using hsl.shape
  have HV := Lib.hid hv
  clear hv
  have F := fun (w5 : World) (hI : MayInv w c l d v 0 w5) => first_gen 5 (by decide) (w.heap.size + 4) mayNo mayFn (mayCap w.heap.size) (mayIf c l d) (MayInv w c l d v) (Below w.heap.size w) w5 hI
    (by
      intro i hi w'
      match i, hi with
      | 0, _ => exact go1 _ _
      | 1, _ => exact go2 _ _
      | 2, _ => exact go3 _ _
      | 3, _ => exact go4 _ _
      | 4, _ => exact go5 _ _)
    (by
      intro i w' hi h
      have q0 := cell_blk h.hf (2 * i)
      have q1 := cell_blk h.hf (2 * i + 1)
      rw [q0, q1]
      match i, hi with
      | 0, _ => exact ⟨rfl, rfl⟩
      | 1, _ => exact ⟨rfl, rfl⟩
      | 2, _ => exact ⟨rfl, rfl⟩
      | 3, _ => exact ⟨rfl, rfl⟩
      | 4, _ => exact ⟨rfl, rfl⟩)
    (by intro i w' o h; exact h.keep (one_below _ _))
    (by
      intro i w' hi h
      have hlt := lt_blk h.hf
      match i, hi with
      | 0, _ =>
        obtain ⟨x, hs, _⟩ := h.hs
        refine (may1 c l d v x _ _ _ _ w' h.hc h.hl h.hd hs (hsl.below h.below (Nat.le_refl _))).mono fun e w'' ⟨he, hg, hsum⟩ => ⟨he, fun hm => ?_, fun _ => ?_, top_same hg (by omega)⟩
        · have hb := h.below.grown hg h.below.size (fun k hk => by obtain rfl := Option.some.inj hk; omega)
          refine ⟨hb, ?_, ?_, ?_, ⟨_, hsum hm, fun _ => rfl⟩, ?_, fun _ => hm⟩
          · exact (hg.block _ (lt_blk h.hc) (fun e => by have := Option.some.inj e; omega)).trans h.hc
          · exact (hg.block _ (lt_blk h.hl) (fun e => by have := Option.some.inj e; omega)).trans h.hl
          · exact (hg.block _ (lt_blk h.hd) (fun e => by have := Option.some.inj e; omega)).trans h.hd
          · exact (hg.block _ (lt_blk h.hf) (fun e => by have := Option.some.inj e; omega)).trans h.hf
        · exact h.below.grown hg h.below.size (fun k hk => by obtain rfl := Option.some.inj hk; omega)
      | 1, _ =>
        exact (may2 c d _ _ w' h.hc h.hd).mono fun e w'' ⟨he, hb⟩ => ⟨he, fun _ => h.next (by decide) hb, fun _ => below_then h.below hb, World.cell?_of_block (a := ⟨w'.heap.size - 1, 0, none⟩) (hb.block _ (by simp; omega))⟩
      | 2, _ =>
        exact (may3 c v a l.length k HV.out _ _ w' h.hc h.hl).mono fun e w'' ⟨he, hb⟩ => ⟨he, fun _ => h.next (by decide) hb, fun _ => below_then h.below hb, World.cell?_of_block (a := ⟨w'.heap.size - 1, 0, none⟩) (hb.block _ (by simp; omega))⟩
      | 3, _ =>
        obtain ⟨x, hs, hx⟩ := h.hs
        have hx := hx (by decide)
        subst hx
        have hm := h.ok (by decide)
        have hbd : Bnd c := (bnd_iff c).1 (by simp only [mayArg, Bool.not_eq_false', Bool.and_eq_true] at hm; exact hm.1)
        exact (may4 c _ _ _ w' hbd h.hc hs).mono fun e w'' ⟨he, hb⟩ => ⟨he, fun _ => h.next (by decide) hb, fun _ => below_then h.below hb, World.cell?_of_block (a := ⟨w'.heap.size - 1, 0, none⟩) (hb.block _ (by simp; omega))⟩
      | 4, _ =>
        have hm := h.ok (by decide)
        have hbd : Bnd c := (bnd_iff c).1 (by simp only [mayArg, Bool.not_eq_false', Bool.and_eq_true] at hm; exact hm.1)
        exact (may5 c d _ _ w' hbd h.hc h.hd).mono fun e w'' ⟨he, hb⟩ => ⟨he, fun _ => h.next (by decide) hb, fun _ => below_then h.below hb, World.cell?_of_block (a := ⟨w'.heap.size - 1, 0, none⟩) (hb.block _ (by simp; omega))⟩)
    (by intro w' h; exact h.below)
  rw [may_code] at F
  have HF := Lib.hid F
  clear F hsl
  go_enter Tryz.func10, Tryz.ntmps10
  go_wp2_with fail
  refine (HF.out _ ?_).mono ?_
  · obtain ⟨q0, q1, q2, q3, q4⟩ := five_new w (.cells c.cells 30) (.cells #[v] 40) (.cells #[.int .i64 d.day, .int .i64 d.amt] 42) (.cells #[.int .i64 0] 2) (.cells (mayCells w.heap.size) 129)
    exact ⟨(((((Below.refl _ _).alloc (Nat.le_refl _) _).alloc (by simp) _).alloc (by simp; omega) _).alloc (by simp; omega) _).alloc (by simp; omega) _, q0, q1, q2, ⟨0, q3, fun h => absurd rfl h⟩, q4, fun h => absurd rfl h⟩
  · rintro e w' ⟨rfl, hb⟩
    go_wp2
    go_ret
    exact ⟨rfl, hb⟩

end Go.Proofs.YtbigoifpfkdkjaaGreatDoor.Sc
namespace Go.Proofs.YtbigoifpfkdkjaaGreatDoor.Sc
open Go Go.RowKit Go.ChangeShapes Go.WideShapes Go.ChangeAt
set_option maxRecDepth 100000

def RetL (w : World) (c : Cr) : Ending → World → Prop := Ret w (.tuple #[.int .i64 (if c.bnd then c.least else 0), .int .i64 (if c.bnd then 0 else 1)])
theorem retL_no {c : Cr} {w w' : World} (h : ¬ c.bnd = true) (hb : Below w.heap.size w w') : RetL w c (.returned (.tuple #[.int .i64 0, .int .i64 1])) w' := ⟨by simp [h], hb⟩
theorem retL_yes {c : Cr} {w w' : World} (h : c.bnd = true) (hb : Below w.heap.size w w') : RetL w c (.returned (.tuple #[.int .i64 c.least, .int .i64 0])) w' := ⟨by simp [h], hb⟩

end Go.Proofs.YtbigoifpfkdkjaaGreatDoor.Sc
