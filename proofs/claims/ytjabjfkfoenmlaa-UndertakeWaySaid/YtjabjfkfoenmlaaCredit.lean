/- A credit's cells, and the contracts of package allow's functions of numbers. -/
import Derived.Test.YtjabjfkfoenmlaaLaw
namespace Go.Proofs.Ytjabjfkfoenmlaa.Sc
open Go Go.RowKit Go.ChangeShapes Go.WideShapes Go.ChangeAt

/-- A credit, as its cells hold it. -/
structure Cr where
  s0 : ByteArray
  s1 : ByteArray
  s2 : ByteArray
  s3 : ByteArray
  s4 : ByteArray
  s5 : ByteArray
  s6 : ByteArray
  cur : ByteArray
  sum : Int
  above : Int
  below : Int
  latest : Int
  expiry : Int
  within : Int
  tenor : Int
  part : Bool
  change : Bool
  na : Option Addr
  nl : Nat
  nc : Nat

def Cr.cells (c : Cr) : Array Value := #[.string c.s0, .string c.s1, .string c.s2, .string c.s3, .string c.s4, .string c.s5, .string c.s6, .string c.cur, .int .i64 c.sum, .int .i64 c.above, .int .i64 c.below, .int .i64 c.latest, .int .i64 c.expiry, .int .i64 c.within, .int .i64 c.tenor, .bool c.part, .bool c.change, .slice c.na c.nl c.nc]
@[go_sem] theorem Cr.cell0 (c : Cr) : c.cells[0]? = some (.string c.s0) := rfl
@[go_sem] theorem Cr.cell1 (c : Cr) : c.cells[1]? = some (.string c.s1) := rfl
@[go_sem] theorem Cr.cell2 (c : Cr) : c.cells[2]? = some (.string c.s2) := rfl
@[go_sem] theorem Cr.cell3 (c : Cr) : c.cells[3]? = some (.string c.s3) := rfl
@[go_sem] theorem Cr.cell4 (c : Cr) : c.cells[4]? = some (.string c.s4) := rfl
@[go_sem] theorem Cr.cell5 (c : Cr) : c.cells[5]? = some (.string c.s5) := rfl
@[go_sem] theorem Cr.cell6 (c : Cr) : c.cells[6]? = some (.string c.s6) := rfl
@[go_sem] theorem Cr.cell7 (c : Cr) : c.cells[7]? = some (.string c.cur) := rfl
@[go_sem] theorem Cr.cell8 (c : Cr) : c.cells[8]? = some (.int .i64 c.sum) := rfl
@[go_sem] theorem Cr.cell9 (c : Cr) : c.cells[9]? = some (.int .i64 c.above) := rfl
@[go_sem] theorem Cr.cell10 (c : Cr) : c.cells[10]? = some (.int .i64 c.below) := rfl
@[go_sem] theorem Cr.cell11 (c : Cr) : c.cells[11]? = some (.int .i64 c.latest) := rfl
@[go_sem] theorem Cr.cell12 (c : Cr) : c.cells[12]? = some (.int .i64 c.expiry) := rfl
@[go_sem] theorem Cr.cell13 (c : Cr) : c.cells[13]? = some (.int .i64 c.within) := rfl
@[go_sem] theorem Cr.cell14 (c : Cr) : c.cells[14]? = some (.int .i64 c.tenor) := rfl
@[go_sem] theorem Cr.cell15 (c : Cr) : c.cells[15]? = some (.bool c.part) := rfl
@[go_sem] theorem Cr.cell16 (c : Cr) : c.cells[16]? = some (.bool c.change) := rfl
@[go_sem] theorem Cr.cell17 (c : Cr) : c.cells[17]? = some (.slice c.na c.nl c.nc) := rfl
@[go_sem] theorem Cr.cells_size (c : Cr) : c.cells.size = 18 := rfl
def Cr.withAbove (c : Cr) (x : Int) : Cr := { c with above := x }
def Cr.withBelow (c : Cr) (x : Int) : Cr := { c with below := x }
@[go_sem] theorem Cr.set9 (c : Cr) (x : Int) : c.cells.setIfInBounds 9 (.int .i64 x) = (c.withAbove x).cells := rfl
@[go_sem] theorem Cr.set10 (c : Cr) (x : Int) : c.cells.setIfInBounds 10 (.int .i64 x) = (c.withBelow x).cells := rfl
theorem cr_info : (Try.prog.info? 32).map (·.size) = some 18 := by kernel_rfl
theorem cr_under : ∃ fs, Try.prog.underlying 32 = some (.struct fs) := ⟨_, Try.underlying32⟩

section
variable {ops : Array Oper} {rest : List Oper} {a : Act} {w : World} {Q : Exit → Act → World → Prop} {dst : Option Tmp} {t : TypeId} {pos : String} {after : Array Edge}
theorem setRow_new (w : World) (old cs : Array Value) (t' : TypeId) : (w.alloc (.cells old t' (0, 0))).setRow w.heap.size cs = w.alloc (.cells cs t' (0, 0)) := by
  have h : (w.heap.push (Obj.cells old t' (0, 0))).modify w.heap.size (fun | .cells _ e f => .cells cs e f | o => o) = w.heap.push (.cells cs t' (0, 0)) := by
    apply Array.ext_getElem?
    intro i
    rw [Array.getElem?_modify, Array.getElem?_push, Array.getElem?_push]
    by_cases h : i = w.heap.size
    · subst h; simp
    · rw [if_neg (fun e => h e.symm), if_neg h, if_neg h]
  show ({ w with heap := (w.heap.push (Obj.cells old t' (0, 0))).modify w.heap.size _ } : World) = { w with heap := w.heap.push _ }
  rw [← h]
  rfl
def Cr.zero : Cr := ⟨.empty, .empty, .empty, .empty, .empty, .empty, .empty, .empty, 0, 0, 0, 0, 0, 0, 0, false, false, none, 0, 0⟩
theorem run_alloc_cr (w : World) : (execOp (Act.eval a) ⟨dst, .alloc 32, t, pos, after, none⟩).run Try.prog w = .ok (.value (.pointer (some ⟨w.heap.size, 0, none⟩))) (w.alloc (.cells Cr.zero.cells 32 (0, 0))) := by
  kernel_rfl
theorem cr_one (c : Cr) : (c.cells.all fun x => x.oneCell') = true := by simp [Cr.cells, Value.oneCell']
/-- A new box, and a whole credit stored into it. -/
theorem new_cr (d : Tmp) (y : Operand) (c : Cr) {t1 t2 : TypeId} {p1 p2 : String} {e1 e2 : Array Edge} (hd : (a.put (some d) (.pointer (some ⟨w.heap.size, 0, none⟩))).eval (.tmp d) = .pointer (some ⟨w.heap.size, 0, none⟩))
    (hy : (a.put (some d) (.pointer (some ⟨w.heap.size, 0, none⟩))).eval y = .agg c.cells)
    (h : wpList Try.prog ops Q rest ((a.put (some d) (.pointer (some ⟨w.heap.size, 0, none⟩))).put none undef) (w.alloc (.cells c.cells 32))) :
    wpList Try.prog ops Q (⟨some d, .alloc 32, t1, p1, e1, none⟩ :: ⟨none, .store 32 (.tmp d) y, t2, p2, e2, none⟩ :: rest) a w := by
  refine wpList_plain rfl fun K hK => ?_
  have hr := run_alloc_cr (a := a) (dst := some d) (t := t1) (pos := p1) (after := e1) w
  unfold Oper.wp
  rw [hr]
  refine hK _ _ ?_
  refine wpList_store_row rfl _ _ _ rfl w.heap.size c.cells hd hy _ Cr.zero.cells (heap_alloc_new _ _) (by rw [cr_info]; rfl) rfl (cr_one c) ?_
  rw [setRow_new]
  exact h
/-- A new box. -/
theorem alloc_cr (h : wpList Try.prog ops Q rest (a.put dst (.pointer (some ⟨w.heap.size, 0, none⟩))) (w.alloc (.cells Cr.zero.cells 32))) :
    wpList Try.prog ops Q (⟨dst, .alloc 32, t, pos, after, none⟩ :: rest) a w := by
  refine wpList_plain rfl fun K hK => ?_
  have hr := run_alloc_cr (a := a) (dst := dst) (t := t) (pos := pos) (after := after) w
  unfold Oper.wp
  rw [hr]
  exact hK _ _ h
/-- A whole credit stored into the newest box. -/
theorem store_cr (x y : Operand) (c c0 : Cr) (hx : a.eval x = .pointer (some ⟨w.heap.size, 0, none⟩)) (hy : a.eval y = .agg c.cells)
    (h : wpList Try.prog ops Q rest (a.put none undef) (w.alloc (.cells c.cells 32))) :
    wpList Try.prog ops Q (⟨none, .store 32 x y, t, pos, after, none⟩ :: rest) a (w.alloc (.cells c0.cells 32)) := by
  refine wpList_store_row rfl _ _ _ rfl w.heap.size c.cells hx hy _ c0.cells (heap_alloc_new _ _) (by rw [cr_info]; rfl) rfl (cr_one c) ?_
  rw [setRow_new]
  exact h
/-- A whole credit loaded out of its box. -/
theorem load_cr {gd : Option (Nat × Bool)} (x : Operand) (g : Nat) (c : Cr) (t' : TypeId) (hw : Region.wanted ⟨dst, .load 32 x, t, pos, after, gd⟩ (yielded ops a.tmps) = true) (hx : a.eval x = .pointer (some ⟨g, 0, none⟩)) (hg : w.heap[g]? = some (.cells c.cells t' (0, 0)))
    (h : wpList Try.prog ops Q rest (a.put dst (.agg c.cells)) w) : wpList Try.prog ops Q (⟨dst, .load 32 x, t, pos, after, gd⟩ :: rest) a w := by
  obtain ⟨fs, hu⟩ := cr_under
  refine wpList_step fun K hK => ?_
  rw [if_pos hw]
  exact wp_load_row _ x rfl g hx t' c.cells (0, 0) _ hg hu rfl (by rw [cr_info]; rfl) (hK _ _ h)
end
def tol (n : Int) : Bool := decide (0 ≤ n) && decide (n ≤ 1000)
def Cr.bnd (c : Cr) : Bool := decide (1 ≤ c.sum) && decide (c.sum ≤ 1099511627776) && tol c.above && tol c.below && decide (0 ≤ c.expiry) && decide (c.expiry ≤ 1048576)
def Cr.most (c : Cr) : Int := c.sum * (1000 + c.above) / 1000
def Cr.least (c : Cr) : Int := (c.sum * (1000 - c.below) + 999) / 1000

structure Bnd (c : Cr) : Prop where
  s1 : 1 ≤ c.sum
  s2 : c.sum ≤ 1099511627776
  a1 : 0 ≤ c.above
  a2 : c.above ≤ 1000
  b1 : 0 ≤ c.below
  b2 : c.below ≤ 1000
  e1 : 0 ≤ c.expiry
  e2 : c.expiry ≤ 1048576

theorem bnd_iff (c : Cr) : c.bnd = true ↔ Bnd c := by
  simp only [Cr.bnd, tol, Bool.and_eq_true, decide_eq_true_eq]
  constructor
  · rintro ⟨⟨⟨⟨⟨h1, h2⟩, h3, h4⟩, h5, h6⟩, h7⟩, h8⟩; exact ⟨h1, h2, h3, h4, h5, h6, h7, h8⟩
  · rintro ⟨h1, h2, h3, h4, h5, h6, h7, h8⟩; exact ⟨⟨⟨⟨⟨h1, h2⟩, h3, h4⟩, h5, h6⟩, h7⟩, h8⟩

theorem most_bd (s a : Int) (h1 : 1 ≤ s) (h2 : s ≤ 1099511627776) (h3 : 0 ≤ a) (h4 : a ≤ 1000) : s ≤ s * (1000 + a) ∧ s * (1000 + a) ≤ 2199023255552000 ∧ 1000 * s ≤ s * (1000 + a) ∧ s * (1000 + a) ≤ 2000 * s := by
  have e1 : s * (1000 + a) = 1000 * s + s * a := by rw [Int.mul_add]; omega
  have e2 : 0 ≤ s * a := Int.mul_nonneg (by omega) h3
  have e3 : s * a ≤ s * 1000 := Int.mul_le_mul_of_nonneg_left h4 (by omega)
  omega
theorem least_bd (s a : Int) (h1 : 1 ≤ s) (h2 : s ≤ 1099511627776) (h3 : 0 ≤ a) (h4 : a ≤ 1000) : 0 ≤ s * (1000 - a) ∧ s * (1000 - a) ≤ 1000 * s := by
  have e1 : s * (1000 - a) = 1000 * s - s * a := by rw [Int.mul_sub]; omega
  have e2 : 0 ≤ s * a := Int.mul_nonneg (by omega) h3
  have e3 : s * a ≤ s * 1000 := Int.mul_le_mul_of_nonneg_left h4 (by omega)
  omega

theorem tolerant_any (n : Int) (w : World) : Calls Try.prog 71 #[.int .i64 n] w fun e w' => e = .returned (.bool (tol n)) ∧ w = w' := by
  by_cases h0 : 0 ≤ n
  · by_cases h1 : n ≤ 1000
    · have hf : tol n = true := by simp [tol, h0, h1]
      rw [hf]; clear hf
      go_enter Try.func71, Try.ntmps71
      go_wp2
      go_ret
      exact ⟨rfl, rfl⟩
    · have hf : tol n = false := by simp [tol, h0, h1]
      rw [hf]; clear hf
      go_enter Try.func71, Try.ntmps71
      go_wp2
      go_ret
      exact ⟨rfl, rfl⟩
  · have hf : tol n = false := by simp [tol, h0]
    rw [hf]; clear hf
    go_enter Try.func71, Try.ntmps71
    go_wp2
    go_ret
    exact ⟨rfl, rfl⟩

set_option maxHeartbeats 1000000 in
theorem bounded_any (c : Cr) (w : World) : Calls Try.prog 50 #[.agg c.cells] w (RetB w c.bnd) := by
  go_enter Try.func50, Try.ntmps50
  go_wp2_with (go_at_call 71; refine (tolerant_any _ _).mono ?_; rintro e w' ⟨rfl, rfl⟩)
  all_goals
    go_ret
    refine retB ?_ ((Below.refl _ _).alloc (Nat.le_refl _) _)
    simp [Cr.bnd, *]
  all_goals omega


theorem most_num (s a : Int) (h : 0 ≤ s * (1000 + a)) : s * (1000 + a) / 1000 = (s * (1000 + a)).tdiv 1000 := by
  rw [Int.tdiv_eq_ediv_of_nonneg h]

/-- The most, of a credit whose bounds may be. -/
theorem most_any (c : Cr) (w : World) (hb : Bnd c) : Calls Try.prog 51 #[.agg c.cells] w (Ret w (.int .i64 c.most)) := by
  obtain ⟨h1, h2, h3, h4, h5, h6, h7, h8⟩ := hb
  obtain ⟨m1, m2, m3, m4⟩ := most_bd c.sum c.above h1 h2 h3 h4
  go_enter Try.func51, Try.ntmps51
  go_wp2
  go_ret
  exact ⟨rfl, (Below.refl _ _).alloc (Nat.le_refl _) _⟩

theorem least_any (c : Cr) (w : World) (hb : Bnd c) : Calls Try.prog 84 #[.agg c.cells] w (Ret w (.int .i64 c.least)) := by
  obtain ⟨h1, h2, h3, h4, h5, h6, h7, h8⟩ := hb
  obtain ⟨m1, m2⟩ := least_bd c.sum c.below h1 h2 h5 h6
  go_enter Try.func84, Try.ntmps84
  go_wp2
  go_ret
  exact ⟨ret_int (by simp only [Cr.least]; omega), (Below.refl _ _).alloc (Nat.le_refl _) _⟩


end Go.Proofs.Ytjabjfkfoenmlaa.Sc
