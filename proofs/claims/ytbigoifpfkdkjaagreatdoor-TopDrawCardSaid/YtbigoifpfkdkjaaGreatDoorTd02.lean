/- A credit's cells, and the contracts of package allow's functions of numbers. The contract of allow.Most. The contract of allow.Drawn: whether draws may be, and their sum. -/
import Derived.Test.YtbigoifpfkdkjaaGreatDoorTd01
namespace Go.Proofs.YtbigoifpfkdkjaaGreatDoor.Sc
open Go Go.RowKit Go.ChangeShapes Go.WideShapes Go.ChangeAt

/-- A credit, as its cells hold it. -/
structure Cr where
  s0 : ByteArray
  s1 : ByteArray
  s2 : ByteArray
  s3 : ByteArray
  s4 : ByteArray
  s5 : ByteArray
  s6 : ByteArray
  cur : ByteArray
  sum : Int
  above : Int
  below : Int
  latest : Int
  expiry : Int
  within : Int
  tenor : Int
  part : Bool
  change : Bool
  na : Option Addr
  nl : Nat
  nc : Nat

def Cr.cells (c : Cr) : Array Value := #[.string c.s0, .string c.s1, .string c.s2, .string c.s3, .string c.s4, .string c.s5, .string c.s6, .string c.cur, .int .i64 c.sum, .int .i64 c.above, .int .i64 c.below, .int .i64 c.latest, .int .i64 c.expiry, .int .i64 c.within, .int .i64 c.tenor, .bool c.part, .bool c.change, .slice c.na c.nl c.nc]
@[go_sem] theorem Cr.cell0 (c : Cr) : c.cells[0]? = some (.string c.s0) := rfl
@[go_sem] theorem Cr.cell1 (c : Cr) : c.cells[1]? = some (.string c.s1) := rfl
@[go_sem] theorem Cr.cell2 (c : Cr) : c.cells[2]? = some (.string c.s2) := rfl
@[go_sem] theorem Cr.cell3 (c : Cr) : c.cells[3]? = some (.string c.s3) := rfl
@[go_sem] theorem Cr.cell4 (c : Cr) : c.cells[4]? = some (.string c.s4) := rfl
@[go_sem] theorem Cr.cell5 (c : Cr) : c.cells[5]? = some (.string c.s5) := rfl
@[go_sem] theorem Cr.cell6 (c : Cr) : c.cells[6]? = some (.string c.s6) := rfl
@[go_sem] theorem Cr.cell7 (c : Cr) : c.cells[7]? = some (.string c.cur) := rfl
@[go_sem] theorem Cr.cell8 (c : Cr) : c.cells[8]? = some (.int .i64 c.sum) := rfl
@[go_sem] theorem Cr.cell9 (c : Cr) : c.cells[9]? = some (.int .i64 c.above) := rfl
@[go_sem] theorem Cr.cell10 (c : Cr) : c.cells[10]? = some (.int .i64 c.below) := rfl
@[go_sem] theorem Cr.cell11 (c : Cr) : c.cells[11]? = some (.int .i64 c.latest) := rfl
@[go_sem] theorem Cr.cell12 (c : Cr) : c.cells[12]? = some (.int .i64 c.expiry) := rfl
@[go_sem] theorem Cr.cell13 (c : Cr) : c.cells[13]? = some (.int .i64 c.within) := rfl
@[go_sem] theorem Cr.cell14 (c : Cr) : c.cells[14]? = some (.int .i64 c.tenor) := rfl
@[go_sem] theorem Cr.cell15 (c : Cr) : c.cells[15]? = some (.bool c.part) := rfl
@[go_sem] theorem Cr.cell16 (c : Cr) : c.cells[16]? = some (.bool c.change) := rfl
@[go_sem] theorem Cr.cell17 (c : Cr) : c.cells[17]? = some (.slice c.na c.nl c.nc) := rfl
@[go_sem] theorem Cr.cells_size (c : Cr) : c.cells.size = 18 := rfl
def Cr.withAbove (c : Cr) (x : Int) : Cr := { c with above := x }
def Cr.withBelow (c : Cr) (x : Int) : Cr := { c with below := x }
@[go_sem] theorem Cr.set9 (c : Cr) (x : Int) : c.cells.setIfInBounds 9 (.int .i64 x) = (c.withAbove x).cells := rfl
@[go_sem] theorem Cr.set10 (c : Cr) (x : Int) : c.cells.setIfInBounds 10 (.int .i64 x) = (c.withBelow x).cells := rfl
theorem cr_info : (Tryz.prog.info? 30).map (·.size) = some 18 := by kernel_rfl
theorem cr_under : ∃ fs, Tryz.prog.underlying 30 = some (.struct fs) := ⟨_, Tryz.underlying30⟩

section
variable {ops : Array Oper} {rest : List Oper} {a : Act} {w : World} {Q : Exit → Act → World → Prop} {dst : Option Tmp} {t : TypeId} {pos : String} {after : Array Edge}
theorem setRow_new (w : World) (old cs : Array Value) (t' : TypeId) : (w.alloc (.cells old t' (0, 0))).setRow w.heap.size cs = w.alloc (.cells cs t' (0, 0)) := by
  have h : (w.heap.push (Obj.cells old t' (0, 0))).modify w.heap.size (fun | .cells _ e f => .cells cs e f | o => o) = w.heap.push (.cells cs t' (0, 0)) := by
    apply Array.ext_getElem?
    intro i
    rw [Array.getElem?_modify, Array.getElem?_push, Array.getElem?_push]
    by_cases h : i = w.heap.size
    · subst h; simp
    · rw [if_neg (fun e => h e.symm), if_neg h, if_neg h]
  show ({ w with heap := (w.heap.push (Obj.cells old t' (0, 0))).modify w.heap.size _ } : World) = { w with heap := w.heap.push _ }
  rw [← h]
  rfl
def Cr.zero : Cr := ⟨.empty, .empty, .empty, .empty, .empty, .empty, .empty, .empty, 0, 0, 0, 0, 0, 0, 0, false, false, none, 0, 0⟩
theorem run_alloc_cr (w : World) : (execOp (Act.eval a) ⟨dst, .alloc 30, t, pos, after, none⟩).run Tryz.prog w = .ok (.value (.pointer (some ⟨w.heap.size, 0, none⟩))) (w.alloc (.cells Cr.zero.cells 30 (0, 0))) := by
  kernel_rfl
theorem cr_one (c : Cr) : (c.cells.all fun x => x.oneCell') = true := by simp [Cr.cells, Value.oneCell']
/-- A new box, and a whole credit stored into it. -/
theorem new_cr (d : Tmp) (y : Operand) (c : Cr) {t1 t2 : TypeId} {p1 p2 : String} {e1 e2 : Array Edge} (hd : (a.put (some d) (.pointer (some ⟨w.heap.size, 0, none⟩))).eval (.tmp d) = .pointer (some ⟨w.heap.size, 0, none⟩))
    (hy : (a.put (some d) (.pointer (some ⟨w.heap.size, 0, none⟩))).eval y = .agg c.cells)
    (h : wpList Tryz.prog ops Q rest ((a.put (some d) (.pointer (some ⟨w.heap.size, 0, none⟩))).put none undef) (w.alloc (.cells c.cells 30))) :
    wpList Tryz.prog ops Q (⟨some d, .alloc 30, t1, p1, e1, none⟩ :: ⟨none, .store 30 (.tmp d) y, t2, p2, e2, none⟩ :: rest) a w := by
  refine wpList_plain rfl fun K hK => ?_
  have hr := run_alloc_cr (a := a) (dst := some d) (t := t1) (pos := p1) (after := e1) w
  unfold Oper.wp
  rw [hr]
  refine hK _ _ ?_
  refine wpList_store_row rfl _ _ _ rfl w.heap.size c.cells hd hy _ Cr.zero.cells (heap_alloc_new _ _) (by rw [cr_info]; rfl) rfl (cr_one c) ?_
  rw [setRow_new]
  exact h
/-- A new box. -/
theorem alloc_cr (h : wpList Tryz.prog ops Q rest (a.put dst (.pointer (some ⟨w.heap.size, 0, none⟩))) (w.alloc (.cells Cr.zero.cells 30))) :
    wpList Tryz.prog ops Q (⟨dst, .alloc 30, t, pos, after, none⟩ :: rest) a w := by
  refine wpList_plain rfl fun K hK => ?_
  have hr := run_alloc_cr (a := a) (dst := dst) (t := t) (pos := pos) (after := after) w
  unfold Oper.wp
  rw [hr]
  exact hK _ _ h
/-- A whole credit stored into the newest box. -/
theorem store_cr (x y : Operand) (c c0 : Cr) (hx : a.eval x = .pointer (some ⟨w.heap.size, 0, none⟩)) (hy : a.eval y = .agg c.cells)
    (h : wpList Tryz.prog ops Q rest (a.put none undef) (w.alloc (.cells c.cells 30))) :
    wpList Tryz.prog ops Q (⟨none, .store 30 x y, t, pos, after, none⟩ :: rest) a (w.alloc (.cells c0.cells 30)) := by
  refine wpList_store_row rfl _ _ _ rfl w.heap.size c.cells hx hy _ c0.cells (heap_alloc_new _ _) (by rw [cr_info]; rfl) rfl (cr_one c) ?_
  rw [setRow_new]
  exact h
/-- A whole credit loaded out of its box. -/
theorem load_cr {gd : Option (Nat × Bool)} (x : Operand) (g : Nat) (c : Cr) (t' : TypeId) (hw : Region.wanted ⟨dst, .load 30 x, t, pos, after, gd⟩ (yielded ops a.tmps) = true) (hx : a.eval x = .pointer (some ⟨g, 0, none⟩)) (hg : w.heap[g]? = some (.cells c.cells t' (0, 0)))
    (h : wpList Tryz.prog ops Q rest (a.put dst (.agg c.cells)) w) : wpList Tryz.prog ops Q (⟨dst, .load 30 x, t, pos, after, gd⟩ :: rest) a w := by
  obtain ⟨fs, hu⟩ := cr_under
  refine wpList_step fun K hK => ?_
  rw [if_pos hw]
  exact wp_load_row _ x rfl g hx t' c.cells (0, 0) _ hg hu rfl (by rw [cr_info]; rfl) (hK _ _ h)
end
def tol (n : Int) : Bool := decide (0 ≤ n) && decide (n ≤ 1000)
def Cr.bnd (c : Cr) : Bool := decide (1 ≤ c.sum) && decide (c.sum ≤ 1099511627776) && tol c.above && tol c.below && decide (0 ≤ c.expiry) && decide (c.expiry ≤ 1048576)
def Cr.most (c : Cr) : Int := c.sum * (1000 + c.above) / 1000
def Cr.least (c : Cr) : Int := (c.sum * (1000 - c.below) + 999) / 1000

structure Bnd (c : Cr) : Prop where
  s1 : 1 ≤ c.sum
  s2 : c.sum ≤ 1099511627776
  a1 : 0 ≤ c.above
  a2 : c.above ≤ 1000
  b1 : 0 ≤ c.below
  b2 : c.below ≤ 1000
  e1 : 0 ≤ c.expiry
  e2 : c.expiry ≤ 1048576

theorem bnd_iff (c : Cr) : c.bnd = true ↔ Bnd c := by
  simp only [Cr.bnd, tol, Bool.and_eq_true, decide_eq_true_eq]
  constructor
  · rintro ⟨⟨⟨⟨⟨h1, h2⟩, h3, h4⟩, h5, h6⟩, h7⟩, h8⟩; exact ⟨h1, h2, h3, h4, h5, h6, h7, h8⟩
  · rintro ⟨h1, h2, h3, h4, h5, h6, h7, h8⟩; exact ⟨⟨⟨⟨⟨h1, h2⟩, h3, h4⟩, h5, h6⟩, h7⟩, h8⟩

theorem most_bd (s a : Int) (h1 : 1 ≤ s) (h2 : s ≤ 1099511627776) (h3 : 0 ≤ a) (h4 : a ≤ 1000) : s ≤ s * (1000 + a) ∧ s * (1000 + a) ≤ 2199023255552000 ∧ 1000 * s ≤ s * (1000 + a) ∧ s * (1000 + a) ≤ 2000 * s := by
  have e1 : s * (1000 + a) = 1000 * s + s * a := by rw [Int.mul_add]; omega
  have e2 : 0 ≤ s * a := Int.mul_nonneg (by omega) h3
  have e3 : s * a ≤ s * 1000 := Int.mul_le_mul_of_nonneg_left h4 (by omega)
  omega
theorem least_bd (s a : Int) (h1 : 1 ≤ s) (h2 : s ≤ 1099511627776) (h3 : 0 ≤ a) (h4 : a ≤ 1000) : 0 ≤ s * (1000 - a) ∧ s * (1000 - a) ≤ 1000 * s := by
  have e1 : s * (1000 - a) = 1000 * s - s * a := by rw [Int.mul_sub]; omega
  have e2 : 0 ≤ s * a := Int.mul_nonneg (by omega) h3
  have e3 : s * a ≤ s * 1000 := Int.mul_le_mul_of_nonneg_left h4 (by omega)
  omega

theorem tolerant_any (n : Int) (w : World) : Calls Tryz.prog 101 #[.int .i64 n] w fun e w' => e = .returned (.bool (tol n)) ∧ w = w' := by
  by_cases h0 : 0 ≤ n
  · by_cases h1 : n ≤ 1000
    · have hf : tol n = true := by simp [tol, h0, h1]
      rw [hf]; clear hf
      go_enter Tryz.func101, Tryz.ntmps101
      go_wp2
      go_ret
      exact ⟨rfl, rfl⟩
    · have hf : tol n = false := by simp [tol, h0, h1]
      rw [hf]; clear hf
      go_enter Tryz.func101, Tryz.ntmps101
      go_wp2
      go_ret
      exact ⟨rfl, rfl⟩
  · have hf : tol n = false := by simp [tol, h0]
    rw [hf]; clear hf
    go_enter Tryz.func101, Tryz.ntmps101
    go_wp2
    go_ret
    exact ⟨rfl, rfl⟩

set_option maxHeartbeats 1000000 in
theorem bounded_any (c : Cr) (w : World) : Calls Tryz.prog 39 #[.agg c.cells] w (RetB w c.bnd) := by
  go_enter Tryz.func39, Tryz.ntmps39
  go_wp2_with (go_at_call 101; refine (tolerant_any _ _).mono ?_; rintro e w' ⟨rfl, rfl⟩)
  all_goals
    go_ret
    refine retB ?_ ((Below.refl _ _).alloc (Nat.le_refl _) _)
    simp [Cr.bnd, *]
  all_goals omega


theorem most_num (s a : Int) (h : 0 ≤ s * (1000 + a)) : s * (1000 + a) / 1000 = (s * (1000 + a)).tdiv 1000 := by
  rw [Int.tdiv_eq_ediv_of_nonneg h]

/-- The most, of a credit whose bounds may be. -/
theorem most_any (c : Cr) (w : World) (hb : Bnd c) : Calls Tryz.prog 40 #[.agg c.cells] w (Ret w (.int .i64 c.most)) := by
  obtain ⟨h1, h2, h3, h4, h5, h6, h7, h8⟩ := hb
  obtain ⟨m1, m2, m3, m4⟩ := most_bd c.sum c.above h1 h2 h3 h4
  go_enter Tryz.func40, Tryz.ntmps40
  go_wp2
  go_ret
  exact ⟨rfl, (Below.refl _ _).alloc (Nat.le_refl _) _⟩

theorem least_any (c : Cr) (w : World) (hb : Bnd c) : Calls Tryz.prog 54 #[.agg c.cells] w (Ret w (.int .i64 c.least)) := by
  obtain ⟨h1, h2, h3, h4, h5, h6, h7, h8⟩ := hb
  obtain ⟨m1, m2⟩ := least_bd c.sum c.below h1 h2 h5 h6
  go_enter Tryz.func54, Tryz.ntmps54
  go_wp2
  go_ret
  exact ⟨ret_int (by simp only [Cr.least]; omega), (Below.refl _ _).alloc (Nat.le_refl _) _⟩


end Go.Proofs.YtbigoifpfkdkjaaGreatDoor.Sc
namespace Go.Proofs.YtbigoifpfkdkjaaGreatDoor.Sc
open Go Go.RowKit Go.ChangeShapes Go.WideShapes Go.ChangeAt

def RetM (w : World) (c : Cr) : Ending → World → Prop := Ret w (.tuple #[.int .i64 (if c.bnd then c.most else 0), .int .i64 (if c.bnd then 0 else 1)])
theorem retM_no {c : Cr} {w w' : World} (h : ¬ c.bnd = true) (hb : Below w.heap.size w w') : RetM w c (.returned (.tuple #[.int .i64 0, .int .i64 1])) w' := ⟨by simp [h], hb⟩
theorem retM_yes {c : Cr} {w w' : World} (h : c.bnd = true) (hb : Below w.heap.size w w') : RetM w c (.returned (.tuple #[.int .i64 c.most, .int .i64 0])) w' := ⟨by simp [h], hb⟩
set_option maxHeartbeats 1000000 in
theorem Most_any (c : Cr) (w : World) : Calls Tryz.prog 7 #[.agg c.cells] w (RetM w c) := by
  have h0 := heap_alloc_new w (.cells c.cells 30)
  go_enter Tryz.func7, Tryz.ntmps7
  go_wp2_with (first | (refine load_cr (.tmp 1) w.heap.size c _ rfl rfl h0 ?_) | fail)
  refine (bounded_any c _).mono ?_
  rintro e w1 ⟨rfl, hb⟩
  have h1 := blk hb (by simp) h0
  have hz := size_new hb
  have hb1 := below_new hb
  clear hb h0
  go_wp2_with (first | (refine load_cr (.tmp 1) w.heap.size c _ rfl rfl h1 ?_) | fail)
  · go_ret2
    exact retM_no (by simpa using ‹(!c.bnd) = true›) hb1
  · have hc : c.bnd = true := by simpa using ‹(!c.bnd) = false›
    refine (most_any c _ ((bnd_iff c).1 hc)).mono ?_
    rintro e w2 ⟨rfl, hb2⟩
    go_wp2_with fail
    go_ret2
    exact retM_yes hc (below_then hb1 hb2)

end Go.Proofs.YtbigoifpfkdkjaaGreatDoor.Sc
namespace Go.Proofs.YtbigoifpfkdkjaaGreatDoor.Sc
open Go Go.RowKit Go.ChangeShapes Go.WideShapes Go.ChangeAt
set_option maxRecDepth 100000

/-- A draw. -/
structure Dr where
  day : Int
  amt : Int

def Dr.row (d : Dr) : List Value := [.int .i64 d.day, .int .i64 d.amt]

def drOk (ahead : Int) (d : Dr) : Bool := decide (1 ≤ d.amt) && decide (d.amt ≤ 1099511627776) && decide (ahead ≤ d.day) && decide (d.day ≤ 1048576)
/-- May they be, behind a day? -/
def drawsFrom (ahead : Int) : List Dr → Bool
  | [] => true
  | d :: r => drOk ahead d && drawsFrom d.day r
def dsum : List Dr → Int
  | [] => 0
  | d :: r => d.amt + dsum r
def draws (l : List Dr) : Bool := decide (l.length ≤ 4096) && drawsFrom 0 l

theorem dsum_append (a b : List Dr) : dsum (a ++ b) = dsum a + dsum b := by
  induction a with
  | nil => simp [dsum]
  | cons d r ih => simp only [List.cons_append, dsum, ih]; omega
theorem dsum_take_succ (l : List Dr) (k : Nat) (h : k < l.length) : dsum (l.take (k + 1)) = dsum (l.take k) + l[k].amt := by
  rw [List.take_succ_eq_append_getElem h, dsum_append]; simp [dsum]
theorem drawsFrom_drop (l : List Dr) (k : Nat) (a : Int) (h : k < l.length) : drawsFrom a (l.drop k) = (drOk a l[k] && drawsFrom l[k].day (l.drop (k + 1))) := by
  rw [List.drop_eq_getElem_cons h]; rfl
theorem drawsFrom_bd (l : List Dr) : ∀ a, drawsFrom a l = true → 0 ≤ dsum l ∧ dsum l ≤ 1099511627776 * l.length := by
  induction l with
  | nil => intro a _; simp [dsum]
  | cons d r ih =>
    intro a h
    simp only [drawsFrom, drOk, Bool.and_eq_true, decide_eq_true_eq] at h
    obtain ⟨⟨⟨⟨h1, h2⟩, h3⟩, h4⟩, h5⟩ := h
    have := ih _ h5
    simp only [dsum, List.length_cons]
    omega

def drawnR (l : List Dr) : Value := .tuple #[.int .i64 (if draws l then dsum l else 0), .bool (draws l)]
def RetD (w : World) (l : List Dr) : Ending → World → Prop := Ret w (drawnR l)
theorem retD_no {w w' : World} {l : List Dr} (h : draws l = false) (hb : Below w.heap.size w w') : RetD w l (.returned (.tuple #[.int .i64 0, .bool false])) w' := ⟨by simp [drawnR, h], hb⟩
theorem retD_yes {w w' : World} {l : List Dr} {s : Int} (h : draws l = true) (hs : s = dsum l) (hb : Below w.heap.size w w') : RetD w l (.returned (.tuple #[.int .i64 s, .bool true])) w' := ⟨by simp [drawnR, h, hs], hb⟩

set_option maxHeartbeats 1000000 in
theorem Drawn_any (l : List Dr) (v : Value) (w : World) (hs : Sl w 2 v (l.map Dr.row)) : Calls Tryz.prog 48 #[v] w (RetD w l) := by
  have hml : l.length ≤ 9223372036854775807 := by have := hs.len_le; simpa [maxLen] using this
  rcases hs with ⟨hx, a, c, rfl, _⟩ | ⟨b, off, cap, hv, hb, hcap, hmx, hc⟩
  · obtain rfl : l = [] := by simpa using hx
    go_enter Tryz.func48, Tryz.ntmps48
    go_wp2
    refine wp_loop_once ?_
    go_wp2
    go_ret2
    exact retD_yes rfl rfl (Below.refl _ _)
  · rw [List.length_map] at hv hcap
    subst hv
    by_cases hl : l.length ≤ 4096
    · have HC := Lib.hid hc
      have hl' : ¬ 4096 < (l.length : Int) := by omega
      clear hc hmx
      go_enter Tryz.func48, Tryz.ntmps48
      go_wp2
      go_loopw [4, 5, 13] (fun s a i wr => ∃ (k : Nat) (A : Int), k ≤ l.length ∧ i = .int .i64 k ∧ s = .int .i64 (dsum (l.take k)) ∧ a = .int .i64 A ∧ drawsFrom 0 l = drawsFrom A (l.drop k) ∧ 0 ≤ dsum (l.take k) ∧ dsum (l.take k) ≤ 1099511627776 * k ∧ Below w.heap.size w wr)
        (fun _ _ i _ => l.length - (intOf i).toNat)
      case atStart => exact ⟨0, 0, Nat.zero_le _, rfl, rfl, rfl, rfl, by simp [dsum], by simp [dsum], Below.refl _ _⟩
      case round =>
        obtain ⟨k, A, hk, rfl, rfl, rfl, hfrom, hS0, hS1, hbel⟩ := hrel
        by_cases hlt : k < l.length
        · have hr := HC.out k l[k].row (by simp [hlt])
          have d0 := (hbel.cell (p := ⟨b, off + k * 2, none⟩) hb).trans (hr 0 _ rfl)
          have d1 := (hbel.cell (p := ⟨b, off + k * 2 + 1, none⟩) hb).trans (hr 1 _ rfl)
          have HS := Lib.hid (dsum_take_succ l k hlt)
          rw [drawsFrom_drop l k A hlt] at hfrom
          have HF := Lib.hid hfrom
          clear hr hfrom
          generalize l[k] = d at *
          generalize dsum (l.take k) = S at *
          obtain ⟨day, amt⟩ := d
          simp only at d0 d1
          have hbel2 := (hbel.alloc (o := .cells #[.int .i64 day, .int .i64 amt] 42) hbel.size)
          go_wp2
          all_goals first
            | (go_roundw
               case rel => exact ⟨k + 1, day, by omega, by go_num, by rw [HS.out], rfl, by rw [HF.out]; simp [drOk]; omega, by rw [HS.out]; simp only; omega, by rw [HS.out]; simp only; omega, hbel2⟩
               case measure => simp [intOf]; omega)
            | (go_ret2
               exact retD_no (by simp only [draws]; rw [HF.out]; simp [drOk]; omega) hbel2)
        · have hkl : l.length ≤ k := by omega
          have HF := Lib.hid hfrom
          clear hfrom
          have HT : Hid (dsum (l.take k) = dsum l) := Lib.hid (by rw [List.take_of_length_le hkl])
          go_wp2
          go_ret2
          exact retD_yes (by simp only [draws]; rw [HF.out, List.drop_eq_nil_of_le hkl]; simp [drawsFrom, hl]) HT.out hbel
    · have hl' : 4096 < (l.length : Int) := by omega
      go_enter Tryz.func48, Tryz.ntmps48
      go_wp2
      go_ret2
      exact retD_no (by simp [draws, hl]) (Below.refl _ _)


/-- An argument that is a slice of draws. -/
theorem open_draws {H : Type} {enc : TypeId × Value → H} {W : World} {base : Nat} {v : Value} {d : DataW H} {p : List MemPlace} (hv : Value.okWide Tryz.prog W .any base 40 v)
    (h : DataW.Trod enc Tryz.prog W 0 (fun _ => true) true 40 v d p) : ∃ l : List Dr, Sl W 2 v (l.map Dr.row) := by
  obtain ⟨a, len, cap, rfl⟩ := okWide_slice Tryz.underlying40 hv
  obtain ⟨fuel, hf⟩ := h
  obtain ⟨rows, hs, _, hg⟩ := open_sl (sz := 2) (Good := fun cs => ∃ d : Dr, cs = d.row) Tryz.underlying40 (by kernel_rfl) rfl hf (fun n cs y hy => by
    obtain ⟨hl, m, hg⟩ := row_fields Tryz.underlying42 (by kernel_rfl) (by kernel_rfl) hy
    match cs, hl with
    | [c0, c1], _ =>
      obtain ⟨z0, g0⟩ := hg 0 _ rfl c0 rfl
      obtain ⟨z1, g1⟩ := hg 1 _ rfl c1 rfl
      obtain ⟨a, ha, _⟩ := DataW.trod_int Tryz.underlying3 g0
      obtain ⟨b, hb, _⟩ := DataW.trod_int Tryz.underlying2 g1
      obtain rfl : c0 = .int .i64 a := by simpa using ha
      obtain rfl : c1 = .int .i64 b := by simpa using hb
      exact ⟨⟨a, b⟩, rfl⟩) (by decide)
  obtain ⟨l, rfl⟩ := choose_map (f := Dr.row) rows hg
  exact ⟨l, hs⟩

end Go.Proofs.YtbigoifpfkdkjaaGreatDoor.Sc
