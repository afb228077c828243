/- Voyages, calls, legs: the plain law, and how they lie in memory. -/
import Derived.Test.YtbmjficiceiekaaDoorMarkN
import Derived.Test.YtbmjficiceiekaaDoorKeep
namespace Go.Proofs.YtbmjficiceiekaaDoor.Sc
open Go Go.RowKit Go.ChangeShapes Go.WideShapes Go.ChangeAt
set_option maxRecDepth 100000

structure Cl where
  port : ByteArray
  cut : Int
  arr : Int
  dep : Int
def Cl.cells (x : Cl) : Array Value := #[.string x.port, .int .i64 x.cut, .int .i64 x.arr, .int .i64 x.dep]
def Cl.row (x : Cl) : List Value := x.cells.toList
def clCells (l : List Cl) : List Value := l.flatMap Cl.row
theorem infoCl : (Tryd.prog.info? 39).map (fun i => (i.zero, i.size, i.bytes)) = some (some (.agg #[.string ⟨#[]⟩, .int .i64 0, .int .i64 0, .int .i64 0]), 4, 40) := by kernel_rfl
theorem cl_one (x : Cl) : ∀ u ∈ x.cells.toList, u.oneCell' = true := by
  intro u hu
  simp only [Cl.cells, List.mem_cons, List.not_mem_nil, or_false] at hu
  rcases hu with rfl | rfl | rfl | rfl <;> rfl
theorem clCells_flat (l : List Cl) : clCells l = (l.map Cl.row).flatten := by rw [clCells, List.flatMap_def]
theorem cl_rows (l : List Cl) : ∀ r ∈ l.map Cl.row, r.length = 4 := by
  intro r hr
  obtain ⟨b, -, rfl⟩ := List.mem_map.1 hr
  rfl
theorem clCells_append (a b : List Cl) : clCells (a ++ b) = clCells a ++ clCells b := by simp [clCells]
theorem own_cls {w : World} {B n : Nat} {v : Value} {l : List Cl} (h : w.ownsRow B 39 4 v n (clCells l)) (hn : n = l.length) : Sl w 4 v (l.map Cl.row) := by
  rw [clCells_flat] at h
  exact own_sl h (by simpa using hn) (cl_rows l)
theorem src_cls {w : World} {v : Value} {l : List Cl} (h : Sl w 4 v (l.map Cl.row)) : Src w 4 v l.length (clCells l) := by
  have := h.src (cl_rows l) (by decide)
  rw [clCells_flat]
  simpa using this
/-- What one in a row reads. -/
def ClAt (w : World) (b o : Nat) (x : Cl) : Prop := w.cell? ⟨b, o, none⟩ = some (.string x.port) ∧ w.cell? ⟨b, o + 1, none⟩ = some (.int .i64 x.cut) ∧ w.cell? ⟨b, o + 2, none⟩ = some (.int .i64 x.arr) ∧ w.cell? ⟨b, o + 3, none⟩ = some (.int .i64 x.dep)
theorem cl_at {w : World} {a : Option Addr} {n c : Nat} {l : List Cl} (h : Sl w 4 (.slice a n c) (l.map Cl.row)) {k : Nat} (hk : k < l.length) : ∃ b off, a = some ⟨b, off, none⟩ ∧ b < w.heap.size ∧ ClAt w b (off + k * 4) l[k] := by
  obtain ⟨b, off, e, -, hb, hc⟩ := h.at (i := k) (by simpa using hk)
  have hr := hc k l[k].row (by rw [List.getElem?_map, List.getElem?_eq_getElem hk]; rfl)
  exact ⟨b, off, e, hb, hr 0 _ rfl, hr 1 _ rfl, hr 2 _ rfl, hr 3 _ rfl⟩
theorem ClAt.below {w w' : World} {b o B : Nat} {x : Cl} (h : ClAt w b o x) (hb : b < B) (hw : Below B w w') : ClAt w' b o x := by
  obtain ⟨h0, h1, h2, h3⟩ := h
  exact ⟨(hw.cell (p := ⟨b, o, none⟩) hb).trans h0, (hw.cell (p := ⟨b, o + 1, none⟩) hb).trans h1, (hw.cell (p := ⟨b, o + 2, none⟩) hb).trans h2, (hw.cell (p := ⟨b, o + 3, none⟩) hb).trans h3⟩
theorem ClAt.keep {F : Nat → Prop} {w w' : World} {b o : Nat} {x : Cl} (h : ClAt w b o x) (hb : b < w.heap.size) (hn : ¬ F b) (hw : Keep F w w') : ClAt w' b o x := by
  obtain ⟨h0, h1, h2, h3⟩ := h
  exact ⟨(hw.cell (o := o) hb hn).trans h0, (hw.cell (o := o + 1) hb hn).trans h1, (hw.cell (o := o + 2) hb hn).trans h2, (hw.cell (o := o + 3) hb hn).trans h3⟩
/-- .. and in a box. -/
theorem cl_box {w : World} {b : Nat} {x : Cl} {T : TypeId} (h : w.heap[b]? = some (.cells x.cells T (0, 0))) : w.cell? ⟨b, 0, none⟩ = some (.string x.port) ∧ w.cell? ⟨b, 1, none⟩ = some (.int .i64 x.cut) ∧ w.cell? ⟨b, 2, none⟩ = some (.int .i64 x.arr) ∧ w.cell? ⟨b, 3, none⟩ = some (.int .i64 x.dep) := ⟨cell_blk h 0, cell_blk h 1, cell_blk h 2, cell_blk h 3⟩
structure Lg where
  voy : Nat
  fr : Nat
  to : Nat
def Lg.cells (x : Lg) : Array Value := #[.int .i64 (x.voy : Int), .int .i64 (x.fr : Int), .int .i64 (x.to : Int)]
def Lg.row (x : Lg) : List Value := x.cells.toList
def lgCells (l : List Lg) : List Value := l.flatMap Lg.row
theorem infoLg : (Tryd.prog.info? 37).map (fun i => (i.zero, i.size, i.bytes)) = some (some (.agg #[.int .i64 0, .int .i64 0, .int .i64 0]), 3, 24) := by kernel_rfl
theorem lg_one (x : Lg) : ∀ u ∈ x.cells.toList, u.oneCell' = true := by
  intro u hu
  simp only [Lg.cells, List.mem_cons, List.not_mem_nil, or_false] at hu
  rcases hu with rfl | rfl | rfl <;> rfl
theorem lgCells_flat (l : List Lg) : lgCells l = (l.map Lg.row).flatten := by rw [lgCells, List.flatMap_def]
theorem lg_rows (l : List Lg) : ∀ r ∈ l.map Lg.row, r.length = 3 := by
  intro r hr
  obtain ⟨b, -, rfl⟩ := List.mem_map.1 hr
  rfl
theorem lgCells_append (a b : List Lg) : lgCells (a ++ b) = lgCells a ++ lgCells b := by simp [lgCells]
theorem own_lgs {w : World} {B n : Nat} {v : Value} {l : List Lg} (h : w.ownsRow B 37 3 v n (lgCells l)) (hn : n = l.length) : Sl w 3 v (l.map Lg.row) := by
  rw [lgCells_flat] at h
  exact own_sl h (by simpa using hn) (lg_rows l)
theorem src_lgs {w : World} {v : Value} {l : List Lg} (h : Sl w 3 v (l.map Lg.row)) : Src w 3 v l.length (lgCells l) := by
  have := h.src (lg_rows l) (by decide)
  rw [lgCells_flat]
  simpa using this
/-- What one in a row reads. -/
def LgAt (w : World) (b o : Nat) (x : Lg) : Prop := w.cell? ⟨b, o, none⟩ = some (.int .i64 (x.voy : Int)) ∧ w.cell? ⟨b, o + 1, none⟩ = some (.int .i64 (x.fr : Int)) ∧ w.cell? ⟨b, o + 2, none⟩ = some (.int .i64 (x.to : Int))
theorem lg_at {w : World} {a : Option Addr} {n c : Nat} {l : List Lg} (h : Sl w 3 (.slice a n c) (l.map Lg.row)) {k : Nat} (hk : k < l.length) : ∃ b off, a = some ⟨b, off, none⟩ ∧ b < w.heap.size ∧ LgAt w b (off + k * 3) l[k] := by
  obtain ⟨b, off, e, -, hb, hc⟩ := h.at (i := k) (by simpa using hk)
  have hr := hc k l[k].row (by rw [List.getElem?_map, List.getElem?_eq_getElem hk]; rfl)
  exact ⟨b, off, e, hb, hr 0 _ rfl, hr 1 _ rfl, hr 2 _ rfl⟩
theorem LgAt.below {w w' : World} {b o B : Nat} {x : Lg} (h : LgAt w b o x) (hb : b < B) (hw : Below B w w') : LgAt w' b o x := by
  obtain ⟨h0, h1, h2⟩ := h
  exact ⟨(hw.cell (p := ⟨b, o, none⟩) hb).trans h0, (hw.cell (p := ⟨b, o + 1, none⟩) hb).trans h1, (hw.cell (p := ⟨b, o + 2, none⟩) hb).trans h2⟩
theorem LgAt.keep {F : Nat → Prop} {w w' : World} {b o : Nat} {x : Lg} (h : LgAt w b o x) (hb : b < w.heap.size) (hn : ¬ F b) (hw : Keep F w w') : LgAt w' b o x := by
  obtain ⟨h0, h1, h2⟩ := h
  exact ⟨(hw.cell (o := o) hb hn).trans h0, (hw.cell (o := o + 1) hb hn).trans h1, (hw.cell (o := o + 2) hb hn).trans h2⟩
/-- .. and in a box. -/
theorem lg_box {w : World} {b : Nat} {x : Lg} {T : TypeId} (h : w.heap[b]? = some (.cells x.cells T (0, 0))) : w.cell? ⟨b, 0, none⟩ = some (.int .i64 (x.voy : Int)) ∧ w.cell? ⟨b, 1, none⟩ = some (.int .i64 (x.fr : Int)) ∧ w.cell? ⟨b, 2, none⟩ = some (.int .i64 (x.to : Int)) := ⟨cell_blk h 0, cell_blk h 1, cell_blk h 2⟩
/-- A voyage: its ship, the value of its calls, and what that value reads as. -/
structure Vm where
  ship : ByteArray
  val : Value
  calls : List Cl
def Vm.cells (v : Vm) : Array Value := #[.string v.ship, v.val]
def Vm.row (v : Vm) : List Value := v.cells.toList
/-- The voyages of a slice: each one's calls lie in memory. -/
def VsAt (w : World) (v : Value) (l : List Vm) : Prop := Sl w 2 v (l.map Vm.row) ∧ ∀ x ∈ l, Sl w 4 x.val (x.calls.map Cl.row)
theorem VsAt.below {w w' : World} {v : Value} {l : List Vm} (h : VsAt w v l) (hb : Below w.heap.size w w') : VsAt w' v l := ⟨h.1.below hb (Nat.le_refl _), fun x hx => (h.2 x hx).below hb (Nat.le_refl _)⟩
def dayB (n : Int) : Bool := decide (0 ≤ n) && decide (n ≤ 1048576)
def okC (c : Cl) : Bool := nameOk c.port && (dayB c.cut && (dayB c.arr && (dayB c.dep && (decide (c.arr ≤ c.dep) && decide (c.cut ≤ c.dep)))))
def adjC (p c : Cl) : Bool := !decide (c.port = p.port) && decide (p.dep ≤ c.arr)
/-- May the i-th call stand where it stands? -/
def okAt (l : List Cl) (i : Nat) : Bool := match l[i]? with
  | none => true
  | some c => okC c && (match i with
    | 0 => true
    | j + 1 => (match l[j]? with | none => true | some p => adjC p c))
def mayCs (l : List Cl) : Bool := (List.range l.length).all (okAt l)
def mayV (s : ByteArray) (l : List Cl) : Bool := nameOk s && (decide (1 ≤ l.length) && (decide (l.length ≤ 64) && mayCs l))
theorem mayCs_bad {l : List Cl} {k : Nat} (hk : k < l.length) (h : okAt l k = false) : mayCs l = false := by
  rw [mayCs, List.all_eq_false]
  exact ⟨k, List.mem_range.2 hk, by simp [h]⟩
theorem mayCs_good {l : List Cl} (h : ∀ k, k < l.length → okAt l k = true) : mayCs l = true := by
  rw [mayCs, List.all_eq_true]
  exact fun k hk => h k (List.mem_range.1 hk)
theorem mayCs_at {l : List Cl} (h : mayCs l = true) {k : Nat} (hk : k < l.length) : okC l[k] = true := by
  rw [mayCs, List.all_eq_true] at h
  have := h k (List.mem_range.2 hk)
  unfold okAt at this
  rw [List.getElem?_eq_getElem hk] at this
  simp only [Bool.and_eq_true] at this
  exact this.1
theorem okC_range {c : Cl} (h : okC c = true) : (0 ≤ c.cut ∧ c.cut ≤ 1048576) ∧ (0 ≤ c.arr ∧ c.arr ≤ 1048576) ∧ (0 ≤ c.dep ∧ c.dep ≤ 1048576) ∧ c.arr ≤ c.dep ∧ c.cut ≤ c.dep ∧ nameOk c.port = true := by
  simp only [okC, dayB, Bool.and_eq_true, decide_eq_true_eq] at h
  obtain ⟨h1, h2, h3, h4, h5, h6⟩ := h
  exact ⟨h2, h3, h4, h5, h6, h1⟩
theorem mayV_cs {s : ByteArray} {l : List Cl} (h : mayV s l = true) : nameOk s = true ∧ 1 ≤ l.length ∧ l.length ≤ 64 ∧ mayCs l = true := by
  simpa [mayV, and_assoc] using h
end Go.Proofs.YtbmjficiceiekaaDoor.Sc
