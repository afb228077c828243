/- A credit's life, of the program and of the reference: 25 cells that read alike. -/
import Derived.Test.YtjabjfkfoenmlaaMay
import Derived.Test.YtjabjfkfoenmlaaRefA
import Derived.Test.YtjabjfkfoenmlaaKeep
namespace Go.Proofs.Ytjabjfkfoenmlaa.Sc
open Go Go.RowKit Go.ChangeShapes Go.WideShapes Go.ChangeAt
set_option maxRecDepth 100000

/-- An event. -/
structure Ev where
  kind : Int
  party : ByteArray
  day : Int
  amt : Int
deriving DecidableEq
def Ev.cells (e : Ev) : Array Value := #[.int .i64 e.kind, .string e.party, .int .i64 e.day, .int .i64 e.amt]
def Ev.row (e : Ev) : List Value := [.int .i64 e.kind, .string e.party, .int .i64 e.day, .int .i64 e.amt]

/-- A life: its credit, its state, whether it is confirmed and repaid, what was drawn, what was paid, what happened. -/
structure Lf where
  c : Cr
  st : Int
  cf : Bool
  rp : Bool
  now : Dr
  paid : List Dr
  evs : List Ev

def Lf.cells (l : Lf) (vp ve : Value) : Array Value := #[.string l.c.s0, .string l.c.s1, .string l.c.s2, .string l.c.s3, .string l.c.s4, .string l.c.s5, .string l.c.s6, .string l.c.cur, .int .i64 l.c.sum, .int .i64 l.c.above, .int .i64 l.c.below, .int .i64 l.c.latest, .int .i64 l.c.expiry, .int .i64 l.c.within, .int .i64 l.c.tenor, .bool l.c.part, .bool l.c.change, .slice l.c.na l.c.nl l.c.nc, .int .i64 l.st, .bool l.cf, .bool l.rp, .int .i64 l.now.day, .int .i64 l.now.amt, vp, ve]
@[go_sem] theorem Lf.cell0 (l : Lf) (vp ve : Value) : (l.cells vp ve)[0]? = some (.string l.c.s0) := rfl
@[go_sem] theorem Lf.cell1 (l : Lf) (vp ve : Value) : (l.cells vp ve)[1]? = some (.string l.c.s1) := rfl
@[go_sem] theorem Lf.cell2 (l : Lf) (vp ve : Value) : (l.cells vp ve)[2]? = some (.string l.c.s2) := rfl
@[go_sem] theorem Lf.cell3 (l : Lf) (vp ve : Value) : (l.cells vp ve)[3]? = some (.string l.c.s3) := rfl
@[go_sem] theorem Lf.cell4 (l : Lf) (vp ve : Value) : (l.cells vp ve)[4]? = some (.string l.c.s4) := rfl
@[go_sem] theorem Lf.cell5 (l : Lf) (vp ve : Value) : (l.cells vp ve)[5]? = some (.string l.c.s5) := rfl
@[go_sem] theorem Lf.cell6 (l : Lf) (vp ve : Value) : (l.cells vp ve)[6]? = some (.string l.c.s6) := rfl
@[go_sem] theorem Lf.cell7 (l : Lf) (vp ve : Value) : (l.cells vp ve)[7]? = some (.string l.c.cur) := rfl
@[go_sem] theorem Lf.cell8 (l : Lf) (vp ve : Value) : (l.cells vp ve)[8]? = some (.int .i64 l.c.sum) := rfl
@[go_sem] theorem Lf.cell9 (l : Lf) (vp ve : Value) : (l.cells vp ve)[9]? = some (.int .i64 l.c.above) := rfl
@[go_sem] theorem Lf.cell10 (l : Lf) (vp ve : Value) : (l.cells vp ve)[10]? = some (.int .i64 l.c.below) := rfl
@[go_sem] theorem Lf.cell11 (l : Lf) (vp ve : Value) : (l.cells vp ve)[11]? = some (.int .i64 l.c.latest) := rfl
@[go_sem] theorem Lf.cell12 (l : Lf) (vp ve : Value) : (l.cells vp ve)[12]? = some (.int .i64 l.c.expiry) := rfl
@[go_sem] theorem Lf.cell13 (l : Lf) (vp ve : Value) : (l.cells vp ve)[13]? = some (.int .i64 l.c.within) := rfl
@[go_sem] theorem Lf.cell14 (l : Lf) (vp ve : Value) : (l.cells vp ve)[14]? = some (.int .i64 l.c.tenor) := rfl
@[go_sem] theorem Lf.cell15 (l : Lf) (vp ve : Value) : (l.cells vp ve)[15]? = some (.bool l.c.part) := rfl
@[go_sem] theorem Lf.cell16 (l : Lf) (vp ve : Value) : (l.cells vp ve)[16]? = some (.bool l.c.change) := rfl
@[go_sem] theorem Lf.cell17 (l : Lf) (vp ve : Value) : (l.cells vp ve)[17]? = some (.slice l.c.na l.c.nl l.c.nc) := rfl
@[go_sem] theorem Lf.cell18 (l : Lf) (vp ve : Value) : (l.cells vp ve)[18]? = some (.int .i64 l.st) := rfl
@[go_sem] theorem Lf.cell19 (l : Lf) (vp ve : Value) : (l.cells vp ve)[19]? = some (.bool l.cf) := rfl
@[go_sem] theorem Lf.cell20 (l : Lf) (vp ve : Value) : (l.cells vp ve)[20]? = some (.bool l.rp) := rfl
@[go_sem] theorem Lf.cell21 (l : Lf) (vp ve : Value) : (l.cells vp ve)[21]? = some (.int .i64 l.now.day) := rfl
@[go_sem] theorem Lf.cell22 (l : Lf) (vp ve : Value) : (l.cells vp ve)[22]? = some (.int .i64 l.now.amt) := rfl
@[go_sem] theorem Lf.cell23 (l : Lf) (vp ve : Value) : (l.cells vp ve)[23]? = some (vp) := rfl
@[go_sem] theorem Lf.cell24 (l : Lf) (vp ve : Value) : (l.cells vp ve)[24]? = some (ve) := rfl
@[go_sem] theorem Lf.cells_size (l : Lf) (vp ve : Value) : (l.cells vp ve).size = 25 := rfl
@[go_sem] theorem Lf.set18 (l : Lf) (vp ve : Value) (x : Int) : (l.cells vp ve).setIfInBounds 18 (.int .i64 x) = ({ l with st := x } : Lf).cells vp ve := rfl
@[go_sem] theorem Lf.set19 (l : Lf) (vp ve : Value) (x : Bool) : (l.cells vp ve).setIfInBounds 19 (.bool x) = ({ l with cf := x } : Lf).cells vp ve := rfl
@[go_sem] theorem Lf.set20 (l : Lf) (vp ve : Value) (x : Bool) : (l.cells vp ve).setIfInBounds 20 (.bool x) = ({ l with rp := x } : Lf).cells vp ve := rfl
@[go_sem] theorem Lf.set23 (l : Lf) (vp ve x : Value) : (l.cells vp ve).setIfInBounds 23 x = l.cells x ve := rfl
@[go_sem] theorem Lf.set24 (l : Lf) (vp ve x : Value) : (l.cells vp ve).setIfInBounds 24 x = l.cells vp x := rfl
theorem Lf.credit (l : Lf) (vp ve : Value) : (l.cells vp ve).extract 0 18 = l.c.cells := by kernel_rfl

/-- Who answers, who owes, who may do a kind. -/
def Lf.bank (l : Lf) : ByteArray := if l.cf then l.c.s4 else l.c.s3
def Lf.payer (l : Lf) : ByteArray := if l.cf && !l.rp then l.c.s3 else l.c.s1
def Lf.debtor (l : Lf) : ByteArray := if l.st = 4 then l.bank else if l.st = 5 then l.payer else ⟨#[]⟩

/-- The box of a life. -/
def Box (w : World) (t : TypeId) (b : Nat) (l : Lf) (vp ve : Value) : Prop := w.heap[b]? = some (.cells (l.cells vp ve) t (0, 0))
theorem Box.cell {w : World} {t : TypeId} {b : Nat} {l : Lf} {vp ve : Value} (h : Box w t b l vp ve) (j : Nat) : w.cell? ⟨b, j, none⟩ = (l.cells vp ve)[j]? := cell_blk h j

theorem bank_any (b : Nat) (l : Lf) (vp ve : Value) (w : World) (hb : Box w 65 b l vp ve) :
    Calls Try.prog 67 #[.pointer (some ⟨b, 0, none⟩)] w (Ret w (.string l.bank)) := by
  have d3 : w.cell? ⟨b, 3, none⟩ = some (.string l.c.s3) := hb.cell 3
  have d4 : w.cell? ⟨b, 4, none⟩ = some (.string l.c.s4) := hb.cell 4
  have d19 : w.cell? ⟨b, 19, none⟩ = some (.bool l.cf) := hb.cell 19
  cases hc : l.cf <;> rw [hc] at d19
  · have h : l.bank = l.c.s3 := by rw [Lf.bank, if_neg (by simp [hc])]
    rw [h]; clear h hc hb
    generalize l.c.s3 = s3 at *
    generalize l.c.s4 = s4 at *
    go_enter Try.func67, Try.ntmps67
    go_wp2
    go_ret
    exact ⟨rfl, Below.refl _ _⟩
  · have h : l.bank = l.c.s4 := by rw [Lf.bank, if_pos hc]
    rw [h]; clear h hc hb
    generalize l.c.s3 = s3 at *
    generalize l.c.s4 = s4 at *
    go_enter Try.func67, Try.ntmps67
    go_wp2
    go_ret
    exact ⟨rfl, Below.refl _ _⟩
end Go.Proofs.Ytjabjfkfoenmlaa.Sc
