/- A credit's life, of the program and of the reference: 25 cells that read alike. The reference's life: who owes, who may do what. The program's life: its questions and its rules' closures. The document's word of layer 6; mark.Name: MarkN. Whether an event is none. What the rules' last closures do to a life. A life in memory: its box, what was paid and what happened in rows of its own. -/
import Derived.Test.YtbigoifpfkdkjaaGreatDoorTe11
import Derived.Test.YtbigoifpfkdkjaaGreatDoorTe03
import Derived.Test.YtbigoifpfkdkjaaGreatDoorTe01
import Derived.Test.YtbigoifpfkdkjaaGreatDoorTe05
namespace Go.Proofs.YtbigoifpfkdkjaaGreatDoor.Sc
open Go Go.RowKit Go.ChangeShapes Go.WideShapes Go.ChangeAt
set_option maxRecDepth 100000

/-- An event. -/
structure Ev where
  kind : Int
  party : ByteArray
  day : Int
  amt : Int
deriving DecidableEq
def Ev.cells (e : Ev) : Array Value := #[.int .i64 e.kind, .string e.party, .int .i64 e.day, .int .i64 e.amt]
def Ev.row (e : Ev) : List Value := [.int .i64 e.kind, .string e.party, .int .i64 e.day, .int .i64 e.amt]

/-- A life: its credit, its state, whether it is confirmed and repaid, what was drawn, what was paid, what happened. -/
structure Lf where
  c : Cr
  st : Int
  cf : Bool
  rp : Bool
  now : Dr
  paid : List Dr
  evs : List Ev

def Lf.cells (l : Lf) (vp ve : Value) : Array Value := #[.string l.c.s0, .string l.c.s1, .string l.c.s2, .string l.c.s3, .string l.c.s4, .string l.c.s5, .string l.c.s6, .string l.c.cur, .int .i64 l.c.sum, .int .i64 l.c.above, .int .i64 l.c.below, .int .i64 l.c.latest, .int .i64 l.c.expiry, .int .i64 l.c.within, .int .i64 l.c.tenor, .bool l.c.part, .bool l.c.change, .slice l.c.na l.c.nl l.c.nc, .int .i64 l.st, .bool l.cf, .bool l.rp, .int .i64 l.now.day, .int .i64 l.now.amt, vp, ve]
@[go_sem] theorem Lf.cell0 (l : Lf) (vp ve : Value) : (l.cells vp ve)[0]? = some (.string l.c.s0) := rfl
@[go_sem] theorem Lf.cell1 (l : Lf) (vp ve : Value) : (l.cells vp ve)[1]? = some (.string l.c.s1) := rfl
@[go_sem] theorem Lf.cell2 (l : Lf) (vp ve : Value) : (l.cells vp ve)[2]? = some (.string l.c.s2) := rfl
@[go_sem] theorem Lf.cell3 (l : Lf) (vp ve : Value) : (l.cells vp ve)[3]? = some (.string l.c.s3) := rfl
@[go_sem] theorem Lf.cell4 (l : Lf) (vp ve : Value) : (l.cells vp ve)[4]? = some (.string l.c.s4) := rfl
@[go_sem] theorem Lf.cell5 (l : Lf) (vp ve : Value) : (l.cells vp ve)[5]? = some (.string l.c.s5) := rfl
@[go_sem] theorem Lf.cell6 (l : Lf) (vp ve : Value) : (l.cells vp ve)[6]? = some (.string l.c.s6) := rfl
@[go_sem] theorem Lf.cell7 (l : Lf) (vp ve : Value) : (l.cells vp ve)[7]? = some (.string l.c.cur) := rfl
@[go_sem] theorem Lf.cell8 (l : Lf) (vp ve : Value) : (l.cells vp ve)[8]? = some (.int .i64 l.c.sum) := rfl
@[go_sem] theorem Lf.cell9 (l : Lf) (vp ve : Value) : (l.cells vp ve)[9]? = some (.int .i64 l.c.above) := rfl
@[go_sem] theorem Lf.cell10 (l : Lf) (vp ve : Value) : (l.cells vp ve)[10]? = some (.int .i64 l.c.below) := rfl
@[go_sem] theorem Lf.cell11 (l : Lf) (vp ve : Value) : (l.cells vp ve)[11]? = some (.int .i64 l.c.latest) := rfl
@[go_sem] theorem Lf.cell12 (l : Lf) (vp ve : Value) : (l.cells vp ve)[12]? = some (.int .i64 l.c.expiry) := rfl
@[go_sem] theorem Lf.cell13 (l : Lf) (vp ve : Value) : (l.cells vp ve)[13]? = some (.int .i64 l.c.within) := rfl
@[go_sem] theorem Lf.cell14 (l : Lf) (vp ve : Value) : (l.cells vp ve)[14]? = some (.int .i64 l.c.tenor) := rfl
@[go_sem] theorem Lf.cell15 (l : Lf) (vp ve : Value) : (l.cells vp ve)[15]? = some (.bool l.c.part) := rfl
@[go_sem] theorem Lf.cell16 (l : Lf) (vp ve : Value) : (l.cells vp ve)[16]? = some (.bool l.c.change) := rfl
@[go_sem] theorem Lf.cell17 (l : Lf) (vp ve : Value) : (l.cells vp ve)[17]? = some (.slice l.c.na l.c.nl l.c.nc) := rfl
@[go_sem] theorem Lf.cell18 (l : Lf) (vp ve : Value) : (l.cells vp ve)[18]? = some (.int .i64 l.st) := rfl
@[go_sem] theorem Lf.cell19 (l : Lf) (vp ve : Value) : (l.cells vp ve)[19]? = some (.bool l.cf) := rfl
@[go_sem] theorem Lf.cell20 (l : Lf) (vp ve : Value) : (l.cells vp ve)[20]? = some (.bool l.rp) := rfl
@[go_sem] theorem Lf.cell21 (l : Lf) (vp ve : Value) : (l.cells vp ve)[21]? = some (.int .i64 l.now.day) := rfl
@[go_sem] theorem Lf.cell22 (l : Lf) (vp ve : Value) : (l.cells vp ve)[22]? = some (.int .i64 l.now.amt) := rfl
@[go_sem] theorem Lf.cell23 (l : Lf) (vp ve : Value) : (l.cells vp ve)[23]? = some (vp) := rfl
@[go_sem] theorem Lf.cell24 (l : Lf) (vp ve : Value) : (l.cells vp ve)[24]? = some (ve) := rfl
@[go_sem] theorem Lf.cells_size (l : Lf) (vp ve : Value) : (l.cells vp ve).size = 25 := rfl
@[go_sem] theorem Lf.set18 (l : Lf) (vp ve : Value) (x : Int) : (l.cells vp ve).setIfInBounds 18 (.int .i64 x) = ({ l with st := x } : Lf).cells vp ve := rfl
@[go_sem] theorem Lf.set19 (l : Lf) (vp ve : Value) (x : Bool) : (l.cells vp ve).setIfInBounds 19 (.bool x) = ({ l with cf := x } : Lf).cells vp ve := rfl
@[go_sem] theorem Lf.set20 (l : Lf) (vp ve : Value) (x : Bool) : (l.cells vp ve).setIfInBounds 20 (.bool x) = ({ l with rp := x } : Lf).cells vp ve := rfl
@[go_sem] theorem Lf.set23 (l : Lf) (vp ve x : Value) : (l.cells vp ve).setIfInBounds 23 x = l.cells x ve := rfl
@[go_sem] theorem Lf.set24 (l : Lf) (vp ve x : Value) : (l.cells vp ve).setIfInBounds 24 x = l.cells vp x := rfl
theorem Lf.credit (l : Lf) (vp ve : Value) : (l.cells vp ve).extract 0 18 = l.c.cells := by kernel_rfl

/-- Who answers, who owes, who may do a kind. -/
def Lf.bank (l : Lf) : ByteArray := if l.cf then l.c.s4 else l.c.s3
def Lf.payer (l : Lf) : ByteArray := if l.cf && !l.rp then l.c.s3 else l.c.s1
def Lf.debtor (l : Lf) : ByteArray := if l.st = 4 then l.bank else if l.st = 5 then l.payer else ⟨#[]⟩

/-- The box of a life. -/
def Box (w : World) (t : TypeId) (b : Nat) (l : Lf) (vp ve : Value) : Prop := w.heap[b]? = some (.cells (l.cells vp ve) t (0, 0))
theorem Box.cell {w : World} {t : TypeId} {b : Nat} {l : Lf} {vp ve : Value} (h : Box w t b l vp ve) (j : Nat) : w.cell? ⟨b, j, none⟩ = (l.cells vp ve)[j]? := cell_blk h j

end Go.Proofs.YtbigoifpfkdkjaaGreatDoor.Sc
namespace Go.Proofs.YtbigoifpfkdkjaaGreatDoor.Sc
open Go Go.RowKit Go.ChangeShapes Go.WideShapes Go.ChangeAt
set_option maxRecDepth 100000

/-- The cells that the reference's questions read. -/
structure Reads (w : World) (b : Nat) (l : Lf) : Prop where
  d1 : w.cell? ⟨b, 1, none⟩ = some (.string l.c.s1)
  d2 : w.cell? ⟨b, 2, none⟩ = some (.string l.c.s2)
  d3 : w.cell? ⟨b, 3, none⟩ = some (.string l.c.s3)
  d4 : w.cell? ⟨b, 4, none⟩ = some (.string l.c.s4)
  d18 : w.cell? ⟨b, 18, none⟩ = some (.int .i64 l.st)
  d19 : w.cell? ⟨b, 19, none⟩ = some (.bool l.cf)
  d20 : w.cell? ⟨b, 20, none⟩ = some (.bool l.rp)
theorem Box.reads {w : World} {t : TypeId} {b : Nat} {l : Lf} {vp ve : Value} (h : Box w t b l vp ve) : Reads w b l :=
  ⟨h.cell 1, h.cell 2, h.cell 3, h.cell 4, h.cell 18, h.cell 19, h.cell 20⟩

/-- Who may do a kind; empty: nobody, as it stands. -/
def Lf.who (l : Lf) (k : Int) : ByteArray :=
  if k = 0 then (if l.st = 0 then l.c.s3 else ⟨#[]⟩)
  else if k = 1 then (if l.st = 1 then (if l.cf then ⟨#[]⟩ else l.c.s4) else ⟨#[]⟩)
  else if k = 2 then (if l.st = 1 ∨ l.st = 3 ∨ l.st = 6 then l.c.s2 else ⟨#[]⟩)
  else if k = 3 ∨ k = 4 then (if l.st = 2 then l.bank else ⟨#[]⟩)
  else if k = 5 then (if l.st = 4 then l.bank else ⟨#[]⟩)
  else if k = 6 then (if l.st = 5 then l.debtor else ⟨#[]⟩)
  else if k = 7 then (if l.st = 0 ∨ l.st = 1 ∨ l.st = 3 ∨ l.st = 6 then l.c.s3 else ⟨#[]⟩) else ⟨#[]⟩

theorem eight {x : Int} (h0 : 0 ≤ x) (h7 : x ≤ 7) : x = 0 ∨ x = 1 ∨ x = 2 ∨ x = 3 ∨ x = 4 ∨ x = 5 ∨ x = 6 ∨ x = 7 := by omega

end Go.Proofs.YtbigoifpfkdkjaaGreatDoor.Sc
namespace Go.Proofs.YtbigoifpfkdkjaaGreatDoor.Sc
open Go Go.RowKit Go.ChangeShapes Go.WideShapes Go.ChangeAt
set_option maxRecDepth 100000

theorem issuer_any (b : Nat) (l : Lf) (vp ve : Value) (w : World) (hb : Box w 116 b l vp ve) :
    Calls Tryz.prog 108 #[.pointer (some ⟨b, 0, none⟩)] w (Ret w (.string l.c.s3)) := by
  have d := hb.cell 3
  rw [Lf.cell3] at d
  clear hb
  generalize l.c.s3 = v at *
  go_enter Tryz.func108, Tryz.ntmps108
  go_wp2
  go_ret
  exact ⟨rfl, Below.refl _ _⟩

theorem confirmer_any (b : Nat) (l : Lf) (vp ve : Value) (w : World) (hb : Box w 116 b l vp ve) :
    Calls Tryz.prog 105 #[.pointer (some ⟨b, 0, none⟩)] w (Ret w (.string l.c.s4)) := by
  have d := hb.cell 4
  rw [Lf.cell4] at d
  clear hb
  generalize l.c.s4 = v at *
  go_enter Tryz.func105, Tryz.ntmps105
  go_wp2
  go_ret
  exact ⟨rfl, Below.refl _ _⟩

theorem beneficiary_any (b : Nat) (l : Lf) (vp ve : Value) (w : World) (hb : Box w 116 b l vp ve) :
    Calls Tryz.prog 106 #[.pointer (some ⟨b, 0, none⟩)] w (Ret w (.string l.c.s2)) := by
  have d := hb.cell 2
  rw [Lf.cell2] at d
  clear hb
  generalize l.c.s2 = v at *
  go_enter Tryz.func106, Tryz.ntmps106
  go_wp2
  go_ret
  exact ⟨rfl, Below.refl _ _⟩

theorem always_any (v : Value) (w : World) : Calls Tryz.prog 107 #[v] w (Ret w (.bool true)) := by
  go_enter Tryz.func107, Tryz.ntmps107
  go_wp2
  go_ret
  exact ⟨rfl, Below.refl _ _⟩

theorem answers_any (b : Nat) (l : Lf) (vp ve : Value) (w : World) (hb : Box w 116 b l vp ve) :
    Calls Tryz.prog 55 #[.pointer (some ⟨b, 0, none⟩)] w (Ret w (.string l.bank)) := by
  obtain ⟨d1, d2, d3, d4, d18, d19, d20⟩ := hb.reads
  rw [Lf.bank]
  clear hb d1 d2 d18 d20
  generalize l.c.s3 = s3 at *
  generalize l.c.s4 = s4 at *
  cases hc : l.cf <;> rw [hc] at d19 <;> clear hc <;> (
    go_enter Tryz.func55, Tryz.ntmps55
    go_wp2
    go_ret
    exact ⟨rfl, Below.refl _ _⟩)

theorem payer_any (b : Nat) (l : Lf) (vp ve : Value) (w : World) (hb : Box w 116 b l vp ve) :
    Calls Tryz.prog 56 #[.pointer (some ⟨b, 0, none⟩)] w (Ret w (.string l.payer)) := by
  obtain ⟨d1, d2, d3, d4, d18, d19, d20⟩ := hb.reads
  rw [Lf.payer]
  clear hb d2 d18 d4
  generalize l.c.s3 = s3 at *
  generalize l.c.s1 = s1 at *
  cases hc : l.cf <;> cases hr : l.rp <;> rw [hc] at d19 <;> rw [hr] at d20 <;> clear hc hr <;> (
    go_enter Tryz.func56, Tryz.ntmps56
    go_wp2
    go_ret
    exact ⟨rfl, Below.refl _ _⟩)

theorem confirmable_any (b : Nat) (l : Lf) (vp ve : Value) (w : World) (hb : Box w 116 b l vp ve) :
    Calls Tryz.prog 104 #[.pointer (some ⟨b, 0, none⟩)] w (Ret w (.bool (!l.cf && !l.c.s4.toList.isEmpty))) := by
  obtain ⟨d1, d2, d3, d4, d18, d19, d20⟩ := hb.reads
  clear hb d1 d2 d3 d18 d20
  generalize l.c.s4 = s4 at *
  cases hc : l.cf <;> rw [hc] at d19 <;> cases he : s4.toList.isEmpty <;> clear hc <;> (
    go_enter Tryz.func104, Tryz.ntmps104
    go_wp2
    go_ret
    exact ⟨rfl, Below.refl _ _⟩)

/-- Who owes, of the program: the one of the reference's, and of the draw's sum. -/
def Lf.owes (l : Lf) (p : ByteArray) : Bool := (decide (l.st = 4) || decide (l.st = 5)) && decide (p = l.debtor)
theorem owes_any (b : Nat) (l : Lf) (vp ve : Value) (p : ByteArray) (w : World) (hb : Box w 116 b l vp ve) :
    Calls Tryz.prog 11 #[.pointer (some ⟨b, 0, none⟩), .string p] w (Ret w (.tuple #[.int .i64 (if l.owes p then l.now.amt else 0), .bool (l.owes p)])) := by
  obtain ⟨d1, d2, d3, d4, d18, d19, d20⟩ := hb.reads
  have d22 : w.cell? ⟨b, 22, none⟩ = some (.int .i64 l.now.amt) := hb.cell 22
  have hA := answers_any b l vp ve w hb
  have hP := payer_any b l vp ve w hb
  obtain ⟨x, hx⟩ : ∃ x, x = l.owes p := ⟨_, rfl⟩
  rw [← hx]
  simp only [Lf.owes] at hx
  clear d1 d2 d3 d4 d19 d20
  generalize l.now.amt = m at *
  by_cases h4 : l.st = 4
  · have t4 : (l.st == 4) = true := by simp [h4]
    simp only [show l.debtor = l.bank by rw [Lf.debtor, if_pos h4], h4, decide_true, Bool.true_or, Bool.true_and] at hx
    clear h4 hP
    generalize l.st = st at *
    by_cases he : p = l.bank
    · have q1 := str_yes he
      rw [decide_eq_true he] at hx
      subst hx
      clear he
      have HB := Lib.hid hb
      clear hb
      go_enter Tryz.func11, Tryz.ntmps11
      go_wp2_with (first
        | ((with_reducible refine hA.mono ?_); rintro e w2 ⟨rfl, hb2⟩; have d22' := (hb2.cell (p := ⟨b, 22, none⟩) (lt_blk HB.out)).trans d22)
        | fail)
      go_ret2
      exact ⟨rfl, hb2⟩
    · have q1 := str_no he
      rw [decide_eq_false he] at hx
      subst hx
      clear he
      go_enter Tryz.func11, Tryz.ntmps11
      go_wp2_with (first
        | ((with_reducible refine hA.mono ?_); rintro e w2 ⟨rfl, hb2⟩)
        | fail)
      go_ret2
      exact ⟨rfl, hb2⟩
  · have t4 : (l.st == 4) = false := by simp [h4]
    by_cases h5 : l.st = 5
    · have t5 : (l.st == 5) = true := by simp [h5]
      simp only [show l.debtor = l.payer by rw [Lf.debtor, if_neg h4, if_pos h5], h5, decide_true, Bool.or_true, Bool.true_and] at hx
      clear h4 h5 hA
      generalize l.st = st at *
      by_cases he : p = l.payer
      · have q1 := str_yes he
        rw [decide_eq_true he] at hx
        subst hx
        clear he
        have HB := Lib.hid hb
        clear hb
        go_enter Tryz.func11, Tryz.ntmps11
        go_wp2_with (first
          | ((with_reducible refine hP.mono ?_); rintro e w2 ⟨rfl, hb2⟩; have d22' := (hb2.cell (p := ⟨b, 22, none⟩) (lt_blk HB.out)).trans d22)
          | fail)
        go_ret2
        exact ⟨rfl, hb2⟩
      · have q1 := str_no he
        rw [decide_eq_false he] at hx
        subst hx
        clear he
        go_enter Tryz.func11, Tryz.ntmps11
        go_wp2_with (first
          | ((with_reducible refine hP.mono ?_); rintro e w2 ⟨rfl, hb2⟩)
          | fail)
        go_ret2
        exact ⟨rfl, hb2⟩
    · have t5 : (l.st == 5) = false := by simp [h5]
      simp only [h4, h5, decide_false, Bool.or_false, Bool.false_and] at hx
      subst hx
      clear h4 h5 hA hP hb d22
      generalize l.st = st at *
      go_enter Tryz.func11, Tryz.ntmps11
      go_wp2
      go_ret2
      exact ⟨rfl, Below.refl _ _⟩
end Go.Proofs.YtbigoifpfkdkjaaGreatDoor.Sc
namespace Go.Proofs.YtbigoifpfkdkjaaGreatDoor.Sc
open Go Go.RowKit Go.ChangeShapes Go.WideShapes Go.ChangeAt
set_option maxRecDepth 100000

end Go.Proofs.YtbigoifpfkdkjaaGreatDoor.Sc
namespace Go.Proofs.YtbigoifpfkdkjaaGreatDoor.Sc
open Go Go.RowKit Go.ChangeShapes Go.WideShapes Go.ChangeAt
set_option maxRecDepth 100000

/-- An event that may be told. -/
def Ev.ok (e : Ev) : Bool := (decide (0 ≤ e.kind) && decide (e.kind ≤ 7)) && nameOk e.party && (decide (0 ≤ e.day) && decide (e.day ≤ 1048576)) && (if e.kind = 2 then decide (1 ≤ e.amt) && decide (e.amt ≤ 1099511627776) else decide (e.amt = 0))

set_option maxHeartbeats 2000000 in
theorem wrong_any (e : Ev) (w : World) : Calls Tryz.prog 43 #[.agg e.cells] w (RetB w (!e.ok)) := by
  obtain ⟨kind, party, day, amt⟩ := e
  simp only [Ev.cells]
  have hN := markName_any party
  obtain ⟨x, hx⟩ : ∃ x, x = Ev.ok ⟨kind, party, day, amt⟩ := ⟨_, rfl⟩
  rw [← hx]
  simp only [Ev.ok] at hx
  generalize nameOk party = bn at *
  have HX := Lib.hid hx
  clear hx
  have HO := Lib.hid (one_below w (.cells #[.int .i64 kind, .string party, .int .i64 day, .int .i64 amt] 39))
  have h0 : Hid ((w.alloc (.cells #[.int .i64 kind, .string party, .int .i64 day, .int .i64 amt] 39)).heap[w.heap.size]? = some (.cells #[.int .i64 kind, .string party, .int .i64 day, .int .i64 amt] 39 (0, 0))) := Lib.hid (heap_alloc_new w _)
  cases bn
  all_goals
    go_enter Tryz.func43, Tryz.ntmps43
    go_wp2_with (first
      | ((with_reducible refine (hN _).mono ?_); rintro e w2 ⟨rfl, hb2⟩; have h2 := blk hb2 (by simp) h0.out; have c0 : w2.cell? ⟨w.heap.size, 0, none⟩ = some (.int .i64 kind) := cell_blk h2 0; have c2 : w2.cell? ⟨w.heap.size, 2, none⟩ = some (.int .i64 day) := cell_blk h2 2; have c3 : w2.cell? ⟨w.heap.size, 3, none⟩ = some (.int .i64 amt) := cell_blk h2 3; clear h2; have HB2 := Lib.hid (below_new hb2); clear hb2)
      | fail)
    all_goals
      go_ret
      refine retB ?_ (by first | exact HB2.out | exact HO.out)
      rw [HX.out]
      clear HX HO h0
      first
        | (simp; omega)
        | (by_cases h2 : kind = 2
           · subst h2
             simp at *
             first
               | done
               | (rw [Bool.eq_iff_iff]; simp; omega)
               | omega
           · simp [h2] at *
             first
               | done
               | (rw [Bool.eq_iff_iff]; simp; omega)
               | omega)
end Go.Proofs.YtbigoifpfkdkjaaGreatDoor.Sc
namespace Go.Proofs.YtbigoifpfkdkjaaGreatDoor.Sc
open Go Go.RowKit Go.ChangeShapes Go.WideShapes Go.ChangeAt
set_option maxRecDepth 100000

theorem Box.set {w : World} {t : TypeId} {b : Nat} {l : Lf} {vp ve : Value} (h : Box w t b l vp ve) (o : Nat) (u : Value) : (w.setCell ⟨b, o, none⟩ u).heap[b]? = some (.cells ((l.cells vp ve).setIfInBounds o u) t (0, 0)) := by
  unfold Box at h
  simp [World.setCell, Array.getElem?_modify, h]
theorem Box.below {w w' : World} {t : TypeId} {b : Nat} {l : Lf} {vp ve : Value} (h : Box w t b l vp ve) (k : Below w.heap.size w w') : Box w' t b l vp ve := blk k (lt_blk h) h

/-- What a closure did: it answered c, and the life's box holds l'. -/
def Did (w : World) (b : Nat) (c : Int) (l' : Lf) (vp ve : Value) (e : Ending) (w' : World) : Prop := e = .returned (.int .i64 c) ∧ Keep (fun x => x = b) w w' ∧ Box w' 116 b l' vp ve

theorem confirm_any (b : Nat) (l : Lf) (vp ve : Value) (ev : Ev) (w : World) (hb : Box w 116 b l vp ve) :
    Calls Tryz.prog 110 #[.pointer (some ⟨b, 0, none⟩), .agg ev.cells] w (Did w b 0 { l with cf := true } vp ve) := by
  simp only [Ev.cells]
  have HB := Lib.hid (hb.below (one_below w (.cells #[.int .i64 ev.kind, .string ev.party, .int .i64 ev.day, .int .i64 ev.amt] 39)))
  have HK := Lib.hid (Keep.alloc (fun x => x = b) w (.cells #[.int .i64 ev.kind, .string ev.party, .int .i64 ev.day, .int .i64 ev.amt] 39))
  have d19 : (w.alloc (.cells #[.int .i64 ev.kind, .string ev.party, .int .i64 ev.day, .int .i64 ev.amt] 39)).cell? ⟨b, 19, none⟩ = some (.bool l.cf) := HB.out.cell 19
  have f19 : (w.alloc (.cells #[.int .i64 ev.kind, .string ev.party, .int .i64 ev.day, .int .i64 ev.amt] 39)).frozen? ⟨b, 19, none⟩ = false := free_blk HB.out 19
  clear hb
  generalize ev.kind = k0 at *
  generalize ev.party = k1 at *
  generalize ev.day = k2 at *
  generalize ev.amt = k3 at *
  go_enter Tryz.func110, Tryz.ntmps110
  go_wp2
  go_ret
  exact ⟨rfl, HK.out.trans (Keep.of_grown (grown_set _ b 19 _)) (fun i _ h => by simpa using h.symm), HB.out.set 19 (.bool true)⟩

theorem to_any (b : Nat) (l : Lf) (vp ve : Value) (ev : Ev) (x : Int) (bx : Nat) (w : World) (hb : Box w 116 b l vp ve) (hx : w.cell? ⟨bx, 0, none⟩ = some (.int .i64 x)) (hl : bx < w.heap.size) :
    Calls Tryz.prog 160 #[.pointer (some ⟨b, 0, none⟩), .agg ev.cells, .pointer (some ⟨bx, 0, none⟩)] w (Did w b 0 { l with st := x } vp ve) := by
  simp only [Ev.cells]
  have HB := Lib.hid (hb.below (one_below w (.cells #[.int .i64 ev.kind, .string ev.party, .int .i64 ev.day, .int .i64 ev.amt] 39)))
  have HK := Lib.hid (Keep.alloc (fun x => x = b) w (.cells #[.int .i64 ev.kind, .string ev.party, .int .i64 ev.day, .int .i64 ev.amt] 39))
  have d18 : (w.alloc (.cells #[.int .i64 ev.kind, .string ev.party, .int .i64 ev.day, .int .i64 ev.amt] 39)).cell? ⟨b, 18, none⟩ = some (.int .i64 l.st) := HB.out.cell 18
  have f18 : (w.alloc (.cells #[.int .i64 ev.kind, .string ev.party, .int .i64 ev.day, .int .i64 ev.amt] 39)).frozen? ⟨b, 18, none⟩ = false := free_blk HB.out 18
  have dx : (w.alloc (.cells #[.int .i64 ev.kind, .string ev.party, .int .i64 ev.day, .int .i64 ev.amt] 39)).cell? ⟨bx, 0, none⟩ = some (.int .i64 x) := ((one_below w (.cells #[.int .i64 ev.kind, .string ev.party, .int .i64 ev.day, .int .i64 ev.amt] 39)).cell (p := ⟨bx, 0, none⟩) hl).trans hx
  clear hx
  clear hb
  generalize ev.kind = k0 at *
  generalize ev.party = k1 at *
  generalize ev.day = k2 at *
  generalize ev.amt = k3 at *
  go_enter Tryz.func160, Tryz.ntmps160
  go_wp2
  go_ret
  exact ⟨rfl, HK.out.trans (Keep.of_grown (grown_set _ b 18 _)) (fun i _ h => by simpa using h.symm), HB.out.set 18 (.int .i64 x)⟩

def Lf.repay (l : Lf) : Lf := if l.cf && !l.rp then { l with rp := true } else { l with st := 6 }
theorem reimburse_any (b : Nat) (l : Lf) (vp ve : Value) (ev : Ev) (w : World) (hb : Box w 116 b l vp ve) :
    Calls Tryz.prog 114 #[.pointer (some ⟨b, 0, none⟩), .agg ev.cells] w (Did w b 0 l.repay vp ve) := by
  simp only [Ev.cells]
  have HB := Lib.hid (hb.below (one_below w (.cells #[.int .i64 ev.kind, .string ev.party, .int .i64 ev.day, .int .i64 ev.amt] 39)))
  have HK := Lib.hid (Keep.alloc (fun x => x = b) w (.cells #[.int .i64 ev.kind, .string ev.party, .int .i64 ev.day, .int .i64 ev.amt] 39))
  have d18 : (w.alloc (.cells #[.int .i64 ev.kind, .string ev.party, .int .i64 ev.day, .int .i64 ev.amt] 39)).cell? ⟨b, 18, none⟩ = some (.int .i64 l.st) := HB.out.cell 18
  have d19 : (w.alloc (.cells #[.int .i64 ev.kind, .string ev.party, .int .i64 ev.day, .int .i64 ev.amt] 39)).cell? ⟨b, 19, none⟩ = some (.bool l.cf) := HB.out.cell 19
  have d20 : (w.alloc (.cells #[.int .i64 ev.kind, .string ev.party, .int .i64 ev.day, .int .i64 ev.amt] 39)).cell? ⟨b, 20, none⟩ = some (.bool l.rp) := HB.out.cell 20
  have f18 : (w.alloc (.cells #[.int .i64 ev.kind, .string ev.party, .int .i64 ev.day, .int .i64 ev.amt] 39)).frozen? ⟨b, 18, none⟩ = false := free_blk HB.out 18
  have f20 : (w.alloc (.cells #[.int .i64 ev.kind, .string ev.party, .int .i64 ev.day, .int .i64 ev.amt] 39)).frozen? ⟨b, 20, none⟩ = false := free_blk HB.out 20
  clear hb
  generalize ev.kind = k0 at *
  generalize ev.party = k1 at *
  generalize ev.day = k2 at *
  generalize ev.amt = k3 at *
  obtain ⟨c, st, cf, rp, now, paid, evs⟩ := l
  simp only at d18 d19 d20
  cases cf <;> cases rp
  all_goals
    go_enter Tryz.func114, Tryz.ntmps114
    go_wp2
    go_ret
    first
      | exact ⟨rfl, HK.out.trans (Keep.of_grown (grown_set _ b 18 _)) (fun i _ h => (Option.some.inj h).symm), HB.out.set 18 (.int .i64 6)⟩
      | exact ⟨rfl, HK.out.trans (Keep.of_grown (grown_set _ b 20 _)) (fun i _ h => (Option.some.inj h).symm), HB.out.set 20 (.bool true)⟩

end Go.Proofs.YtbigoifpfkdkjaaGreatDoor.Sc
namespace Go.Proofs.YtbigoifpfkdkjaaGreatDoor.Sc
open Go Go.RowKit Go.ChangeShapes Go.WideShapes Go.ChangeAt
set_option maxRecDepth 100000

theorem infoEv : (Tryz.prog.info? 39).map (fun i => (i.zero, i.size, i.bytes)) = some (some (.agg #[.int .i64 0, .string ⟨#[]⟩, .int .i64 0, .int .i64 0]), 4, 40) := by kernel_rfl
/-- The cells of events. -/
def evCells (l : List Ev) : List Value := l.flatMap Ev.row
theorem evCells_flat (l : List Ev) : evCells l = (l.map Ev.row).flatten := by simp [evCells, List.flatMap]
theorem evCells_append (a b : List Ev) : evCells (a ++ b) = evCells a ++ evCells b := by simp [evCells]
theorem ev_rows (l : List Ev) : ∀ r ∈ l.map Ev.row, r.length = 4 := by intro r hr; obtain ⟨d, _, rfl⟩ := List.mem_map.1 hr; rfl
theorem ev_one (e : Ev) : ∀ u ∈ e.cells.toList, u.oneCell' = true := by
  intro u hu
  simp only [Ev.cells, List.mem_cons, List.not_mem_nil, or_false] at hu
  rcases hu with rfl | rfl | rfl | rfl <;> rfl
theorem own_evs {w : World} {B n : Nat} {v : Value} {l : List Ev} (h : w.ownsRow B 39 4 v n (evCells l)) (hn : n = l.length) : Sl w 4 v (l.map Ev.row) := by
  rw [evCells_flat] at h
  exact own_sl h (by rw [List.length_map]; exact hn) (ev_rows l)
theorem ownsRow_shape {w : World} {B n sz : Nat} {e : TypeId} {v : Value} {xs : List Value} (h : w.ownsRow B e sz v n xs) : ∃ a c, v = .slice a n c := by
  rcases h.2 with ⟨rfl, rfl⟩ | ⟨g, cap, cur, rfl, _⟩
  · exact ⟨_, _, rfl⟩
  · exact ⟨_, _, rfl⟩
/-- A row lies in no block of another type. -/
theorem row_off {w : World} {B n sz b : Nat} {e T : TypeId} {v : Value} {xs : List Value} {cs : Array Value} {fr : Nat × Nat} (h : w.ownsRow B e sz v n xs) (hb : w.heap[b]? = some (.cells cs T fr)) (hne : e ≠ T) : v.ownBlock ≠ some b := by
  intro hv
  rcases h.2 with ⟨rfl, _⟩ | ⟨g, cap, cur, rfl, _, hh, _⟩
  · cases hv
  · obtain rfl : g = b := Option.some.inj hv
    rw [hb] at hh
    simp only [Option.some.injEq, Obj.cells.injEq] at hh
    exact hne hh.2.1.symm
theorem rows_off {w : World} {B B' n n' sz sz' : Nat} {e e' : TypeId} {v v' : Value} {xs xs' : List Value} (h : w.ownsRow B e sz v n xs) (h' : w.ownsRow B' e' sz' v' n' xs') (hne : e ≠ e') : ∀ b, v.ownBlock = some b → v'.ownBlock ≠ some b := by
  intro b hv
  rcases h.2 with ⟨rfl, _⟩ | ⟨g, cap, cur, rfl, _, hh, _⟩
  · cases hv
  · obtain rfl : g = b := Option.some.inj hv
    exact row_off h' hh hne.symm

/-- Box b is the life l; its rows are vp and ve; its blocks lie in F. -/
structure LifeW (w : World) (t : TypeId) (F : Nat → Prop) (b : Nat) (l : Lf) (vp ve : Value) : Prop where
  box : Box w t b l vp ve
  paid : w.ownsRow 0 42 2 vp l.paid.length (drCells l.paid)
  evs : w.ownsRow 0 39 4 ve l.evs.length (evCells l.evs)
  fp : ∀ g, vp.ownBlock = some g → F g
  fe : ∀ g, ve.ownBlock = some g → F g
  own : F b
  lt : ∀ k, F k → k < w.heap.size
def Lv (w : World) (t : TypeId) (F : Nat → Prop) (b : Nat) (l : Lf) : Prop := ∃ vp ve, LifeW w t F b l vp ve

theorem LifeW.keep {w w' : World} {t : TypeId} {F G : Nat → Prop} {b : Nat} {l : Lf} {vp ve : Value} (h : LifeW w t F b l vp ve) (k : Keep G w w') (hG : ∀ b, F b → ¬ G b) : LifeW w' t F b l vp ve :=
  ⟨k.blk h.box (hG _ h.own), ownsRow_keep h.paid k (fun g hg => hG _ (h.fp g hg)), ownsRow_keep h.evs k (fun g hg => hG _ (h.fe g hg)), h.fp, h.fe, h.own, fun i hi => Nat.lt_of_lt_of_le (h.lt i hi) k.size⟩
theorem LifeW.below {w w' : World} {t : TypeId} {F : Nat → Prop} {b : Nat} {l : Lf} {vp ve : Value} (h : LifeW w t F b l vp ve) (k : Below w.heap.size w w') : LifeW w' t F b l vp ve := h.keep (Keep.of_below (F := fun _ => False) k) (fun _ _ h => h)
theorem Lv.keep {w w' : World} {t : TypeId} {F G : Nat → Prop} {b : Nat} {l : Lf} (h : Lv w t F b l) (k : Keep G w w') (hG : ∀ b, F b → ¬ G b) : Lv w' t F b l := by
  obtain ⟨vp, ve, h⟩ := h
  exact ⟨vp, ve, h.keep k hG⟩
theorem Lv.below {w w' : World} {t : TypeId} {F : Nat → Prop} {b : Nat} {l : Lf} (h : Lv w t F b l) (k : Below w.heap.size w w') : Lv w' t F b l := h.keep (Keep.of_below (F := fun _ => False) k) (fun _ _ h => h)
theorem Lv.lt {w : World} {t : TypeId} {F : Nat → Prop} {b : Nat} {l : Lf} (h : Lv w t F b l) : ∀ k, F k → k < w.heap.size := by
  obtain ⟨_, _, h⟩ := h
  exact h.lt
theorem Lv.stands {w0 w w' : World} {t : TypeId} {F G : Nat → Prop} {b : Nat} {l : Lf} (h : Lv w t F b l) (h1 : Keep G w0 w) (h2 : Keep G w0 w') (hs : w.heap.size ≤ w'.heap.size) (hk : ∀ b, F b → w'.heap[b]? = w.heap[b]?) : Lv w' t F b l :=
  h.keep (G := fun b => ¬ F b) ⟨h2.os.trans h1.os.symm, h2.tape.trans h1.tape.symm, h2.output.trans h1.output.symm, hs, fun k _ hn => hk k (Classical.not_not.1 hn)⟩ (fun _ hb hn => hn hb)

/-- Behind a call that turns a life: its answer; the life as it stands now. -/
def AfterL (w : World) (t : TypeId) (F : Nat → Prop) (n : Int) (b : Nat) (l : Lf) (e : Ending) (w' : World) : Prop :=
  e = .returned (.int .i64 n) ∧ Keep F w w' ∧ ∃ F', Lv w' t F' b l ∧ ∀ k, F' k → F k ∨ w.heap.size ≤ k
theorem afterL_same {w w' : World} {t : TypeId} {F : Nat → Prop} {n m : Int} {b : Nat} {l : Lf} (h : Lv w t F b l) (hb : Below w.heap.size w w') (hn : m = n) : AfterL w t F n b l (.returned (.int .i64 m)) w' := by
  subst hn
  exact ⟨rfl, .of_below hb, F, h.below hb, fun k h => .inl h⟩
/-- What turned the box alone. -/
theorem lw_turn {w w' : World} {t : TypeId} {F : Nat → Prop} {b : Nat} {l l' : Lf} {vp ve : Value} (h : LifeW w t F b l vp ve) (k : Keep (fun x => x = b) w w') (hb : Box w' t b l' vp ve) (hp : l'.paid = l.paid) (he : l'.evs = l.evs) (h1 : 42 ≠ t) (h2 : 39 ≠ t) : LifeW w' t F b l' vp ve :=
  ⟨hb, by rw [hp]; exact ownsRow_keep h.paid k (fun g hg e => row_off h.paid h.box h1 (e ▸ hg)), by rw [he]; exact ownsRow_keep h.evs k (fun g hg e => row_off h.evs h.box h2 (e ▸ hg)), h.fp, h.fe, h.own, fun i hi => Nat.lt_of_lt_of_le (h.lt i hi) k.size⟩
theorem did_after {w w' : World} {F : Nat → Prop} {b : Nat} {l l' : Lf} {vp ve : Value} {c : Int} {e : Ending} (h : LifeW w 116 F b l vp ve) (hd : Did w b c l' vp ve e w') (hp : l'.paid = l.paid) (he : l'.evs = l.evs) :
    AfterL w 116 F c b l' e w' := by
  obtain ⟨h1, h2, h3⟩ := hd
  exact ⟨h1, h2.mono (fun i _ hi => by subst hi; exact h.own), F, ⟨vp, ve, lw_turn h h2 h3 hp he (by decide) (by decide)⟩, fun k hk => .inl hk⟩
end Go.Proofs.YtbigoifpfkdkjaaGreatDoor.Sc
