/- What stays while some blocks may be written: a frame told by the blocks that may turn. No program in sight. A credit's life, of the program and of the reference: 25 cells that read alike. The reference's life: who owes, who may do what. Texts compared; the letters of a name. The program's life: its questions and its rules' closures. mark.Name and the document's word of layer 6. The document's word of layer 6; mark.Name: MarkN. Whether an event is none. -/
import Derived.Test.YtbigoifpfkdkjaaGreatDoorTd07
import Derived.Test.YtbigoifpfkdkjaaGreatDoorTd05
import Derived.Test.YtbigoifpfkdkjaaGreatDoorTd06
import Derived.Test.YtbigoifpfkdkjaaGreatDoorTd01
namespace Go.Proofs.YtbigoifpfkdkjaaGreatDoor.Sc
open Go Go.RowKit
set_option maxRecDepth 100000

/-- From w to w' no block has turned but those of F and new ones. -/
structure Keep (F : Nat → Prop) (w w' : World) : Prop where
  os : w'.os = w.os
  tape : w'.tape = w.tape
  output : w'.output = w.output
  size : w.heap.size ≤ w'.heap.size
  block : ∀ k, k < w.heap.size → ¬ F k → w'.heap[k]? = w.heap[k]?

theorem Keep.refl (F : Nat → Prop) (w : World) : Keep F w w := ⟨rfl, rfl, rfl, Nat.le_refl _, fun _ _ _ => rfl⟩
theorem Keep.trans {F G : Nat → Prop} {a b c : World} (h : Keep F a b) (k : Keep G b c) (hG : ∀ i, i < a.heap.size → G i → F i) : Keep F a c :=
  ⟨k.os.trans h.os, k.tape.trans h.tape, k.output.trans h.output, Nat.le_trans h.size k.size, fun i hi hF => (k.block i (Nat.lt_of_lt_of_le hi h.size) (fun g => hF (hG i hi g))).trans (h.block i hi hF)⟩
theorem Keep.mono {F G : Nat → Prop} {a b : World} (h : Keep F a b) (hG : ∀ i, i < a.heap.size → F i → G i) : Keep G a b :=
  ⟨h.os, h.tape, h.output, h.size, fun i hi hF => h.block i hi (fun g => hF (hG i hi g))⟩
theorem Keep.of_below {F : Nat → Prop} {w w' : World} (h : Below w.heap.size w w') : Keep F w w' := ⟨h.os, h.tape, h.output, h.size, fun k hk _ => h.block k hk⟩
theorem Keep.of_grown {w w' : World} {r : Option Nat} (h : w.grownBy w' r) : Keep (fun k => r = some k) w w' := ⟨h.os, h.tape, h.output, h.size, fun k hk hne => h.block k hk (fun e => hne e.symm)⟩
theorem Keep.alloc (F : Nat → Prop) (w : World) (o : Obj) : Keep F w (w.alloc o) := .of_below (one_below w o)
theorem Keep.drew (F : Nat → Prop) (w : World) (n : Nat) : Keep F w (w.drewN n) := ⟨rfl, rfl, rfl, Nat.le_refl _, fun _ _ _ => rfl⟩
theorem Keep.undrew {F : Nat → Prop} {w w' : World} (h : Keep F w.drew w') : Keep F w w' := ⟨h.os, h.tape, h.output, h.size, h.block⟩
theorem Keep.below {F : Nat → Prop} {B : Nat} {w w' : World} (h : Keep F w w') (hB : B ≤ w.heap.size) (hF : ∀ k, k < B → ¬ F k) : Below B w w' := ⟨h.os, h.tape, h.output, h.size, fun k hk => h.block k (Nat.lt_of_lt_of_le hk hB) (hF k hk)⟩
/-- .. behind what lies below B. -/
theorem Keep.behind {F : Nat → Prop} {B : Nat} {a w w' : World} (hb : Below B a w) (h : Keep F w w') (hB : B ≤ w.heap.size) (hF : ∀ k, k < B → ¬ F k) : Below B a w' := hb.trans (h.below hB hF)
theorem Keep.cell {F : Nat → Prop} {w w' : World} (h : Keep F w w') {b o : Nat} (hb : b < w.heap.size) (hF : ¬ F b) : w'.cell? ⟨b, o, none⟩ = w.cell? ⟨b, o, none⟩ := World.cell?_of_block (h.block b hb hF)
theorem Keep.blk {F : Nat → Prop} {w w' : World} (h : Keep F w w') {b : Nat} {o : Obj} (hb : w.heap[b]? = some o) (hF : ¬ F b) : w'.heap[b]? = some o := (h.block b (lt_blk hb) hF).trans hb

/-- No row lies in a block of F. -/
def Off (F : Nat → Prop) (v : Value) : Prop := ∀ b, v.ownBlock = some b → ¬ F b
theorem Sl.keep {F : Nat → Prop} {w w' : World} {sz : Nat} {v : Value} {xs : List (List Value)} (h : Sl w sz v xs) (k : Keep F w w') (hF : Off F v) : Sl w' sz v xs := by
  rcases h with h | ⟨b, off, cap, rfl, hlt, h1, h2, hc⟩
  · exact .inl h
  · exact .inr ⟨b, off, cap, rfl, Nat.lt_of_lt_of_le hlt k.size, h1, h2, fun i r hr j u hu => (k.cell hlt (hF b rfl)).trans (hc i r hr j u hu)⟩
theorem ownsRow_keep {F : Nat → Prop} {w w' : World} {B n : Nat} {e : TypeId} {size : Nat} {v : Value} {xs : List Value} (h : w.ownsRow B e size v n xs) (k : Keep F w w') (hF : Off F v) : w'.ownsRow B e size v n xs := by
  obtain ⟨h1, h2⟩ := h
  refine ⟨h1, ?_⟩
  rcases h2 with h2 | ⟨g, cap, cur, rfl, hg, hh, r⟩
  · exact .inl h2
  · exact .inr ⟨g, cap, cur, rfl, hg, k.blk hh (hF g rfl), r⟩
theorem ownsRow_below {w w' : World} {B n : Nat} {e : TypeId} {size : Nat} {v : Value} {xs : List Value} (h : w.ownsRow B e size v n xs) (k : Below w.heap.size w w') : w'.ownsRow B e size v n xs :=
  ownsRow_keep h (Keep.of_below (F := fun _ => False) k) (fun _ _ h => h)
theorem MapAt.keep {F : Nat → Prop} {w w' : World} {b : Nat} {l : Mp.Ents} (h : Mp.MapAt w b l) (k : Keep F w w') (hF : ¬ F b) : Mp.MapAt w' b l := h.same (k.block b h.lt hF)
theorem IterAt.keep {F : Nat → Prop} {w w' : World} {r b : Nat} {l todo : Mp.Ents} (h : Mp.IterAt w r b l todo) (k : Keep F w w') (hr : ¬ F r) (hb : ¬ F b) : Mp.IterAt w' r b l todo := h.same (k.block r h.lt.1 hr) (k.block b h.lt.2 hb)
theorem ownsRow_off {w : World} {B n : Nat} {e : TypeId} {size : Nat} {v : Value} {xs : List Value} {F : Nat → Prop} (h : w.ownsRow B e size v n xs) (hF : ∀ b, B ≤ b → b < w.heap.size → ¬ F b) : Off F v := fun b hb => hF b (h.lt b hb).1 (h.lt b hb).2
theorem Sl.off_old {w : World} {sz : Nat} {v : Value} {xs : List (List Value)} {F : Nat → Prop} (h : Sl w sz v xs) (h0 : xs ≠ []) (hF : ∀ b, b < w.heap.size → ¬ F b) : Off F v := by
  rcases h with ⟨rfl, _⟩ | ⟨b, off, cap, rfl, hlt, _⟩
  · exact absurd rfl h0
  · intro b' hb'
    obtain rfl : b = b' := Option.some.inj hb'
    exact hF _ hlt
end Go.Proofs.YtbigoifpfkdkjaaGreatDoor.Sc
namespace Go.Proofs.YtbigoifpfkdkjaaGreatDoor.Sc
open Go Go.RowKit Go.ChangeShapes Go.WideShapes Go.ChangeAt
set_option maxRecDepth 100000

/-- An event. -/
structure Ev where
  kind : Int
  party : ByteArray
  day : Int
  amt : Int
deriving DecidableEq
def Ev.cells (e : Ev) : Array Value := #[.int .i64 e.kind, .string e.party, .int .i64 e.day, .int .i64 e.amt]
def Ev.row (e : Ev) : List Value := [.int .i64 e.kind, .string e.party, .int .i64 e.day, .int .i64 e.amt]

/-- A life: its credit, its state, whether it is confirmed and repaid, what was drawn, what was paid, what happened. -/
structure Lf where
  c : Cr
  st : Int
  cf : Bool
  rp : Bool
  now : Dr
  paid : List Dr
  evs : List Ev

def Lf.cells (l : Lf) (vp ve : Value) : Array Value := #[.string l.c.s0, .string l.c.s1, .string l.c.s2, .string l.c.s3, .string l.c.s4, .string l.c.s5, .string l.c.s6, .string l.c.cur, .int .i64 l.c.sum, .int .i64 l.c.above, .int .i64 l.c.below, .int .i64 l.c.latest, .int .i64 l.c.expiry, .int .i64 l.c.within, .int .i64 l.c.tenor, .bool l.c.part, .bool l.c.change, .slice l.c.na l.c.nl l.c.nc, .int .i64 l.st, .bool l.cf, .bool l.rp, .int .i64 l.now.day, .int .i64 l.now.amt, vp, ve]
@[go_sem] theorem Lf.cell0 (l : Lf) (vp ve : Value) : (l.cells vp ve)[0]? = some (.string l.c.s0) := rfl
@[go_sem] theorem Lf.cell1 (l : Lf) (vp ve : Value) : (l.cells vp ve)[1]? = some (.string l.c.s1) := rfl
@[go_sem] theorem Lf.cell2 (l : Lf) (vp ve : Value) : (l.cells vp ve)[2]? = some (.string l.c.s2) := rfl
@[go_sem] theorem Lf.cell3 (l : Lf) (vp ve : Value) : (l.cells vp ve)[3]? = some (.string l.c.s3) := rfl
@[go_sem] theorem Lf.cell4 (l : Lf) (vp ve : Value) : (l.cells vp ve)[4]? = some (.string l.c.s4) := rfl
@[go_sem] theorem Lf.cell5 (l : Lf) (vp ve : Value) : (l.cells vp ve)[5]? = some (.string l.c.s5) := rfl
@[go_sem] theorem Lf.cell6 (l : Lf) (vp ve : Value) : (l.cells vp ve)[6]? = some (.string l.c.s6) := rfl
@[go_sem] theorem Lf.cell7 (l : Lf) (vp ve : Value) : (l.cells vp ve)[7]? = some (.string l.c.cur) := rfl
@[go_sem] theorem Lf.cell8 (l : Lf) (vp ve : Value) : (l.cells vp ve)[8]? = some (.int .i64 l.c.sum) := rfl
@[go_sem] theorem Lf.cell9 (l : Lf) (vp ve : Value) : (l.cells vp ve)[9]? = some (.int .i64 l.c.above) := rfl
@[go_sem] theorem Lf.cell10 (l : Lf) (vp ve : Value) : (l.cells vp ve)[10]? = some (.int .i64 l.c.below) := rfl
@[go_sem] theorem Lf.cell11 (l : Lf) (vp ve : Value) : (l.cells vp ve)[11]? = some (.int .i64 l.c.latest) := rfl
@[go_sem] theorem Lf.cell12 (l : Lf) (vp ve : Value) : (l.cells vp ve)[12]? = some (.int .i64 l.c.expiry) := rfl
@[go_sem] theorem Lf.cell13 (l : Lf) (vp ve : Value) : (l.cells vp ve)[13]? = some (.int .i64 l.c.within) := rfl
@[go_sem] theorem Lf.cell14 (l : Lf) (vp ve : Value) : (l.cells vp ve)[14]? = some (.int .i64 l.c.tenor) := rfl
@[go_sem] theorem Lf.cell15 (l : Lf) (vp ve : Value) : (l.cells vp ve)[15]? = some (.bool l.c.part) := rfl
@[go_sem] theorem Lf.cell16 (l : Lf) (vp ve : Value) : (l.cells vp ve)[16]? = some (.bool l.c.change) := rfl
@[go_sem] theorem Lf.cell17 (l : Lf) (vp ve : Value) : (l.cells vp ve)[17]? = some (.slice l.c.na l.c.nl l.c.nc) := rfl
@[go_sem] theorem Lf.cell18 (l : Lf) (vp ve : Value) : (l.cells vp ve)[18]? = some (.int .i64 l.st) := rfl
@[go_sem] theorem Lf.cell19 (l : Lf) (vp ve : Value) : (l.cells vp ve)[19]? = some (.bool l.cf) := rfl
@[go_sem] theorem Lf.cell20 (l : Lf) (vp ve : Value) : (l.cells vp ve)[20]? = some (.bool l.rp) := rfl
@[go_sem] theorem Lf.cell21 (l : Lf) (vp ve : Value) : (l.cells vp ve)[21]? = some (.int .i64 l.now.day) := rfl
@[go_sem] theorem Lf.cell22 (l : Lf) (vp ve : Value) : (l.cells vp ve)[22]? = some (.int .i64 l.now.amt) := rfl
@[go_sem] theorem Lf.cell23 (l : Lf) (vp ve : Value) : (l.cells vp ve)[23]? = some (vp) := rfl
@[go_sem] theorem Lf.cell24 (l : Lf) (vp ve : Value) : (l.cells vp ve)[24]? = some (ve) := rfl
@[go_sem] theorem Lf.cells_size (l : Lf) (vp ve : Value) : (l.cells vp ve).size = 25 := rfl
@[go_sem] theorem Lf.set18 (l : Lf) (vp ve : Value) (x : Int) : (l.cells vp ve).setIfInBounds 18 (.int .i64 x) = ({ l with st := x } : Lf).cells vp ve := rfl
@[go_sem] theorem Lf.set19 (l : Lf) (vp ve : Value) (x : Bool) : (l.cells vp ve).setIfInBounds 19 (.bool x) = ({ l with cf := x } : Lf).cells vp ve := rfl
@[go_sem] theorem Lf.set20 (l : Lf) (vp ve : Value) (x : Bool) : (l.cells vp ve).setIfInBounds 20 (.bool x) = ({ l with rp := x } : Lf).cells vp ve := rfl
@[go_sem] theorem Lf.set23 (l : Lf) (vp ve x : Value) : (l.cells vp ve).setIfInBounds 23 x = l.cells x ve := rfl
@[go_sem] theorem Lf.set24 (l : Lf) (vp ve x : Value) : (l.cells vp ve).setIfInBounds 24 x = l.cells vp x := rfl
theorem Lf.credit (l : Lf) (vp ve : Value) : (l.cells vp ve).extract 0 18 = l.c.cells := by kernel_rfl

/-- Who answers, who owes, who may do a kind. -/
def Lf.bank (l : Lf) : ByteArray := if l.cf then l.c.s4 else l.c.s3
def Lf.payer (l : Lf) : ByteArray := if l.cf && !l.rp then l.c.s3 else l.c.s1
def Lf.debtor (l : Lf) : ByteArray := if l.st = 4 then l.bank else if l.st = 5 then l.payer else ⟨#[]⟩

/-- The box of a life. -/
def Box (w : World) (t : TypeId) (b : Nat) (l : Lf) (vp ve : Value) : Prop := w.heap[b]? = some (.cells (l.cells vp ve) t (0, 0))
theorem Box.cell {w : World} {t : TypeId} {b : Nat} {l : Lf} {vp ve : Value} (h : Box w t b l vp ve) (j : Nat) : w.cell? ⟨b, j, none⟩ = (l.cells vp ve)[j]? := cell_blk h j

end Go.Proofs.YtbigoifpfkdkjaaGreatDoor.Sc
namespace Go.Proofs.YtbigoifpfkdkjaaGreatDoor.Sc
open Go Go.RowKit Go.ChangeShapes Go.WideShapes Go.ChangeAt
set_option maxRecDepth 100000

/-- The cells that the reference's questions read. -/
structure Reads (w : World) (b : Nat) (l : Lf) : Prop where
  d1 : w.cell? ⟨b, 1, none⟩ = some (.string l.c.s1)
  d2 : w.cell? ⟨b, 2, none⟩ = some (.string l.c.s2)
  d3 : w.cell? ⟨b, 3, none⟩ = some (.string l.c.s3)
  d4 : w.cell? ⟨b, 4, none⟩ = some (.string l.c.s4)
  d18 : w.cell? ⟨b, 18, none⟩ = some (.int .i64 l.st)
  d19 : w.cell? ⟨b, 19, none⟩ = some (.bool l.cf)
  d20 : w.cell? ⟨b, 20, none⟩ = some (.bool l.rp)
theorem Box.reads {w : World} {t : TypeId} {b : Nat} {l : Lf} {vp ve : Value} (h : Box w t b l vp ve) : Reads w b l :=
  ⟨h.cell 1, h.cell 2, h.cell 3, h.cell 4, h.cell 18, h.cell 19, h.cell 20⟩

/-- Who may do a kind; empty: nobody, as it stands. -/
def Lf.who (l : Lf) (k : Int) : ByteArray :=
  if k = 0 then (if l.st = 0 then l.c.s3 else ⟨#[]⟩)
  else if k = 1 then (if l.st = 1 then (if l.cf then ⟨#[]⟩ else l.c.s4) else ⟨#[]⟩)
  else if k = 2 then (if l.st = 1 ∨ l.st = 3 ∨ l.st = 6 then l.c.s2 else ⟨#[]⟩)
  else if k = 3 ∨ k = 4 then (if l.st = 2 then l.bank else ⟨#[]⟩)
  else if k = 5 then (if l.st = 4 then l.bank else ⟨#[]⟩)
  else if k = 6 then (if l.st = 5 then l.debtor else ⟨#[]⟩)
  else if k = 7 then (if l.st = 0 ∨ l.st = 1 ∨ l.st = 3 ∨ l.st = 6 then l.c.s3 else ⟨#[]⟩) else ⟨#[]⟩

theorem eight {x : Int} (h0 : 0 ≤ x) (h7 : x ≤ 7) : x = 0 ∨ x = 1 ∨ x = 2 ∨ x = 3 ∨ x = 4 ∨ x = 5 ∨ x = 6 ∨ x = 7 := by omega

end Go.Proofs.YtbigoifpfkdkjaaGreatDoor.Sc
namespace Go.Proofs.YtbigoifpfkdkjaaGreatDoor.Sc
open Go Go.RowKit Go.ChangeShapes Go.WideShapes Go.ChangeAt
set_option maxRecDepth 100000

/-- Texts compared. -/
theorem str_beq (a b : ByteArray) : (a.toList == b.toList) = decide (a = b) := by
  by_cases h : a = b
  · subst h; simp
  · rw [decide_eq_false h]
    cases hb : a.toList == b.toList with
    | false => rfl
    | true => exact absurd (bytes_inj (by rw [← ByteArray.toList_eq, ← ByteArray.toList_eq]; exact eq_of_beq hb)) h
theorem str_yes {a b : ByteArray} (h : a = b) : (a.toList == b.toList) = true := by rw [str_beq, decide_eq_true h]
theorem str_no {a b : ByteArray} (h : ¬ a = b) : (a.toList == b.toList) = false := by rw [str_beq, decide_eq_false h]

def chI (c : Int) : Bool := !((decide (c < 97) || decide (122 < c)) && ((decide (c < 48) || decide (57 < c)) && c != 45))
def chOk (b : UInt8) : Bool := chI (b.toNat : Int)
def charsOk (l : List UInt8) : Bool := l.all chOk
def nameOk (s : ByteArray) : Bool := decide (1 ≤ s.size) && (decide (s.size ≤ 16) && charsOk s.data.toList)
theorem chars_step (s : ByteArray) (k : Nat) (h : k < s.size) : charsOk (s.data.toList.drop k) = (chI ((s[k]'h).toNat : Int) && charsOk (s.data.toList.drop (k + 1))) := by
  have hk : k < s.data.toList.length := by rw [Array.length_toList]; exact h
  rw [List.drop_eq_getElem_cons hk]
  have : s.data.toList[k] = s[k]'h := by simp [ByteArray.getElem_eq_getElem_data]
  rw [this]; rfl
theorem chars_end (s : ByteArray) (k : Nat) (h : s.size ≤ k) : charsOk (s.data.toList.drop k) = true := by
  rw [List.drop_eq_nil_of_le (by rw [Array.length_toList]; exact h)]; rfl

end Go.Proofs.YtbigoifpfkdkjaaGreatDoor.Sc
namespace Go.Proofs.YtbigoifpfkdkjaaGreatDoor.Sc
open Go Go.RowKit Go.ChangeShapes Go.WideShapes Go.ChangeAt
set_option maxRecDepth 100000

theorem issuer_any (b : Nat) (l : Lf) (vp ve : Value) (w : World) (hb : Box w 116 b l vp ve) :
    Calls Tryz.prog 108 #[.pointer (some ⟨b, 0, none⟩)] w (Ret w (.string l.c.s3)) := by
  have d := hb.cell 3
  rw [Lf.cell3] at d
  clear hb
  generalize l.c.s3 = v at *
  go_enter Tryz.func108, Tryz.ntmps108
  go_wp2
  go_ret
  exact ⟨rfl, Below.refl _ _⟩

theorem confirmer_any (b : Nat) (l : Lf) (vp ve : Value) (w : World) (hb : Box w 116 b l vp ve) :
    Calls Tryz.prog 105 #[.pointer (some ⟨b, 0, none⟩)] w (Ret w (.string l.c.s4)) := by
  have d := hb.cell 4
  rw [Lf.cell4] at d
  clear hb
  generalize l.c.s4 = v at *
  go_enter Tryz.func105, Tryz.ntmps105
  go_wp2
  go_ret
  exact ⟨rfl, Below.refl _ _⟩

theorem beneficiary_any (b : Nat) (l : Lf) (vp ve : Value) (w : World) (hb : Box w 116 b l vp ve) :
    Calls Tryz.prog 106 #[.pointer (some ⟨b, 0, none⟩)] w (Ret w (.string l.c.s2)) := by
  have d := hb.cell 2
  rw [Lf.cell2] at d
  clear hb
  generalize l.c.s2 = v at *
  go_enter Tryz.func106, Tryz.ntmps106
  go_wp2
  go_ret
  exact ⟨rfl, Below.refl _ _⟩

theorem always_any (v : Value) (w : World) : Calls Tryz.prog 107 #[v] w (Ret w (.bool true)) := by
  go_enter Tryz.func107, Tryz.ntmps107
  go_wp2
  go_ret
  exact ⟨rfl, Below.refl _ _⟩

theorem answers_any (b : Nat) (l : Lf) (vp ve : Value) (w : World) (hb : Box w 116 b l vp ve) :
    Calls Tryz.prog 55 #[.pointer (some ⟨b, 0, none⟩)] w (Ret w (.string l.bank)) := by
  obtain ⟨d1, d2, d3, d4, d18, d19, d20⟩ := hb.reads
  rw [Lf.bank]
  clear hb d1 d2 d18 d20
  generalize l.c.s3 = s3 at *
  generalize l.c.s4 = s4 at *
  cases hc : l.cf <;> rw [hc] at d19 <;> clear hc <;> (
    go_enter Tryz.func55, Tryz.ntmps55
    go_wp2
    go_ret
    exact ⟨rfl, Below.refl _ _⟩)

theorem payer_any (b : Nat) (l : Lf) (vp ve : Value) (w : World) (hb : Box w 116 b l vp ve) :
    Calls Tryz.prog 56 #[.pointer (some ⟨b, 0, none⟩)] w (Ret w (.string l.payer)) := by
  obtain ⟨d1, d2, d3, d4, d18, d19, d20⟩ := hb.reads
  rw [Lf.payer]
  clear hb d2 d18 d4
  generalize l.c.s3 = s3 at *
  generalize l.c.s1 = s1 at *
  cases hc : l.cf <;> cases hr : l.rp <;> rw [hc] at d19 <;> rw [hr] at d20 <;> clear hc hr <;> (
    go_enter Tryz.func56, Tryz.ntmps56
    go_wp2
    go_ret
    exact ⟨rfl, Below.refl _ _⟩)

theorem confirmable_any (b : Nat) (l : Lf) (vp ve : Value) (w : World) (hb : Box w 116 b l vp ve) :
    Calls Tryz.prog 104 #[.pointer (some ⟨b, 0, none⟩)] w (Ret w (.bool (!l.cf && !l.c.s4.toList.isEmpty))) := by
  obtain ⟨d1, d2, d3, d4, d18, d19, d20⟩ := hb.reads
  clear hb d1 d2 d3 d18 d20
  generalize l.c.s4 = s4 at *
  cases hc : l.cf <;> rw [hc] at d19 <;> cases he : s4.toList.isEmpty <;> clear hc <;> (
    go_enter Tryz.func104, Tryz.ntmps104
    go_wp2
    go_ret
    exact ⟨rfl, Below.refl _ _⟩)

/-- Who owes, of the program: the one of the reference's, and of the draw's sum. -/
def Lf.owes (l : Lf) (p : ByteArray) : Bool := (decide (l.st = 4) || decide (l.st = 5)) && decide (p = l.debtor)
theorem owes_any (b : Nat) (l : Lf) (vp ve : Value) (p : ByteArray) (w : World) (hb : Box w 116 b l vp ve) :
    Calls Tryz.prog 11 #[.pointer (some ⟨b, 0, none⟩), .string p] w (Ret w (.tuple #[.int .i64 (if l.owes p then l.now.amt else 0), .bool (l.owes p)])) := by
  obtain ⟨d1, d2, d3, d4, d18, d19, d20⟩ := hb.reads
  have d22 : w.cell? ⟨b, 22, none⟩ = some (.int .i64 l.now.amt) := hb.cell 22
  have hA := answers_any b l vp ve w hb
  have hP := payer_any b l vp ve w hb
  obtain ⟨x, hx⟩ : ∃ x, x = l.owes p := ⟨_, rfl⟩
  rw [← hx]
  simp only [Lf.owes] at hx
  clear d1 d2 d3 d4 d19 d20
  generalize l.now.amt = m at *
  by_cases h4 : l.st = 4
  · have t4 : (l.st == 4) = true := by simp [h4]
    simp only [show l.debtor = l.bank by rw [Lf.debtor, if_pos h4], h4, decide_true, Bool.true_or, Bool.true_and] at hx
    clear h4 hP
    generalize l.st = st at *
    by_cases he : p = l.bank
    · have q1 := str_yes he
      rw [decide_eq_true he] at hx
      subst hx
      clear he
      have HB := Lib.hid hb
      clear hb
      go_enter Tryz.func11, Tryz.ntmps11
      go_wp2_with (first
        | ((with_reducible refine hA.mono ?_); rintro e w2 ⟨rfl, hb2⟩; have d22' := (hb2.cell (p := ⟨b, 22, none⟩) (lt_blk HB.out)).trans d22)
        | fail)
      go_ret2
      exact ⟨rfl, hb2⟩
    · have q1 := str_no he
      rw [decide_eq_false he] at hx
      subst hx
      clear he
      go_enter Tryz.func11, Tryz.ntmps11
      go_wp2_with (first
        | ((with_reducible refine hA.mono ?_); rintro e w2 ⟨rfl, hb2⟩)
        | fail)
      go_ret2
      exact ⟨rfl, hb2⟩
  · have t4 : (l.st == 4) = false := by simp [h4]
    by_cases h5 : l.st = 5
    · have t5 : (l.st == 5) = true := by simp [h5]
      simp only [show l.debtor = l.payer by rw [Lf.debtor, if_neg h4, if_pos h5], h5, decide_true, Bool.or_true, Bool.true_and] at hx
      clear h4 h5 hA
      generalize l.st = st at *
      by_cases he : p = l.payer
      · have q1 := str_yes he
        rw [decide_eq_true he] at hx
        subst hx
        clear he
        have HB := Lib.hid hb
        clear hb
        go_enter Tryz.func11, Tryz.ntmps11
        go_wp2_with (first
          | ((with_reducible refine hP.mono ?_); rintro e w2 ⟨rfl, hb2⟩; have d22' := (hb2.cell (p := ⟨b, 22, none⟩) (lt_blk HB.out)).trans d22)
          | fail)
        go_ret2
        exact ⟨rfl, hb2⟩
      · have q1 := str_no he
        rw [decide_eq_false he] at hx
        subst hx
        clear he
        go_enter Tryz.func11, Tryz.ntmps11
        go_wp2_with (first
          | ((with_reducible refine hP.mono ?_); rintro e w2 ⟨rfl, hb2⟩)
          | fail)
        go_ret2
        exact ⟨rfl, hb2⟩
    · have t5 : (l.st == 5) = false := by simp [h5]
      simp only [h4, h5, decide_false, Bool.or_false, Bool.false_and] at hx
      subst hx
      clear h4 h5 hA hP hb d22
      generalize l.st = st at *
      go_enter Tryz.func11, Tryz.ntmps11
      go_wp2
      go_ret2
      exact ⟨rfl, Below.refl _ _⟩
end Go.Proofs.YtbigoifpfkdkjaaGreatDoor.Sc
namespace Go.Proofs.YtbigoifpfkdkjaaGreatDoor.Sc
open Go Go.RowKit Go.ChangeShapes Go.WideShapes Go.ChangeAt
set_option maxRecDepth 100000

def letter (c : Int) : Bool := decide (97 ≤ c) && decide (c ≤ 122)
def digit (c : Int) : Bool := decide (48 ≤ c) && decide (c ≤ 57)
theorem chI_eq (c : Int) : chI c = (letter c || (digit c || decide (c = 45))) := by
  rw [Bool.eq_iff_iff]; simp only [chI, letter, digit, Bool.not_eq_true', Bool.and_eq_false_imp, Bool.or_eq_true, Bool.and_eq_true, decide_eq_true_eq, bne_eq_false_iff_eq]; omega
theorem letter_any (c : Int) (w : World) : Calls Tryz.prog 58 #[.int .u8 c] w (RetB w (letter c)) := by
  go_enter Tryz.func58, Tryz.ntmps58
  go_wp2
  all_goals
    go_ret
    exact retB (by rw [Bool.eq_iff_iff]; simp only [letter, Bool.and_eq_true, decide_eq_true_eq, Bool.false_eq_true, false_iff]; omega) (Below.refl _ _)
theorem digit_any (c : Int) (w : World) : Calls Tryz.prog 102 #[.int .u8 c] w (RetB w (digit c)) := by
  go_enter Tryz.func102, Tryz.ntmps102
  go_wp2
  all_goals
    go_ret
    exact retB (by rw [Bool.eq_iff_iff]; simp only [digit, Bool.and_eq_true, decide_eq_true_eq, Bool.false_eq_true, false_iff]; omega) (Below.refl _ _)

set_option maxHeartbeats 2000000 in
theorem markName_any (s : ByteArray) (w : World) : Calls Tryz.prog 41 #[.string s] w (RetB w (nameOk s)) := by
  by_cases hn : 1 ≤ s.size ∧ s.size ≤ 16
  · obtain ⟨h1, h2⟩ := hn
    have t1 : decide ((s.size : Int) < 1) = false := by simp; omega
    have t2 : decide ((16 : Int) < (s.size : Int)) = false := by simp; omega
    have HN : Hid (nameOk s = charsOk (s.data.toList.drop 0)) := Lib.hid (by simp [nameOk, h1, h2])
    go_enter Tryz.func41, Tryz.ntmps41
    go_wp2
    go_loopw [14] (fun i wr => ∃ k : Nat, k ≤ s.size ∧ i = .int .i64 k ∧ nameOk s = charsOk (s.data.toList.drop k) ∧ Below w.heap.size w wr) (fun i _ => s.size - (intOf i).toNat)
    case atStart => exact ⟨0, Nat.zero_le _, rfl, HN.out, Below.refl _ _⟩
    case round =>
      obtain ⟨k, hk, rfl, hrel, hbel⟩ := hrel
      by_cases hlt : k < s.size
      · rw [chars_step s k hlt, chI_eq] at hrel
        have HR := Lib.hid hrel
        have HBEL := Lib.hid hbel
        clear hrel hbel t1 t2 h1 HN
        have HL := letter_any ((s[k]'hlt).toNat : Int)
        have HD := digit_any ((s[k]'hlt).toNat : Int)
        generalize hlv : letter ((s[k]'hlt).toNat : Int) = bl at HL HR
        generalize hdv : digit ((s[k]'hlt).toNat : Int) = bd at HD HR
        clear hlv hdv
        cases bl <;> cases bd
        all_goals
          go_wp2_with (first
            | ((with_reducible refine (HL _).mono ?_); rintro e w2 ⟨rfl, hb2⟩; have HB2 := Lib.hid (HBEL.out.trans (hb2.mono HBEL.out.size)); clear hb2)
            | ((with_reducible refine (HD _).mono ?_); rintro e w3 ⟨rfl, hb3⟩; have HB3 := Lib.hid (HB2.out.trans (hb3.mono HB2.out.size)); clear hb3)
            | fail)
        all_goals first
          | (go_roundw
             case rel => exact ⟨k + 1, by omega, by go_num, by
                have hr := HR.out
                first
                  | simpa using hr
                  | (generalize ((s[k]'hlt).toNat : Int) = c at *
                     simp at *
                     simp [*]), by first | exact HB3.out | exact HB2.out⟩
             case measure => simp [intOf]; omega)
          | (go_ret
             exact retB (by
                have hr := HR.out
                generalize ((s[k]'hlt).toNat : Int) = c at *
                simp at *
                simp [*]) (by first | exact HB3.out | exact HB2.out))
      · have HR := Lib.hid hrel
        clear hrel
        go_wp2
        go_ret
        exact retB (by rw [HR.out, chars_end s k (by omega)]) hbel
  · have HN : Hid (nameOk s = false) := Lib.hid (by
      simp only [nameOk]
      by_cases h1 : 1 ≤ s.size
      · have h2 : ¬ s.size ≤ 16 := fun h => hn ⟨h1, h⟩
        simp only [h2, decide_false, Bool.false_and, Bool.and_false]
      · simp only [h1, decide_false, Bool.false_and])
    go_enter Tryz.func41, Tryz.ntmps41
    by_cases h1 : 1 ≤ s.size
    · have t1 : decide ((s.size : Int) < 1) = false := by simp; omega
      have t2 : decide ((16 : Int) < (s.size : Int)) = true := by simp; omega
      clear hn
      go_wp2
      go_ret
      exact retB HN.out.symm (Below.refl _ _)
    · have t1 : decide ((s.size : Int) < 1) = true := by simp; omega
      clear hn
      go_wp2
      go_ret
      exact retB HN.out.symm (Below.refl _ _)
end Go.Proofs.YtbigoifpfkdkjaaGreatDoor.Sc
namespace Go.Proofs.YtbigoifpfkdkjaaGreatDoor.Sc
open Go Go.RowKit Go.ChangeShapes Go.WideShapes Go.ChangeAt
set_option maxRecDepth 100000

end Go.Proofs.YtbigoifpfkdkjaaGreatDoor.Sc
namespace Go.Proofs.YtbigoifpfkdkjaaGreatDoor.Sc
open Go Go.RowKit Go.ChangeShapes Go.WideShapes Go.ChangeAt
set_option maxRecDepth 100000

/-- An event that may be told. -/
def Ev.ok (e : Ev) : Bool := (decide (0 ≤ e.kind) && decide (e.kind ≤ 7)) && nameOk e.party && (decide (0 ≤ e.day) && decide (e.day ≤ 1048576)) && (if e.kind = 2 then decide (1 ≤ e.amt) && decide (e.amt ≤ 1099511627776) else decide (e.amt = 0))

set_option maxHeartbeats 2000000 in
theorem wrong_any (e : Ev) (w : World) : Calls Tryz.prog 43 #[.agg e.cells] w (RetB w (!e.ok)) := by
  obtain ⟨kind, party, day, amt⟩ := e
  simp only [Ev.cells]
  have hN := markName_any party
  obtain ⟨x, hx⟩ : ∃ x, x = Ev.ok ⟨kind, party, day, amt⟩ := ⟨_, rfl⟩
  rw [← hx]
  simp only [Ev.ok] at hx
  generalize nameOk party = bn at *
  have HX := Lib.hid hx
  clear hx
  have HO := Lib.hid (one_below w (.cells #[.int .i64 kind, .string party, .int .i64 day, .int .i64 amt] 39))
  have h0 : Hid ((w.alloc (.cells #[.int .i64 kind, .string party, .int .i64 day, .int .i64 amt] 39)).heap[w.heap.size]? = some (.cells #[.int .i64 kind, .string party, .int .i64 day, .int .i64 amt] 39 (0, 0))) := Lib.hid (heap_alloc_new w _)
  cases bn
  all_goals
    go_enter Tryz.func43, Tryz.ntmps43
    go_wp2_with (first
      | ((with_reducible refine (hN _).mono ?_); rintro e w2 ⟨rfl, hb2⟩; have h2 := blk hb2 (by simp) h0.out; have c0 : w2.cell? ⟨w.heap.size, 0, none⟩ = some (.int .i64 kind) := cell_blk h2 0; have c2 : w2.cell? ⟨w.heap.size, 2, none⟩ = some (.int .i64 day) := cell_blk h2 2; have c3 : w2.cell? ⟨w.heap.size, 3, none⟩ = some (.int .i64 amt) := cell_blk h2 3; clear h2; have HB2 := Lib.hid (below_new hb2); clear hb2)
      | fail)
    all_goals
      go_ret
      refine retB ?_ (by first | exact HB2.out | exact HO.out)
      rw [HX.out]
      clear HX HO h0
      first
        | (simp; omega)
        | (by_cases h2 : kind = 2
           · subst h2
             simp at *
             first
               | done
               | (rw [Bool.eq_iff_iff]; simp; omega)
               | omega
           · simp [h2] at *
             first
               | done
               | (rw [Bool.eq_iff_iff]; simp; omega)
               | omega)
end Go.Proofs.YtbigoifpfkdkjaaGreatDoor.Sc
