/- What the rules' last closures do to a life. -/
import Derived.Test.YtbigoifpfkdkjaaGreatDoorTd08
namespace Go.Proofs.YtbigoifpfkdkjaaGreatDoor.Sc
open Go Go.RowKit Go.ChangeShapes Go.WideShapes Go.ChangeAt
set_option maxRecDepth 100000

theorem Box.set {w : World} {t : TypeId} {b : Nat} {l : Lf} {vp ve : Value} (h : Box w t b l vp ve) (o : Nat) (u : Value) : (w.setCell ⟨b, o, none⟩ u).heap[b]? = some (.cells ((l.cells vp ve).setIfInBounds o u) t (0, 0)) := by
  unfold Box at h
  simp [World.setCell, Array.getElem?_modify, h]
theorem Box.below {w w' : World} {t : TypeId} {b : Nat} {l : Lf} {vp ve : Value} (h : Box w t b l vp ve) (k : Below w.heap.size w w') : Box w' t b l vp ve := blk k (lt_blk h) h

/-- What a closure did: it answered c, and the life's box holds l'. -/
def Did (w : World) (b : Nat) (c : Int) (l' : Lf) (vp ve : Value) (e : Ending) (w' : World) : Prop := e = .returned (.int .i64 c) ∧ Keep (fun x => x = b) w w' ∧ Box w' 116 b l' vp ve

theorem confirm_any (b : Nat) (l : Lf) (vp ve : Value) (ev : Ev) (w : World) (hb : Box w 116 b l vp ve) :
    Calls Tryz.prog 110 #[.pointer (some ⟨b, 0, none⟩), .agg ev.cells] w (Did w b 0 { l with cf := true } vp ve) := by
  simp only [Ev.cells]
  have HB := Lib.hid (hb.below (one_below w (.cells #[.int .i64 ev.kind, .string ev.party, .int .i64 ev.day, .int .i64 ev.amt] 39)))
  have HK := Lib.hid (Keep.alloc (fun x => x = b) w (.cells #[.int .i64 ev.kind, .string ev.party, .int .i64 ev.day, .int .i64 ev.amt] 39))
  have d19 : (w.alloc (.cells #[.int .i64 ev.kind, .string ev.party, .int .i64 ev.day, .int .i64 ev.amt] 39)).cell? ⟨b, 19, none⟩ = some (.bool l.cf) := HB.out.cell 19
  have f19 : (w.alloc (.cells #[.int .i64 ev.kind, .string ev.party, .int .i64 ev.day, .int .i64 ev.amt] 39)).frozen? ⟨b, 19, none⟩ = false := free_blk HB.out 19
  clear hb
  generalize ev.kind = k0 at *
  generalize ev.party = k1 at *
  generalize ev.day = k2 at *
  generalize ev.amt = k3 at *
  go_enter Tryz.func110, Tryz.ntmps110
  go_wp2
  go_ret
  exact ⟨rfl, HK.out.trans (Keep.of_grown (grown_set _ b 19 _)) (fun i _ h => by simpa using h.symm), HB.out.set 19 (.bool true)⟩

theorem to_any (b : Nat) (l : Lf) (vp ve : Value) (ev : Ev) (x : Int) (bx : Nat) (w : World) (hb : Box w 116 b l vp ve) (hx : w.cell? ⟨bx, 0, none⟩ = some (.int .i64 x)) (hl : bx < w.heap.size) :
    Calls Tryz.prog 160 #[.pointer (some ⟨b, 0, none⟩), .agg ev.cells, .pointer (some ⟨bx, 0, none⟩)] w (Did w b 0 { l with st := x } vp ve) := by
  simp only [Ev.cells]
  have HB := Lib.hid (hb.below (one_below w (.cells #[.int .i64 ev.kind, .string ev.party, .int .i64 ev.day, .int .i64 ev.amt] 39)))
  have HK := Lib.hid (Keep.alloc (fun x => x = b) w (.cells #[.int .i64 ev.kind, .string ev.party, .int .i64 ev.day, .int .i64 ev.amt] 39))
  have d18 : (w.alloc (.cells #[.int .i64 ev.kind, .string ev.party, .int .i64 ev.day, .int .i64 ev.amt] 39)).cell? ⟨b, 18, none⟩ = some (.int .i64 l.st) := HB.out.cell 18
  have f18 : (w.alloc (.cells #[.int .i64 ev.kind, .string ev.party, .int .i64 ev.day, .int .i64 ev.amt] 39)).frozen? ⟨b, 18, none⟩ = false := free_blk HB.out 18
  have dx : (w.alloc (.cells #[.int .i64 ev.kind, .string ev.party, .int .i64 ev.day, .int .i64 ev.amt] 39)).cell? ⟨bx, 0, none⟩ = some (.int .i64 x) := ((one_below w (.cells #[.int .i64 ev.kind, .string ev.party, .int .i64 ev.day, .int .i64 ev.amt] 39)).cell (p := ⟨bx, 0, none⟩) hl).trans hx
  clear hx
  clear hb
  generalize ev.kind = k0 at *
  generalize ev.party = k1 at *
  generalize ev.day = k2 at *
  generalize ev.amt = k3 at *
  go_enter Tryz.func160, Tryz.ntmps160
  go_wp2
  go_ret
  exact ⟨rfl, HK.out.trans (Keep.of_grown (grown_set _ b 18 _)) (fun i _ h => by simpa using h.symm), HB.out.set 18 (.int .i64 x)⟩

def Lf.repay (l : Lf) : Lf := if l.cf && !l.rp then { l with rp := true } else { l with st := 6 }
theorem reimburse_any (b : Nat) (l : Lf) (vp ve : Value) (ev : Ev) (w : World) (hb : Box w 116 b l vp ve) :
    Calls Tryz.prog 114 #[.pointer (some ⟨b, 0, none⟩), .agg ev.cells] w (Did w b 0 l.repay vp ve) := by
  simp only [Ev.cells]
  have HB := Lib.hid (hb.below (one_below w (.cells #[.int .i64 ev.kind, .string ev.party, .int .i64 ev.day, .int .i64 ev.amt] 39)))
  have HK := Lib.hid (Keep.alloc (fun x => x = b) w (.cells #[.int .i64 ev.kind, .string ev.party, .int .i64 ev.day, .int .i64 ev.amt] 39))
  have d18 : (w.alloc (.cells #[.int .i64 ev.kind, .string ev.party, .int .i64 ev.day, .int .i64 ev.amt] 39)).cell? ⟨b, 18, none⟩ = some (.int .i64 l.st) := HB.out.cell 18
  have d19 : (w.alloc (.cells #[.int .i64 ev.kind, .string ev.party, .int .i64 ev.day, .int .i64 ev.amt] 39)).cell? ⟨b, 19, none⟩ = some (.bool l.cf) := HB.out.cell 19
  have d20 : (w.alloc (.cells #[.int .i64 ev.kind, .string ev.party, .int .i64 ev.day, .int .i64 ev.amt] 39)).cell? ⟨b, 20, none⟩ = some (.bool l.rp) := HB.out.cell 20
  have f18 : (w.alloc (.cells #[.int .i64 ev.kind, .string ev.party, .int .i64 ev.day, .int .i64 ev.amt] 39)).frozen? ⟨b, 18, none⟩ = false := free_blk HB.out 18
  have f20 : (w.alloc (.cells #[.int .i64 ev.kind, .string ev.party, .int .i64 ev.day, .int .i64 ev.amt] 39)).frozen? ⟨b, 20, none⟩ = false := free_blk HB.out 20
  clear hb
  generalize ev.kind = k0 at *
  generalize ev.party = k1 at *
  generalize ev.day = k2 at *
  generalize ev.amt = k3 at *
  obtain ⟨c, st, cf, rp, now, paid, evs⟩ := l
  simp only at d18 d19 d20
  cases cf <;> cases rp
  all_goals
    go_enter Tryz.func114, Tryz.ntmps114
    go_wp2
    go_ret
    first
      | exact ⟨rfl, HK.out.trans (Keep.of_grown (grown_set _ b 18 _)) (fun i _ h => (Option.some.inj h).symm), HB.out.set 18 (.int .i64 6)⟩
      | exact ⟨rfl, HK.out.trans (Keep.of_grown (grown_set _ b 20 _)) (fun i _ h => (Option.some.inj h).symm), HB.out.set 20 (.bool true)⟩

end Go.Proofs.YtbigoifpfkdkjaaGreatDoor.Sc
