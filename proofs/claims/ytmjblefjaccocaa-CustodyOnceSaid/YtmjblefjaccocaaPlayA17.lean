/- long, awake; the program's Check. -/
import Derived.Test.YtmjblefjaccocaaWalkC17
namespace Go.Proofs.Ytmjblefjaccocaa.Sc
open Go Go.RowKit Go.ChangeShapes Go.WideShapes Go.ChangeAt Mp

/-- Are there at most 60? -/
def LongPost (w : World) (n : Nat) (e : Ending) (w' : World) : Prop := ∃ b : Bool, e = .returned (.bool b) ∧ (b = false → n ≤ 60) ∧ Below w.heap.size w w'

set_option maxRecDepth 5000 in
set_option maxHeartbeats 1000000 in
theorem long_any (l : List Hd) (v : Value) (w : World) (hs : Sl w 5 v (l.map Hd.row)) : Calls Try.prog 9 #[v] w (LongPost w l.length) := by
  have hml : l.length ≤ 9223372036854775807 := by have := hs.len_le; simp only [List.length_map, maxLen] at this; omega
  obtain ⟨a, c, rfl⟩ : ∃ a c, v = .slice a l.length c := by simpa using hs.shape
  have HSL := Lib.hid hs
  clear hs
  go_enter Try.func9, Try.ntmps9
  go_wp2_with fail
  go_loopw [7] (fun i wr => ∃ k : Nat, k ≤ l.length ∧ i = .int .i64 k ∧ Below w.heap.size w wr) (fun i _ => l.length - (intOf i).toNat)
  case atStart => exact ⟨0, Nat.zero_le _, rfl, Below.refl _ _⟩
  case round =>
    obtain ⟨k, hk, rfl, hbel⟩ := hrel
    have HBEL := Lib.hid hbel
    by_cases hlt : k < l.length
    · obtain ⟨b, off, rfl, -, hb, hc⟩ := HSL.out.at (i := k) (by simpa using hlt)
      have hr := hc k l[k].row (by simp [hlt])
      have d0 : wr.cell? ⟨b, off + k * 5, none⟩ = some (.string l[k].box) := (hbel.cell (p := ⟨b, off + k * 5, none⟩) hb).trans (hr 0 _ rfl)
      have d1 : wr.cell? ⟨b, off + k * 5 + 1, none⟩ = some (.string l[k].frm) := (hbel.cell (p := ⟨b, off + k * 5 + 1, none⟩) hb).trans (hr 1 _ rfl)
      have d2 : wr.cell? ⟨b, off + k * 5 + 2, none⟩ = some (.string l[k].to) := (hbel.cell (p := ⟨b, off + k * 5 + 2, none⟩) hb).trans (hr 2 _ rfl)
      have d3 : wr.cell? ⟨b, off + k * 5 + 3, none⟩ = some (.string l[k].place) := (hbel.cell (p := ⟨b, off + k * 5 + 3, none⟩) hb).trans (hr 3 _ rfl)
      have d4 : wr.cell? ⟨b, off + k * 5 + 4, none⟩ = some (.int .i64 l[k].day) := (hbel.cell (p := ⟨b, off + k * 5 + 4, none⟩) hb).trans (hr 4 _ rfl)
      clear hr hc hbel
      generalize l[k] = x at *
      generalize hS : decide ((200 : Int) < IntKind.i64.wrap (IntKind.i64.wrap (IntKind.i64.wrap ((x.box.size : Int) + x.frm.size) + x.to.size) + x.place.size)) = S
      clear hS
      go_wp2_with fail
      · go_ret
        exact ⟨true, rfl, by simp, HBEL.out.trans ((one_below wr _).mono HBEL.out.size)⟩
      · go_roundw
        case rel => exact ⟨k + 1, by omega, by go_num, HBEL.out.trans ((one_below wr _).mono HBEL.out.size)⟩
        case measure => simp [intOf]; omega
    · have hlt' : l.length = k := by omega
      clear hbel
      go_wp2_with fail
      go_ret
      exact ⟨_, rfl, fun h => by simp at h; omega, HBEL.out⟩

theorem step_begin (x : Hd) (hx : x.frm = ⟨#[]⟩) (p : Value) (done : List Hd) (F : Nat → Prop) (w : World) (hc : Chain w F p done) (hlen : done.length ≤ 4000) :
    Calls Try.prog 22 #[p, .string x.box, .string x.to, .string x.place, .int .i64 x.day] w (After w F (stepE done x) p (doneB (stepE done x) done x)) := by
  have := begin_any x.box x.to x.place x.day p done F w hc hlen
  have e : (⟨x.box, ⟨#[]⟩, x.to, x.place, x.day⟩ : Hd) = x := by rw [← hx]
  rw [e] at this
  rw [stepE, if_pos hx]
  exact this
theorem step_hand (x : Hd) (hx : ¬ x.frm = ⟨#[]⟩) (p : Value) (done : List Hd) (F : Nat → Prop) (w : World) (hc : Chain w F p done) (hlen : done.length ≤ 4000) :
    Calls Try.prog 23 #[p, .agg x.cells] w (After w F (stepE done x) p (doneB (stepE done x) done x)) := by
  rw [stepE, if_neg hx]
  exact hand_any x p done F w hc hlen

def exA : Hd := ⟨⟨#[98]⟩, ⟨#[]⟩, ⟨#[115]⟩, ⟨#[114, 105, 103, 97]⟩, 3⟩
def exB : Hd := ⟨⟨#[98]⟩, ⟨#[115]⟩, ⟨#[99]⟩, ⟨#[114, 105, 103, 97]⟩, 4⟩
theorem exA_ok : stepE [] exA = 0 := by decide
theorem exB_ok : stepE [exA] exB = 0 := by decide
theorem ex_3 : asOf (ownOf [exA, exB] ⟨#[98]⟩) 3 = (⟨#[115]⟩, ⟨#[114, 105, 103, 97]⟩, true) := by decide
theorem ex_4 : asOf (ownOf [exA, exB] ⟨#[98]⟩) 4 = (⟨#[99]⟩, ⟨#[114, 105, 103, 97]⟩, true) := by decide
theorem ex_2 : asOf (ownOf [exA, exB] ⟨#[98]⟩) 2 = (⟨#[]⟩, ⟨#[]⟩, false) := by decide
end Go.Proofs.Ytmjblefjaccocaa.Sc
