/- What is due, by the reference. -/
import Derived.Test.YtehlhfcaajhhaaaCopyB45
import Derived.Test.YtehlhfcaajhhaaaPut
namespace Go.Proofs.Ytehlhfcaajhhaaa.Sc
open Go Go.RowKit Go.ChangeShapes Go.WideShapes Go.ChangeAt
set_option maxRecDepth 100000

def isDue (day : Int) (b : Bx) : Bool := decide (b.st = 0) && decide (b.day ≤ day)
def dueR (l : List Bx) (day : Int) : List ByteArray := l.foldl (fun out b => if isDue day b then putS out b.name else out) []
theorem dueR_take (l : List Bx) (day : Int) (k : Nat) (h : k < l.length) : dueR (l.take (k + 1)) day = if isDue day l[k] then putS (dueR (l.take k) day) l[k].name else dueR (l.take k) day := by
  rw [List.take_succ_eq_append_getElem h, dueR, List.foldl_append]
  rfl
theorem dueR_len (l : List Bx) (day : Int) (k : Nat) (h : k ≤ l.length) : (dueR (l.take k) day).length ≤ k := by
  induction k with
  | zero => simp [dueR]
  | succ k ih =>
    rw [dueR_take l day k (by omega)]
    have h1 := ih (by omega)
    split
    · have := putS_len (dueR (l.take k) day) l[k].name; omega
    · omega
/-- A row of texts comes back; old memory stays. -/
def TextsP (w : World) (l : List ByteArray) (e : Ending) (w' : World) : Prop := ∃ v, e = .returned v ∧ Sl w' 1 v (l.map stRow) ∧ Below w.heap.size w w'
set_option maxHeartbeats 4000000 in
theorem refDue_any (l : List Bx) (day : Int) (v : Value) (w : World) (hs : Sl w 4 v (l.map Bx.row)) (hl : l.length ≤ 4000) :
    Calls Try.prog 28 #[v, .int .i64 day] w (TextsP w (dueR l day)) := by
  obtain ⟨a, c, rfl⟩ : ∃ a c, v = .slice a l.length c := by simpa using hs.shape
  have hll : (l.length : Int) ≤ 4000 := by omega
  have HS := Lib.hid hs
  have HL := Lib.hid hl
  clear hs hl
  go_enter Try.func28, Try.ntmps28
  go_wp2_with fail
  go_loopw [5, 6] (fun o i wr => ∃ k : Nat, k ≤ l.length ∧ i = .int .i64 k ∧ Sl wr 1 o ((dueR (l.take k) day).map stRow) ∧ Below w.heap.size w wr) (fun _ i _ => l.length - (intOf i).toNat)
  case atStart => exact ⟨0, Nat.zero_le _, rfl, .inl ⟨rfl, _, _, rfl, by simp⟩, by first | exact one_below _ _ | exact Below.refl _ _⟩
  case round =>
    obtain ⟨k, hk, rfl, hsl, hbel⟩ := hrel
    have HSL := Lib.hid hsl
    have HBEL := Lib.hid hbel
    clear hsl
    by_cases hlt : k < l.length
    · obtain ⟨b, off, rfl, -, hb, hc⟩ := HS.out.at (i := k) (by simpa using hlt)
      have d0 := (hbel.cell (p := ⟨b, off + k * 4, none⟩) hb).trans (hc k l[k].row (by simp [hlt]) 0 _ rfl)
      have d2 := (hbel.cell (p := ⟨b, off + k * 4 + 2, none⟩) hb).trans (hc k l[k].row (by simp [hlt]) 2 _ rfl)
      have d3 := (hbel.cell (p := ⟨b, off + k * 4 + 3, none⟩) hb).trans (hc k l[k].row (by simp [hlt]) 3 _ rfl)
      have HT := dueR_take l day k hlt
      have HLN := Lib.hid (dueR_len l day k hk)
      clear hc hbel
      generalize l[k] = y at *
      obtain ⟨xn, xd, xy, xs⟩ := y
      simp only at d0 d2 d3 HT
      have HPT := Lib.hid (fun o W (h : Sl W 1 o ((dueR (l.take k) day).map stRow)) => refPut_any (dueR (l.take k) day) xn o W h (by have := HLN.out; have := HL.out; omega))
      by_cases hx : xs = 0
      · have t1 : (xs == 0) = true := by simp [hx]
        by_cases hy : xy ≤ day
        · have t2 : decide (xy ≤ day) = true := decide_eq_true hy
          have HQ : Hid (dueR (l.take (k + 1)) day = putS (dueR (l.take k) day) xn) := Lib.hid (by rw [HT, if_pos (by simp [isDue, hx, hy])])
          clear hx hy HT
          go_wp2_with (first
            | ((with_reducible refine (HPT.out _ _ HSL.out).mono ?_); rintro e w2 ⟨v2, rfl, hown, hb2⟩; have HO := Lib.hid (own_strs hown rfl); have HB2 := Lib.hid (HBEL.out.trans (hb2.mono HBEL.out.size)); clear hown hb2)
            | fail)
          go_roundw
          case rel => exact ⟨k + 1, by omega, by go_num, by rw [HQ.out]; exact HO.out, HB2.out⟩
          case measure => (simp [intOf]) <;> omega
        · have t2 : decide (xy ≤ day) = false := decide_eq_false hy
          have HQ : Hid (dueR (l.take (k + 1)) day = dueR (l.take k) day) := Lib.hid (by rw [HT, if_neg (by simp [isDue, hy])])
          clear hx hy HT
          go_wp2_with fail
          go_roundw
          case rel => exact ⟨k + 1, by omega, by go_num, by rw [HQ.out]; exact HSL.out, HBEL.out⟩
          case measure => (simp [intOf]) <;> omega
      · have t1 : (xs == 0) = false := by simp [hx]
        have HQ : Hid (dueR (l.take (k + 1)) day = dueR (l.take k) day) := Lib.hid (by rw [HT, if_neg (by simp [isDue, hx])])
        clear hx HT
        go_wp2_with fail
        go_roundw
        case rel => exact ⟨k + 1, by omega, by go_num, by rw [HQ.out]; exact HSL.out, HBEL.out⟩
        case measure => (simp [intOf]) <;> omega
    · have HQ : Hid (dueR (l.take k) day = dueR l day) := Lib.hid (by rw [List.take_of_length_le (by omega)])
      clear hbel
      go_wp2_with fail
      go_ret
      exact ⟨_, rfl, by rw [← HQ.out]; exact HSL.out, HBEL.out⟩
end Go.Proofs.Ytehlhfcaajhhaaa.Sc
