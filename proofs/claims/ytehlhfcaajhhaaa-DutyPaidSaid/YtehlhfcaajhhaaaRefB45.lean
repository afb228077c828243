/- The reference's boxes: At, Used, Limit, open. -/
import Derived.Test.YtehlhfcaajhhaaaOut45
namespace Go.Proofs.Ytehlhfcaajhhaaa.Sc
open Go Go.RowKit Go.ChangeShapes Go.WideShapes Go.ChangeAt
set_option maxRecDepth 100000

def Bx.row (b : Bx) : List Value := [.string b.name, .int .i64 b.duty, .int .i64 b.day, .int .i64 b.st]
/-- Where a box stands; -1: nowhere. -/
def bAt (n : ByteArray) : Nat → List Bx → Int
  | _, [] => -1
  | k, b :: l => if b.name = n then k else bAt n (k + 1) l
theorem bAt_find (n : ByteArray) : ∀ (l : List Bx) (k : Nat), (bAt n k l = -1 ∧ boxOf l n = none) ∨ ∃ j, ∃ h : j < l.length, bAt n k l = ((k + j : Nat) : Int) ∧ boxOf l n = some l[j]
  | [], k => .inl ⟨rfl, rfl⟩
  | b :: l, k => by
    by_cases h : b.name = n
    · exact .inr ⟨0, by simp, by simp [bAt, h], by rw [boxOf, List.find?_cons_of_pos (by simpa using h)]; rfl⟩
    · rw [bAt, if_neg h, boxOf, List.find?_cons_of_neg (by simpa using h)]
      rcases bAt_find n l (k + 1) with h1 | ⟨j, hj, h1, h2⟩
      · exact .inl h1
      · exact .inr ⟨j + 1, by simp; omega, by rw [h1]; congr 1; omega, by rw [← boxOf, h2]; rfl⟩
theorem boxOf_has {l : List Bx} {n : ByteArray} {b : Bx} (h : boxOf l n = some b) : hasB l n = true := by
  obtain ⟨hb, hn⟩ := boxOf_mem h
  exact List.any_eq_true.2 ⟨b, hb, by simpa using hn⟩
set_option maxHeartbeats 4000000 in
theorem bAt_any (l : List Bx) (x : ByteArray) (v : Value) (w : World) (hs : Sl w 4 v (l.map Bx.row)) :
    Calls Try.prog 17 #[v, .string x] w (Ret w (.int .i64 (bAt x 0 l))) := by
  have hll : l.length ≤ 9223372036854775807 := by have := hs.len_le; simp only [List.length_map, maxLen] at this; omega
  obtain ⟨a, c, rfl⟩ : ∃ a c, v = .slice a l.length c := by simpa using hs.shape
  have HS := Lib.hid hs
  clear hs
  go_enter Try.func17, Try.ntmps17
  go_wp2_with fail
  go_loopw [5] (fun i wr => ∃ k : Nat, k ≤ l.length ∧ i = .int .i64 k ∧ bAt x 0 l = bAt x k (l.drop k) ∧ Below w.heap.size w wr) (fun i _ => l.length - (intOf i).toNat)
  case atStart => exact ⟨0, Nat.zero_le _, rfl, rfl, Below.refl _ _⟩
  case round =>
    obtain ⟨k, hk, rfl, hrel, hbel⟩ := hrel
    by_cases hlt : k < l.length
    · obtain ⟨b, off, rfl, -, hb, hc⟩ := HS.out.at (i := k) (by simpa using hlt)
      have d0 := (hbel.cell (p := ⟨b, off + k * 4, none⟩) hb).trans (hc k l[k].row (by simp [hlt]) 0 _ rfl)
      rw [List.drop_eq_getElem_cons hlt, bAt] at hrel
      have HR := Lib.hid hrel
      have HBEL := Lib.hid hbel
      clear hrel hc hbel
      generalize l[k] = y at *
      obtain ⟨xn, xd, xy, xs⟩ := y
      simp only at d0 HR
      by_cases h1 : xn = x
      · have t1 := str_yes h1
        have HQ : Hid (bAt x 0 l = k) := Lib.hid (by rw [HR.out, if_pos h1])
        clear h1
        go_wp2_with fail
        go_ret
        exact ⟨by rw [HQ.out]; rfl, HBEL.out⟩
      · have t1 := str_no h1
        have HQ : Hid (bAt x 0 l = bAt x (k + 1) (l.drop (k + 1))) := Lib.hid (by rw [HR.out, if_neg h1])
        clear h1
        go_wp2_with fail
        go_roundw
        case rel => exact ⟨k + 1, by omega, by go_num, HQ.out, HBEL.out⟩
        case measure => (simp [intOf]) <;> omega
    · have HR : Hid (bAt x 0 l = -1) := Lib.hid (by rw [hrel, List.drop_of_length_le (by omega)]; rfl)
      have HBEL := Lib.hid hbel
      clear hrel hbel
      go_wp2_with fail
      go_ret
      exact ⟨by rw [HR.out]; rfl, HBEL.out⟩
theorem used_split (l : List Bx) (k : Nat) (h : k < l.length) : usedOf (l.take (k + 1)) = usedOf (l.take k) + (if l[k].st = 0 then l[k].duty else 0) := by
  rw [List.take_succ_eq_append_getElem h, usedOf_append]
  simp [usedOf]
theorem used_take (l : List Bx) (hg : ∀ b ∈ l, b.good) (k : Nat) : 0 ≤ usedOf (l.take k) ∧ usedOf (l.take k) ≤ usedOf l := by
  have h1 := used_nonneg (l := l.take k) (fun b hb => hg b (List.mem_of_mem_take hb))
  have h2 := used_nonneg (l := l.drop k) (fun b hb => hg b (List.mem_of_mem_drop hb))
  have h3 := usedOf_append (l.take k) (l.drop k)
  rw [List.take_append_drop] at h3
  omega
set_option maxHeartbeats 4000000 in
theorem refUsed_any (l : List Bx) (v : Value) (w : World) (hs : Sl w 4 v (l.map Bx.row)) (hg : ∀ b ∈ l, b.good) (hu : usedOf l ≤ 1099511627776) :
    Calls Try.prog 26 #[v] w (Ret w (.int .i64 (usedOf l))) := by
  have hll : l.length ≤ 9223372036854775807 := by have := hs.len_le; simp only [List.length_map, maxLen] at this; omega
  obtain ⟨a, c, rfl⟩ : ∃ a c, v = .slice a l.length c := by simpa using hs.shape
  have HS := Lib.hid hs
  have HG := Lib.hid hg
  have HUL := Lib.hid hu
  clear hs hg hu
  go_enter Try.func26, Try.ntmps26
  go_wp2_with fail
  go_loopw [3, 4] (fun s i wr => ∃ k : Nat, k ≤ l.length ∧ i = .int .i64 k ∧ s = .int .i64 (usedOf (l.take k)) ∧ Below w.heap.size w wr) (fun _ i _ => l.length - (intOf i).toNat)
  case atStart => exact ⟨0, Nat.zero_le _, rfl, rfl, Below.refl _ _⟩
  case round =>
    obtain ⟨k, hk, rfl, rfl, hbel⟩ := hrel
    have HBEL := Lib.hid hbel
    by_cases hlt : k < l.length
    · obtain ⟨b, off, rfl, -, hb, hc⟩ := HS.out.at (i := k) (by simpa using hlt)
      have d1 := (hbel.cell (p := ⟨b, off + k * 4 + 1, none⟩) hb).trans (hc k l[k].row (by simp [hlt]) 1 _ rfl)
      have d3 := (hbel.cell (p := ⟨b, off + k * 4 + 3, none⟩) hb).trans (hc k l[k].row (by simp [hlt]) 3 _ rfl)
      have hsp := used_split l k hlt
      have h0 := used_take l HG.out k
      have h1 := used_take l HG.out (k + 1)
      have hul := HUL.out
      obtain ⟨S, hS⟩ : ∃ S, S = usedOf (l.take k) := ⟨_, rfl⟩
      obtain ⟨S2, hS2⟩ : ∃ S, S = usedOf (l.take (k + 1)) := ⟨_, rfl⟩
      rw [← hS, ← hS2] at hsp
      rw [← hS] at h0 ⊢
      rw [← hS2] at h1
      have HS2 := Lib.hid hS2
      clear hS hS2 hc hbel
      generalize l[k] = y at *
      obtain ⟨xn, xd, xy, xs⟩ := y
      simp only at d1 d3 hsp
      by_cases hx : xs = 0
      · have t1 : (xs == 0) = true := by simp [hx]
        rw [if_pos hx] at hsp
        have e1 : wrap64 (S + xd) = S2 := by rw [← hsp]; exact wrap_q (by omega)
        clear hx hsp h0 h1 hul
        go_wp2_with fail
        go_roundw
        case rel => exact ⟨k + 1, by omega, by go_num, by rw [← HS2.out, e1], HBEL.out⟩
        case measure => (simp [intOf]) <;> omega
      · have t1 : (xs == 0) = false := by simp [hx]
        rw [if_neg hx] at hsp
        obtain rfl : S2 = S := by omega
        clear hx hsp h0 h1 hul
        go_wp2_with fail
        go_roundw
        case rel => exact ⟨k + 1, by omega, by go_num, by rw [← HS2.out], HBEL.out⟩
        case measure => (simp [intOf]) <;> omega
    · have HQ : Hid (usedOf (l.take k) = usedOf l) := Lib.hid (by rw [List.take_of_length_le (by omega)])
      clear hbel
      go_wp2_with fail
      go_ret
      exact ⟨by rw [← HQ.out]; rfl, HBEL.out⟩
theorem limit_any (a : Int) (w : World) : Calls Try.prog 21 #[.int .i64 a] w (Ret w (.int .i64 (limOf a))) := by
  by_cases h0 : a < 0
  · have t0 : decide (a < 0) = true := decide_eq_true h0
    have HQ : Hid (limOf a = 0) := Lib.hid (if_pos h0)
    clear h0
    go_enter Try.func21, Try.ntmps21
    go_wp2
    go_ret
    exact ⟨by rw [HQ.out]; rfl, Below.refl _ _⟩
  · have t0 : decide (a < 0) = false := decide_eq_false h0
    by_cases h1 : 1099511627776 < a
    · have t1 : decide (1099511627776 < a) = true := decide_eq_true h1
      have HQ : Hid (limOf a = 1099511627776) := Lib.hid (by rw [limOf, if_neg h0, if_pos h1])
      clear h0 h1
      go_enter Try.func21, Try.ntmps21
      go_wp2
      go_ret
      exact ⟨by rw [HQ.out]; rfl, Below.refl _ _⟩
    · have t1 : decide (1099511627776 < a) = false := decide_eq_false h1
      have HQ : Hid (limOf a = a) := Lib.hid (by rw [limOf, if_neg h0, if_neg h1])
      clear h0 h1
      go_enter Try.func21, Try.ntmps21
      go_wp2
      go_ret
      exact ⟨by rw [HQ.out]; rfl, Below.refl _ _⟩
set_option maxHeartbeats 2000000 in
theorem openNo_any (l : List Bx) (n : ByteArray) (v : Value) (w : World) (hs : Sl w 4 v (l.map Bx.row)) (hh : boxOf l n = none) :
    Calls Try.prog 57 #[v, .string n] w (Ret w (.tuple #[.int .i64 (bAt n 0 l), .int .i64 4])) := by
  have HA := Lib.hid (bAt_any l n v w hs)
  have hb : bAt n 0 l = -1 := by
    rcases bAt_find n l 0 with ⟨h1, -⟩ | ⟨j, hj, -, h2⟩
    · exact h1
    · rw [hh] at h2; cases h2
  obtain ⟨m, hm⟩ : ∃ m, m = bAt n 0 l := ⟨_, rfl⟩
  rw [← hm] at HA ⊢
  have tm : decide (m < 0) = true := decide_eq_true (by omega)
  clear hs hh hb hm
  go_enter Try.func57, Try.ntmps57
  go_wp2_with (first
    | ((with_reducible refine HA.out.mono ?_); rintro e w2 ⟨rfl, hb2⟩; have HB := Lib.hid hb2; clear hb2)
    | fail)
  go_ret2
  exact ⟨rfl, HB.out⟩
set_option maxHeartbeats 2000000 in
theorem openYes_any (l : List Bx) (n : ByteArray) (v : Value) (w : World) (hs : Sl w 4 v (l.map Bx.row)) (j : Nat) (hj : j < l.length) (hm : bAt n 0 l = (j : Int)) :
    Calls Try.prog 57 #[v, .string n] w (Ret w (.tuple #[.int .i64 (j : Int), .int .i64 (if l[j].st = 0 then 0 else 9)])) := by
  have HA := bAt_any l n v w hs
  rw [hm] at HA
  have HA := Lib.hid HA
  obtain ⟨a, c, rfl⟩ : ∃ a c, v = .slice a l.length c := by simpa using hs.shape
  have hll : l.length ≤ 9223372036854775807 := by have := hs.len_le; simp only [List.length_map, maxLen] at this; omega
  obtain ⟨b, off, rfl, -, hb, hc⟩ := hs.at (i := j) (by simpa using hj)
  have HC := Lib.hid (fun W (hW : Below w.heap.size w W) => (hW.cell (p := ⟨b, off + j * 4 + 3, none⟩) hb).trans (hc j l[j].row (by simp [hj]) 3 _ rfl))
  have tm : decide ((j : Int) < 0) = false := decide_eq_false (by omega)
  clear hs hc hm
  generalize l[j] = y at *
  obtain ⟨xn, xd, xy, xs⟩ := y
  simp only at HC ⊢
  by_cases hx : xs = 0
  · have t1 : (xs != 0) = false := by simp [hx]
    rw [if_pos hx]
    clear hx
    go_enter Try.func57, Try.ntmps57
    go_wp2_with (first
      | ((with_reducible refine HA.out.mono ?_); rintro e w2 ⟨rfl, hb2⟩; have HB := Lib.hid hb2; have d3 := HC.out _ hb2; clear hb2)
      | fail)
    go_ret2
    exact ⟨rfl, HB.out⟩
  · have t1 : (xs != 0) = true := by simp [hx]
    rw [if_neg hx]
    clear hx
    go_enter Try.func57, Try.ntmps57
    go_wp2_with (first
      | ((with_reducible refine HA.out.mono ?_); rintro e w2 ⟨rfl, hb2⟩; have HB := Lib.hid hb2; have d3 := HC.out _ hb2; clear hb2)
      | fail)
    go_ret2
    exact ⟨rfl, HB.out⟩
end Go.Proofs.Ytehlhfcaajhhaaa.Sc
