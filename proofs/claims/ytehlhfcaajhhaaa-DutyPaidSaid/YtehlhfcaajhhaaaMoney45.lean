/- Money scaled by a fraction, rounded up: the program's words of money. -/
import Derived.Test.YtehlhfcaajhhaaaDivN64
import Derived.Test.YtehlhfcaajhhaaaChars
namespace Go.Proofs.Ytehlhfcaajhhaaa.Sc
open Go Go.RowKit Go.ChangeShapes Go.WideShapes Go.ChangeAt
set_option maxRecDepth 100000

set_option maxHeartbeats 1000000 in
theorem dutyName_any (s : ByteArray) (w : World) : Calls Try.prog 46 #[.string s] w (RetB w (nameOk s)) := by
  by_cases hn : 1 ≤ s.size ∧ s.size ≤ 16
  · obtain ⟨h1, h2⟩ := hn
    have t1 : decide ((s.size : Int) < 1) = false := by simp; omega
    have t2 : decide ((16 : Int) < (s.size : Int)) = false := by simp; omega
    have HN : Hid (nameOk s = charsOk (s.data.toList.drop 0)) := Lib.hid (by simp [nameOk, h1, h2])
    go_enter Try.func46, Try.ntmps46
    go_wp2
    go_loopw [15] (fun i wr => ∃ k : Nat, k ≤ s.size ∧ i = .int .i64 k ∧ nameOk s = charsOk (s.data.toList.drop k) ∧ Below w.heap.size w wr) (fun i _ => s.size - (intOf i).toNat)
    case atStart => exact ⟨0, Nat.zero_le _, rfl, HN.out, Below.refl _ _⟩
    case round =>
      obtain ⟨k, hk, rfl, hrel, hbel⟩ := hrel
      by_cases hlt : k < s.size
      · rw [chars_step s k hlt] at hrel
        have HR := Lib.hid hrel
        clear hrel t1 t2 h1
        go_wp2
        all_goals first
          | (go_roundw
             case rel => exact ⟨k + 1, by omega, by go_num, by
                have hc : chI ((s[k]'hlt).toNat : Int) = true := by
                  generalize ((s[k]'hlt).toNat : Int) = c at *
                  simp [chI] at *; omega
                rw [HR.out, hc, Bool.true_and], hbel⟩
             case measure => simp [intOf]; omega)
          | (go_ret
             exact retB (by
                have hc : chI ((s[k]'hlt).toNat : Int) = false := by
                  generalize ((s[k]'hlt).toNat : Int) = c at *
                  simp [chI] at *; omega
                rw [HR.out, hc, Bool.false_and]) hbel)
      · have HR := Lib.hid hrel
        clear hrel
        go_wp2
        go_ret
        exact retB (by rw [HR.out, chars_end s k (by omega)]) hbel
  · have HN : Hid (nameOk s = false) := Lib.hid (by
      simp only [nameOk]
      by_cases h1 : 1 ≤ s.size
      · have h2 : ¬ s.size ≤ 16 := fun h => hn ⟨h1, h⟩
        simp only [h2, decide_false, Bool.false_and, Bool.and_false]
      · simp only [h1, decide_false, Bool.false_and])
    go_enter Try.func46, Try.ntmps46
    by_cases h1 : 1 ≤ s.size
    · have t1 : decide ((s.size : Int) < 1) = false := by simp; omega
      have t2 : decide ((16 : Int) < (s.size : Int)) = true := by simp; omega
      clear hn
      go_wp2
      go_ret
      exact retB HN.out.symm (Below.refl _ _)
    · have t1 : decide ((s.size : Int) < 1) = true := by simp; omega
      clear hn
      go_wp2
      go_ret
      exact retB HN.out.symm (Below.refl _ _)


set_option maxHeartbeats 1000000 in
theorem refName5_any (s : ByteArray) (w : World) (hm : s.size ≤ 9223372036854775807) : Calls Try.prog 31 #[.string s] w (RetB w (nameOk s)) := by
  go_enter Try.func31, Try.ntmps31
  go_wp2
  go_loopw [3] (fun i wr => ∃ k : Nat, k ≤ s.size ∧ i = .int .i64 k ∧ charsOk s.data.toList = charsOk (s.data.toList.drop k) ∧ Below w.heap.size w wr) (fun i _ => s.size - (intOf i).toNat)
  case atStart => exact ⟨0, Nat.zero_le _, rfl, rfl, Below.refl _ _⟩
  case round =>
    obtain ⟨k, hk, rfl, hrel, hbel⟩ := hrel
    by_cases hlt : k < s.size
    · rw [chars_step s k hlt] at hrel
      have HR := Lib.hid hrel
      clear hrel
      go_wp2
      all_goals first
        | (go_roundw
           case rel => exact ⟨k + 1, by omega, by go_num, by
              have hc : chI ((s[k]'hlt).toNat : Int) = true := by
                generalize ((s[k]'hlt).toNat : Int) = c at *
                simp [chI] at *; omega
              rw [HR.out, hc, Bool.true_and], hbel⟩
           case measure => simp [intOf]; omega)
        | (go_ret
           exact retB (by
              have hc : chI ((s[k]'hlt).toNat : Int) = false := by
                generalize ((s[k]'hlt).toNat : Int) = c at *
                simp [chI] at *; omega
              rw [nameOk, HR.out, hc, Bool.false_and, Bool.and_false, Bool.and_false]) hbel)
    · have HR := Lib.hid hrel
      clear hrel
      go_wp2
      all_goals
        go_ret
        exact retB (by rw [nameOk, HR.out, chars_end s k (by omega), Bool.and_true, Bool.eq_iff_iff]; simp only [Bool.and_eq_true, decide_eq_true_eq, Bool.false_eq_true, false_iff]; omega) hbel


def usd : ByteArray := ⟨#[85, 83, 68]⟩
/-- May a fraction be? -/
def ratOk (n d : Int) : Bool := decide (0 ≤ n) && decide (1 ≤ d)
theorem isRatio_any (n d : Int) (w : World) : Calls Try.prog 51 #[.agg #[.int .i64 n, .int .i64 d]] w (RetB w (ratOk n d)) := by
  go_enter Try.func51, Try.ntmps51
  go_wp2
  all_goals
    go_ret
    exact retB (by rw [Bool.eq_iff_iff]; simp only [ratOk, Bool.and_eq_true, decide_eq_true_eq, Bool.false_eq_true, false_iff]; omega) (one_below _ _)
theorem refRight_any (n d : Int) (w : World) : Calls Try.prog 32 #[.agg #[.int .i64 n, .int .i64 d]] w (RetB w (ratOk n d)) := by
  go_enter Try.func32, Try.ntmps32
  go_wp2
  all_goals
    go_ret
    exact retB (by rw [Bool.eq_iff_iff]; simp only [ratOk, Bool.and_eq_true, decide_eq_true_eq, Bool.false_eq_true, false_iff]; omega) (one_below _ _)
theorem size_any (n : Int) (w : World) (h0 : 0 ≤ n) (h1 : n ≤ 9223372036854775807) : Calls Try.prog 53 #[.int .i64 n] w (Ret w (.int .u64 n)) := by
  have t : decide (n < 0) = false := decide_eq_false (by omega)
  have e : IntKind.u64.wrap n = n := IntWalk.u64_in _ (by omega)
  clear h0 h1
  go_enter Try.func53, Try.ntmps53
  go_wp2
  go_ret
  exact ⟨rfl, Below.refl _ _⟩
theorem rounder_up (w : World) : Calls Try.prog 49 #[.int .i64 1] w (Ret w (.func (.func 63) #[] #[])) := by
  go_enter Try.func49, Try.ntmps49
  go_wp2
  go_ret
  exact ⟨rfl, Below.refl _ _⟩
theorem up_any (r d : Int) (w : World) : Calls Try.prog 63 #[.int .u64 r, .int .u64 d] w (RetB w (decide (0 < r))) := by
  go_enter Try.func63, Try.ntmps63
  go_wp2
  go_ret
  exact retB rfl (Below.refl _ _)
theorem isCur_usd (w : World) : Calls Try.prog 65 #[.string ⟨#[85, 83, 68]⟩] w (RetB w true) := by
  have i0 : (((⟨#[85, 83, 68]⟩ : ByteArray)[0]'(by decide)).toNat : Int) = 85 := by decide
  have i1 : (((⟨#[85, 83, 68]⟩ : ByteArray)[1]'(by decide)).toNat : Int) = 83 := by decide
  have i2 : (((⟨#[85, 83, 68]⟩ : ByteArray)[2]'(by decide)).toNat : Int) = 68 := by decide
  go_enter Try.func65, Try.ntmps65
  go_wp2
  go_loop [9] (fun i => ∃ k : Int, 0 ≤ k ∧ k ≤ 3 ∧ i = .int .i64 k) (fun i => (3 - intOf i).toNat)
  case atStart => exact ⟨0, by omega, by omega, rfl⟩
  case round =>
    obtain ⟨k, k0, k3, rfl⟩ := hrel
    obtain rfl | rfl | rfl | rfl : k = 0 ∨ k = 1 ∨ k = 2 ∨ k = 3 := by omega
    · go_wp2
      go_round
      case rel => exact ⟨1, by omega, by omega, rfl⟩
      case measure => simp [intOf]
    · go_wp2
      go_round
      case rel => exact ⟨2, by omega, by omega, rfl⟩
      case measure => simp [intOf]
    · go_wp2
      go_round
      case rel => exact ⟨3, by omega, by omega, rfl⟩
      case measure => simp [intOf]
    · go_wp2
      go_ret
      exact retB rfl (Below.refl _ _)
theorem refCur_usd (w : World) : Calls Try.prog 67 #[.string ⟨#[85, 83, 68]⟩] w (RetB w true) := by
  have i0 : (((⟨#[85, 83, 68]⟩ : ByteArray)[0]'(by decide)).toNat : Int) = 85 := by decide
  have i1 : (((⟨#[85, 83, 68]⟩ : ByteArray)[1]'(by decide)).toNat : Int) = 83 := by decide
  have i2 : (((⟨#[85, 83, 68]⟩ : ByteArray)[2]'(by decide)).toNat : Int) = 68 := by decide
  go_enter Try.func67, Try.ntmps67
  go_wp2
  go_loop [3] (fun i => ∃ k : Int, 0 ≤ k ∧ k ≤ 3 ∧ i = .int .i64 k) (fun i => (3 - intOf i).toNat)
  case atStart => exact ⟨0, by omega, by omega, rfl⟩
  case round =>
    obtain ⟨k, k0, k3, rfl⟩ := hrel
    obtain rfl | rfl | rfl | rfl : k = 0 ∨ k = 1 ∨ k = 2 ∨ k = 3 := by omega
    · go_wp2
      go_round
      case rel => exact ⟨1, by omega, by omega, rfl⟩
      case measure => simp [intOf]
    · go_wp2
      go_round
      case rel => exact ⟨2, by omega, by omega, rfl⟩
      case measure => simp [intOf]
    · go_wp2
      go_round
      case rel => exact ⟨3, by omega, by omega, rfl⟩
      case measure => simp [intOf]
    · go_wp2
      go_ret
      exact retB rfl (Below.refl _ _)
/-- May so many dollars be? -/
def amtOk (a : Int) : Bool := decide (-1099511627776 ≤ a) && decide (a ≤ 1099511627776)
theorem may_usd (a : Int) (w : World) : Calls Try.prog 50 #[.agg #[.string ⟨#[85, 83, 68]⟩, .int .i64 a]] w (RetB w (amtOk a)) := by
  have HO := Lib.hid (one_below w (.cells #[.string ⟨#[85, 83, 68]⟩, .int .i64 a] 80))
  have HC := Lib.hid (heap_alloc_new w (.cells #[.string ⟨#[85, 83, 68]⟩, .int .i64 a] 80))
  go_enter Try.func50, Try.ntmps50
  go_wp2_with (first
    | ((with_reducible refine (isCur_usd _).mono ?_); rintro e w1 ⟨rfl, hb1⟩; have c1 : w1.cell? ⟨w.heap.size, 1, none⟩ = some (.int .i64 a) := cell_blk (blk hb1 (lt_blk HC.out) HC.out) 1; have HB1 := Lib.hid (below_then HO.out hb1); clear hb1)
    | fail)
  all_goals
    go_ret
    exact retB (by rw [Bool.eq_iff_iff]; simp only [amtOk, Bool.and_eq_true, decide_eq_true_eq, Bool.false_eq_true, false_iff]; omega) HB1.out
theorem refMay_usd (a : Int) (w : World) : Calls Try.prog 55 #[.agg #[.string ⟨#[85, 83, 68]⟩, .int .i64 a]] w (RetB w (amtOk a)) := by
  have HO := Lib.hid (one_below w (.cells #[.string ⟨#[85, 83, 68]⟩, .int .i64 a] 80))
  have HC := Lib.hid (heap_alloc_new w (.cells #[.string ⟨#[85, 83, 68]⟩, .int .i64 a] 80))
  go_enter Try.func55, Try.ntmps55
  go_wp2_with (first
    | ((with_reducible refine (refCur_usd _).mono ?_); rintro e w1 ⟨rfl, hb1⟩; have c1 : w1.cell? ⟨w.heap.size, 1, none⟩ = some (.int .i64 a) := cell_blk (blk hb1 (lt_blk HC.out) HC.out) 1; have HB1 := Lib.hid (below_then HO.out hb1); clear hb1)
    | fail)
  all_goals
    go_ret
    exact retB (by rw [Bool.eq_iff_iff]; simp only [amtOk, Bool.and_eq_true, decide_eq_true_eq, Bool.false_eq_true, false_iff]; omega) HB1.out

/-- The quotient, rounded up. -/
def ceilq (a n d : Int) : Int := (a * n + (d - 1)) / d
/-- What is known of a·n over d: the whole, what is left. -/
structure Quo (a n d q r : Int) : Prop where
  e : q * d + r = a * n
  r0 : 0 ≤ r
  r1 : r < d
theorem quo_of (a n d : Int) (hd : 1 ≤ d) : Quo a n d (a * n / d) (a * n % d) :=
  ⟨by have := Int.mul_ediv_add_emod (a * n) d; rw [Int.mul_comm]; exact this, Int.emod_nonneg _ (by omega), Int.emod_lt_of_pos _ (by omega)⟩
theorem ceil_quo {a n d q r : Int} (h : Quo a n d q r) (hd : 1 ≤ d) : ceilq a n d = if 0 < r then q + 1 else q := by
  unfold ceilq
  have h1 := h.e
  have h2 := h.r0
  have h3 := h.r1
  split
  · rw [← h1]
    have : q * d + r + (d - 1) = (r - 1) + (q + 1) * d := by rw [Int.add_mul]; omega
    rw [this, Int.add_mul_ediv_right _ _ (by omega), Int.ediv_eq_zero_of_lt (by omega) (by omega)]
    omega
  · have hr : r = 0 := by omega
    rw [← h1, hr]
    have : q * d + 0 + (d - 1) = (d - 1) + q * d := by omega
    rw [this, Int.add_mul_ediv_right _ _ (by omega), Int.ediv_eq_zero_of_lt (by omega) (by omega)]
    omega
end Go.Proofs.Ytehlhfcaajhhaaa.Sc
