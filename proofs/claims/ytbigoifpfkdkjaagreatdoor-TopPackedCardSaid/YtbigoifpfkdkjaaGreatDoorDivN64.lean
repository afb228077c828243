/- bits.Div64: for any two words and a greater one. -/
import Derived.Test.YtbigoifpfkdkjaaGreatDoorDiv64
import Derived.Lib.BitFns
import Derived.Laws.Bits64b
namespace Go.Proofs.YtbigoifpfkdkjaaGreatDoor.Sc
open Go Go.RowKit Go.ChangeShapes Go.WideShapes Go.ChangeAt
set_option maxRecDepth 100000

theorem u64_mod (x : Int) : IntKind.u64.wrap x = x % 18446744073709551616 := by simp [IntKind.wrap, IntKind.bits, IntKind.signed]
theorem wrap_comb {a b c d r : Int} (h : a * 4294967296 + b - c * d = r) (h0 : 0 ≤ r) (h1 : r < 18446744073709551616) : IntKind.u64.wrap (IntKind.u64.wrap (IntKind.u64.wrap (a * 4294967296) + b) - IntKind.u64.wrap (c * d)) = r := by
  simp only [u64_mod]
  generalize c * d = y at *
  omega
theorem wrap_sub {u q y r : Int} (h : u - q * y = r) (h0 : 0 ≤ r) (h1 : r < 18446744073709551616) : IntKind.u64.wrap (u - IntKind.u64.wrap (q * y)) = r := by
  simp only [u64_mod]
  generalize q * y = z at *
  omega
theorem bitLen_bd (x : Nat) (h0 : 0 < x) (h : x < 2 ^ 64) : ∃ k, Lib.bitLen x = k + 1 ∧ k ≤ 63 ∧ 2 ^ k ≤ x ∧ x < 2 ^ (k + 1) := by
  have key : ∀ (n x : Nat), 0 < x → x < 2 ^ (n + 1) → n ≤ 63 → ∃ k, Lib.bitLen x = k + 1 ∧ k ≤ n ∧ 2 ^ k ≤ x ∧ x < 2 ^ (k + 1) := by
    intro n
    induction n with
    | zero =>
      intro x h0 h _
      obtain rfl : x = 1 := by simp at h; omega
      exact ⟨0, by decide, by omega, by simp, by simp⟩
    | succ n ih =>
      intro x h0 h hn
      have hp : 2 ^ (n + 1 + 1) = 2 * 2 ^ (n + 1) := by rw [Nat.pow_succ]; omega
      have h64 : (2 : Nat) ^ (n + 1 + 1) ≤ 2 ^ 64 := Nat.pow_le_pow_right (by decide) (by omega)
      by_cases h1 : x = 1
      · subst h1; exact ⟨0, by decide, by omega, by simp, by simp⟩
      · have hb := Lib.bitLen_half x (by omega) (by omega)
        obtain ⟨k, a1, a2, a3, a4⟩ := ih (x / 2) (by omega) (by omega) (by omega)
        have hk : 2 ^ (k + 1) = 2 * 2 ^ k := by rw [Nat.pow_succ]; omega
        have hk2 : 2 ^ (k + 1 + 1) = 2 * 2 ^ (k + 1) := by rw [Nat.pow_succ]; omega
        exact ⟨k + 1, by omega, by omega, by omega, by omega⟩
  exact key 63 x h0 h (by omega)
theorem knuth_of {U a y0 y1 Y Q R : Nat} (hd : Digit U a Y Q R) (ha : a < 4294967296) (hY : Y = y1 * 4294967296 + y0) (hy0 : y0 < 4294967296) (hy1 : 2147483648 ≤ y1) (hy2 : y1 < 4294967296) (hU : U < Y) :
    Knuth (fun q r => 0 ≤ q ∧ 0 ≤ r ∧ Guess U a y0 y1 Y Q q.toNat r.toNat) a y0 y1 Q (U / y1 : Nat) (U % y1 : Nat) where
  start := ⟨Int.natCast_nonneg _, Int.natCast_nonneg _, by simpa only [Int.toNat_natCast] using guess_start hd ha hY hy0 hy1 hy2 hU⟩
  small := by omega
  bd := by
    rintro q r ⟨h1, h2, h3⟩
    have := h3.q1
    have := h3.r1
    omega
  fine := by
    rintro q r ⟨h1, h2, h3⟩ h4 h5
    obtain ⟨q, rfl⟩ := Int.eq_ofNat_of_zero_le h1
    obtain ⟨r, rfl⟩ := Int.eq_ofNat_of_zero_le h2
    simp only [Int.toNat_natCast] at *
    have hc := Int.natCast_mul q y0
    have := guess_fine hd hY h3 (by omega)
    omega
  over := by
    rintro q r ⟨h1, h2, h3⟩ h4
    obtain ⟨q, rfl⟩ := Int.eq_ofNat_of_zero_le h1
    obtain ⟨r, rfl⟩ := Int.eq_ofNat_of_zero_le h2
    simp only [Int.toNat_natCast] at *
    have hc := Int.natCast_mul q y0
    obtain ⟨h5, h6⟩ := guess_over hd ha hY hU h3 (h4.imp (fun h => by omega) (fun h => by omega))
    have he : (q - 1) * y1 + (r + y1) = U := by
      have := h3.e
      have h7 : (q - 1) * y1 + y1 = q * y1 := by
        have : q = (q - 1) + 1 := by omega
        conv => rhs; rw [this, Nat.add_mul]
        omega
      omega
    constructor
    · intro h7
      have := guess_break hd hY hy0 hU he (by omega) (by omega)
      omega
    · intro h7
      have e1 : ((q : Int) - 1).toNat = q - 1 := by omega
      have e2 : ((r : Int) + y1).toNat = r + y1 := by omega
      rw [e1, e2]
      exact ⟨by omega, by omega, he, by omega, by have := h3.q1; omega, by omega⟩
theorem digit_of (U a Y : Nat) (hY : 0 < Y) : Digit U a Y ((U * 4294967296 + a) / Y) ((U * 4294967296 + a) % Y) :=
  ⟨by rw [Nat.mul_comm]; exact Nat.div_add_mod _ _, Nat.mod_lt _ hY⟩
theorem div64_any (hi lo y : Nat) (w : World) (hl : lo < 18446744073709551616) (hy : hi < y) (hy2 : y < 18446744073709551616) :
    Calls Tryz.prog 118 #[.int .u64 hi, .int .u64 lo, .int .u64 y] w (Ret w (.tuple #[.int .u64 (((hi * 18446744073709551616 + lo) / y : Nat) : Int), .int .u64 (((hi * 18446744073709551616 + lo) % y : Nat) : Int)])) := by
  by_cases hh : hi = 0
  · subst hh
    have := div64_low lo y w hl (by omega) hy2
    simpa using this
  obtain ⟨k, b1, b2, b3, b4⟩ := bitLen_bd y (by omega) (by omega)
  obtain ⟨s, hs⟩ : ∃ s, s + k = 63 := ⟨63 - k, by omega⟩
  have hpow : (2 : Nat) ^ s * 2 ^ k = 9223372036854775808 := by rw [← Nat.pow_add, hs]
  have hpow1 : (2 : Nat) ^ s * 2 ^ (k + 1) = 18446744073709551616 := by rw [Nat.pow_succ, ← Nat.mul_assoc, hpow]
  have hps : 0 < (2 : Nat) ^ s := Nat.pow_pos (by decide)
  obtain ⟨Y, hY⟩ : ∃ Y, Y = y * 2 ^ s := ⟨_, rfl⟩
  have hY1 : 9223372036854775808 ≤ Y := by rw [hY, ← hpow, Nat.mul_comm]; exact Nat.mul_le_mul_right _ b3
  have hY2 : Y < 18446744073709551616 := by rw [hY, ← hpow1, Nat.mul_comm]; exact Nat.mul_lt_mul_of_pos_left b4 hps
  obtain ⟨A, hA⟩ : ∃ A, A = lo * 2 ^ s % 18446744073709551616 := ⟨_, rfl⟩
  have hA2 : A < 18446744073709551616 := by omega
  have hsp : (2 : Nat) ^ s * 2 ^ (64 - s) = 18446744073709551616 := by rw [← Nat.pow_add, show s + (64 - s) = 64 by omega]
  have hp64 : 0 < (2 : Nat) ^ (64 - s) := Nat.pow_pos (by decide)
  obtain ⟨L, hL⟩ : ∃ L, L = lo / 2 ^ (64 - s) := ⟨_, rfl⟩
  have hL2 : L < 2 ^ s := by rw [hL, Nat.div_lt_iff_lt_mul hp64, hsp]; exact hl
  have hL3 : lo * 2 ^ s / 18446744073709551616 = L := by rw [hL, ← hsp, Nat.mul_comm lo, Nat.mul_div_mul_left _ _ hps]
  have hlo : lo * 2 ^ s = L * 18446744073709551616 + A := by
    have := Nat.div_add_mod (lo * 2 ^ s) 18446744073709551616
    rw [hL3, ← hA] at this
    omega
  obtain ⟨H, hH⟩ : ∃ H, H = hi * 2 ^ s := ⟨_, rfl⟩
  have hHY : H + 2 ^ s ≤ Y := by
    rw [hH, hY]
    have : (hi + 1) * 2 ^ s ≤ y * 2 ^ s := Nat.mul_le_mul_right _ (by omega)
    rw [Nat.add_mul] at this
    omega
  obtain ⟨U, hU⟩ : ∃ U, U = H + L := ⟨_, rfl⟩
  have hUY : U < Y := by omega
  have hN : (hi * 18446744073709551616 + lo) * 2 ^ s = U * 18446744073709551616 + A := by
    rw [Nat.add_mul, Nat.mul_right_comm, ← hH, hlo, hU]
    omega
  obtain ⟨y1, hy1⟩ : ∃ x, x = Y / 4294967296 := ⟨_, rfl⟩
  obtain ⟨y0, hy0⟩ : ∃ x, x = Y % 4294967296 := ⟨_, rfl⟩
  obtain ⟨a1, ha1⟩ : ∃ x, x = A / 4294967296 := ⟨_, rfl⟩
  obtain ⟨a0, ha0⟩ : ∃ x, x = A % 4294967296 := ⟨_, rfl⟩
  have hd1 := digit_of U a1 Y (by omega)
  obtain ⟨Q1, hQ1⟩ : ∃ x, x = (U * 4294967296 + a1) / Y := ⟨_, rfl⟩
  obtain ⟨R1, hR1⟩ : ∃ x, x = (U * 4294967296 + a1) % Y := ⟨_, rfl⟩
  rw [← hQ1, ← hR1] at hd1
  have hd0 := digit_of R1 a0 Y (by omega)
  obtain ⟨Q0, hQ0⟩ : ∃ x, x = (R1 * 4294967296 + a0) / Y := ⟨_, rfl⟩
  obtain ⟨R0, hR0⟩ : ∃ x, x = (R1 * 4294967296 + a0) % Y := ⟨_, rfl⟩
  rw [← hQ0, ← hR0] at hd0
  clear hQ1 hR1 hQ0 hR0
  have k1 := knuth_of (y0 := y0) (y1 := y1) hd1 (by omega) (by omega) (by omega) (by omega) (by omega) hUY
  have k2 := knuth_of (y0 := y0) (y1 := y1) hd0 (by omega) (by omega) (by omega) (by omega) (by omega) hd1.r
  have hq1 : Q1 < 4294967296 := by
    apply Nat.lt_of_mul_lt_mul_right (a := Y)
    have := hd1.e
    omega
  have hq0 : Q0 < 4294967296 := by
    apply Nat.lt_of_mul_lt_mul_right (a := Y)
    have := hd0.e
    have := hd1.r
    omega
  have hall : (hi * 18446744073709551616 + lo) * 2 ^ s = (Q1 * 4294967296 + Q0) * Y + R0 := by
    rw [hN, Nat.add_mul, Nat.mul_right_comm]
    have h1 := hd1.e
    have h0 := hd0.e
    generalize Q1 * Y = z1 at *
    generalize Q0 * Y = z0 at *
    omega
  have hres : (hi * 18446744073709551616 + lo) / y = Q1 * 4294967296 + Q0 := by
    have h1 : (hi * 18446744073709551616 + lo) * 2 ^ s / (y * 2 ^ s) = (hi * 18446744073709551616 + lo) / y := Nat.mul_div_mul_right _ _ hps
    rw [← h1, hall, ← hY, Nat.mul_comm, Nat.mul_add_div (by omega), Nat.div_eq_of_lt hd0.r, Nat.add_zero]
  have hrem : (hi * 18446744073709551616 + lo) % y = R0 / 2 ^ s := by
    have h1 : (hi * 18446744073709551616 + lo) * 2 ^ s % (y * 2 ^ s) = (hi * 18446744073709551616 + lo) % y * 2 ^ s := Nat.mul_mod_mul_right _ _ _
    rw [hall, ← hY, Nat.mul_comm (Q1 * 4294967296 + Q0), Nat.mul_add_mod, Nat.mod_eq_of_lt hd0.r] at h1
    rw [h1, Nat.mul_div_cancel _ hps]
  have hr0 : R0 < Y := hd0.r
  have hr1 : R1 < Y := hd1.r
  rw [hres, hrem]
  have cast : ∀ a b : Nat, ((a * 2 ^ b : Nat) : Int) = (a : Int) * 2 ^ b := fun a b => by push_cast; rfl
  have castd : ∀ a b : Nat, ((a / 2 ^ b : Nat) : Int) = (a : Int) / 2 ^ b := fun a b => by push_cast; rfl
  refine div64_walk w hi lo y Y y1 y0 A a1 a0 U (U / y1 : Nat) (U % y1 : Nat) Q1 R1 (R1 / y1 : Nat) (R1 % y1 : Nat) Q0 R0 _ _ s _ _ (fun w => ?_) (by omega) ?_ ?_ ?_ ?_ ?_ ?_ ?_ ?_ ?_ ?_ ?_ ?_ ?_ k1 k2 ?_ ?_ ?_ ?_ ?_ ?_
  · have := Tryz.bits_LeadingZeros64 y w (by omega) (by omega)
    rw [Int.toNat_natCast, b1, show (64 : Int) - ((k + 1 : Nat) : Int) = s by omega] at this
    exact this
  · simp; omega
  · simp; omega
  · simp; omega
  · omega
  · rw [← cast, ← hY]; exact IntWalk.u64_in _ (by omega)
  · have h1 := bits_and_u64_nat Y 4294967295 hY2 (by decide)
    rw [Nat.and_two_pow_sub_one_eq_mod Y 32] at h1
    rw [hy0]
    exact h1
  · have h1 : IntKind.u64.wrap ((hi : Int) * 2 ^ s) = (H : Int) := by rw [← cast, ← hH]; exact IntWalk.u64_in _ (by omega)
    rw [h1, ← castd, ← hL, bits_or_u64_nat H L (by omega) (by omega)]
    rw [hH, Nat.mul_comm hi, ← Nat.two_pow_add_eq_or_of_lt hL2, hU, hH, Nat.mul_comm hi]
  · rw [← cast, u64_mod, hA]; omega
  · have h1 := bits_and_u64_nat A 4294967295 hA2 (by decide)
    rw [Nat.and_two_pow_sub_one_eq_mod A 32] at h1
    rw [ha0]
    exact h1
  · omega
  · omega
  · rw [IntWalk.u64_quo _ _ (by omega)]; simp
  · refine wrap_sub ?_ (by omega) (by have := Nat.mod_lt U (show 0 < y1 by omega); omega)
    have := Nat.div_add_mod U y1
    have h2 : ((U / y1 : Nat) : Int) * y1 + ((U % y1 : Nat) : Int) = U := by
      have := congrArg (fun n : Nat => (n : Int)) this
      simp only [Int.natCast_add, Int.natCast_mul] at this
      rw [Int.mul_comm]
      exact this
    omega
  · refine wrap_comb ?_ (by omega) (by omega)
    have h2 : (Q1 : Int) * Y + R1 = U * 4294967296 + a1 := by
      have := congrArg (fun n : Nat => (n : Int)) hd1.e
      simp only [Int.natCast_add, Int.natCast_mul] at this
      omega
    omega
  · rw [IntWalk.u64_quo _ _ (by omega)]; simp
  · refine wrap_sub ?_ (by omega) (by have := Nat.mod_lt R1 (show 0 < y1 by omega); omega)
    have := Nat.div_add_mod R1 y1
    have h2 : ((R1 / y1 : Nat) : Int) * y1 + ((R1 % y1 : Nat) : Int) = R1 := by
      have := congrArg (fun n : Nat => (n : Int)) this
      simp only [Int.natCast_add, Int.natCast_mul] at this
      rw [Int.mul_comm]
      exact this
    omega
  · rw [IntWalk.u64_in ((Q1 : Int) * 4294967296) (by omega), IntWalk.u64_in _ (by omega)]; omega
  · refine wrap_comb ?_ (by omega) (by omega)
    have h2 : (Q0 : Int) * Y + R0 = R1 * 4294967296 + a0 := by
      have := congrArg (fun n : Nat => (n : Int)) hd0.e
      simp only [Int.natCast_add, Int.natCast_mul] at this
      omega
    omega
  · rw [← castd]
end Go.Proofs.YtbigoifpfkdkjaaGreatDoor.Sc
