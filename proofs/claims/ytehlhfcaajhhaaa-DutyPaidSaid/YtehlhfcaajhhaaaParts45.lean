/- Parts of the reference: n times num, divided by den, bit by bit. -/
import Derived.Test.YtehlhfcaajhhaaaMoney45
namespace Go.Proofs.Ytehlhfcaajhhaaa.Sc
open Go Go.RowKit Go.ChangeShapes Go.WideShapes Go.ChangeAt
set_option maxRecDepth 100000

/-- So far: q and r are P times m over d. -/
structure Inv (P m d q r : Int) : Prop where
  e : q * d + r = P * m
  r0 : 0 ≤ r
  r1 : r < d
theorem inv_two1 {P m d q r q3 r3 : Int} (h : Inv P m d q r) (h1 : q3 = 2 * q + 1) (h2 : r3 = 2 * r - d) (h3 : 0 ≤ r3) : Inv (2 * P) m d q3 r3 := by
  have h4 := h.e
  have h5 := h.r1
  refine ⟨?_, h3, by omega⟩
  rw [h1, h2, Int.add_mul, Int.mul_assoc, Int.mul_assoc, ← h4]
  omega
theorem inv_two0 {P m d q r q2 r2 : Int} (h : Inv P m d q r) (h1 : q2 = 2 * q) (h2 : r2 = 2 * r) (h3 : r2 < d) : Inv (2 * P) m d q2 r2 := by
  have h4 := h.e
  have h5 := h.r0
  refine ⟨?_, by omega, by omega⟩
  rw [h1, h2, Int.mul_assoc, Int.mul_assoc, ← h4]
  omega
theorem inv_zero {P p2 m d q r : Int} (h : Inv (2 * P) m d q r) (hb : p2 = 2 * P + 0) : Inv p2 m d q r := by rw [hb, Int.add_zero]; exact h
theorem inv_one1 {P p2 m d q r Q R r5 : Int} (h : Inv (2 * P) m d q r) (hb : p2 = 2 * P + 1) (hq : Q * d + R = m) (h1 : r + R - d = r5) (h2 : 0 ≤ r5) (h3 : r5 < d) : Inv p2 m d (q + Q + 1) r5 := by
  have h4 := h.e
  refine ⟨?_, h2, h3⟩
  rw [hb, Int.add_mul, Int.add_mul, Int.add_mul]
  omega
theorem inv_one0 {P p2 m d q r Q R r4 : Int} (h : Inv (2 * P) m d q r) (hb : p2 = 2 * P + 1) (hq : Q * d + R = m) (h1 : r + R = r4) (h2 : 0 ≤ r4) (h3 : r4 < d) : Inv p2 m d (q + Q) r4 := by
  have h4 := h.e
  refine ⟨?_, h2, h3⟩
  rw [hb, Int.add_mul, Int.add_mul]
  omega
theorem parts_over {n p2 m d q r : Int} (hm : 0 ≤ m) (hd : 1 ≤ d) (hp : p2 ≤ n) (h : Inv p2 m d q r) (hq : 2199023255552 < q) : 2199023255552 < n * m / d := by
  have h1 : p2 * m ≤ n * m := Int.mul_le_mul_of_nonneg_right hp hm
  have h2 := h.e
  have h3 := h.r0
  have h4 : q ≤ n * m / d := Int.le_ediv_of_mul_le (by omega) (by omega)
  omega
theorem parts_big {n P p2 m d Q R : Int} (hm : 0 ≤ m) (hd : 1 ≤ d) (hQ : Q * d + R = m) (hR : 0 ≤ R) (hq : 2199023255552 < Q) (hb : p2 = 2 * P + 1) (hp : p2 ≤ n) (hP : 0 ≤ P) : 2199023255552 < n * m / d := by
  have h1 : 1 * m ≤ n * m := Int.mul_le_mul_of_nonneg_right (by omega) hm
  have h4 : Q ≤ n * m / d := Int.le_ediv_of_mul_le (by omega) (by omega)
  omega
theorem inv_end {n m d q r : Int} (hd : 1 ≤ d) (h : Inv n m d q r) : q = n * m / d ∧ r = n * m % d := by
  have h1 := h.e
  have h2 := h.r0
  have h3 := h.r1
  have : n * m = r + q * d := by omega
  constructor
  · rw [this, Int.add_mul_ediv_right _ _ (by omega), Int.ediv_eq_zero_of_lt h2 h3]; omega
  · rw [this, Int.add_mul_emod_self_right, Int.emod_eq_of_lt h2 h3]
theorem wrap_q {x : Int} (h : -9223372036854775808 ≤ x ∧ x ≤ 9223372036854775807) : wrap64 x = x := by unfold wrap64; omega
theorem and_one_i64 (E : Int) (h0 : 0 ≤ E) (h1 : E ≤ 9223372036854775807) : bits .and .i64 E 1 = E % 2 := by
  obtain ⟨k, rfl⟩ := Int.eq_ofNat_of_zero_le h0
  have h2 : (BitVec.ofInt 64 (k : Int)).toNat = k := by
    rw [BitVec.toNat_ofInt]
    omega
  have h3 : (BitVec.ofInt 64 (k : Int) &&& BitVec.ofInt 64 1).toNat = k % 2 := by
    rw [BitVec.toNat_and, h2]
    exact Nat.and_one_is_mod k
  have h4 : bits .and .i64 (k : Int) 1 = IntKind.i64.wrap (((BitVec.ofInt 64 (k : Int) &&& BitVec.ofInt 64 1).toNat : Nat) : Int) := rfl
  rw [h4, h3, IntWalk.i64_in _ (by omega)]
  omega
def PartsPost (w : World) (n m d : Int) (e : Ending) (w' : World) : Prop := ∃ q r, e = .returned (.tuple #[.int .i64 q, .int .i64 r]) ∧ ((q = n * m / d ∧ r = n * m % d ∧ q ≤ 2199023255552) ∨ (q = -1 ∧ r = 0 ∧ 2199023255552 < n * m / d)) ∧ Below w.heap.size w w'
set_option maxHeartbeats 8000000 in
theorem parts_any (n m d : Int) (w : World) (h0 : 0 ≤ n) (h1 : n ≤ 1099511627776) (hm : 0 ≤ m) (m1 : m ≤ 9223372036854775807) (hdd : 1 ≤ d) (d1 : d ≤ 9223372036854775807) :
    Calls Try.prog 56 #[.int .i64 n, .int .i64 m, .int .i64 d] w (PartsPost w n m d) := by
  have ed : IntKind.u64.wrap d = d := IntWalk.u64_in _ (by omega)
  obtain ⟨Q, hQ⟩ : ∃ x, x = m / d := ⟨_, rfl⟩
  obtain ⟨R, hR⟩ : ∃ x, x = m % d := ⟨_, rfl⟩
  have hQR : Q * d + R = m := by rw [hQ, hR, Int.mul_comm]; exact Int.mul_ediv_add_emod m d
  have hR0 : 0 ≤ R := by rw [hR]; exact Int.emod_nonneg _ (by omega)
  have hR1 : R < d := by rw [hR]; exact Int.emod_lt_of_pos _ (by omega)
  have hQ0 : 0 ≤ Q := by rw [hQ]; exact Int.ediv_nonneg hm (by omega)
  have hQ1 : Q ≤ m := by rw [hQ]; exact Int.ediv_le_self _ hm
  have eQ : wrap64 (m.tdiv d) = Q := by rw [Int.tdiv_eq_ediv_of_nonneg hm, ← hQ]; exact wrap_q (by omega)
  have eR : IntKind.u64.wrap (m.tmod d) = R := by rw [Int.tmod_eq_emod_of_nonneg hm, ← hR]; exact IntWalk.u64_in _ (by omega)
  have td : ¬ d = 0 := by omega
  have HH := Lib.hid (And.intro h0 (And.intro h1 (And.intro hm (And.intro m1 (And.intro hdd (And.intro d1 (And.intro hQR (And.intro hR0 (And.intro hR1 (And.intro hQ0 hQ1))))))))))
  clear h0 h1 hm m1 hdd d1 hQ hR hQR hR0 hR1 hQ0 hQ1
  go_enter Try.func56, Try.ntmps56
  go_wp2
  go_loop [8, 9, 10] (fun a b i => ∃ k q r : Int, 0 ≤ k ∧ k ≤ 41 ∧ i = .int .i64 k ∧ a = .int .i64 q ∧ b = .int .u64 r ∧ Inv (n / 2 ^ (41 - k).toNat) m d q r ∧ (0 ≤ q ∧ q ≤ 2199023255552)) (fun _ _ i => (41 - intOf i).toNat)
  case atStart =>
    obtain ⟨h0, h1, hm, m1, hdd, d1, hQR, hR0, hR1, hQ0, hQ1⟩ := HH.out
    refine ⟨0, 0, 0, by omega, by omega, rfl, rfl, rfl, ⟨?_, by omega, by omega⟩, by omega, by omega⟩
    have : n / 2 ^ ((41 : Int) - 0).toNat = 0 := Int.ediv_eq_zero_of_lt h0 (by simp; omega)
    rw [this]; omega
  case round =>
    obtain ⟨k, q, r, k0, k1, rfl, rfl, rfl, hinv, hq⟩ := hrel
    have HK := Lib.hid (And.intro k0 k1)
    obtain ⟨h0, h1, hm, m1, hdd, d1, hQR, hR0, hR1, hQ0, hQ1⟩ := HH.out
    by_cases hk : k < 41
    · have tk : decide (k < 41) = true := decide_eq_true hk
      obtain ⟨p2, hp2⟩ : ∃ x, x = n / 2 ^ (40 - k).toNat := ⟨_, rfl⟩
      obtain ⟨P, hP⟩ : ∃ x, x = n / 2 ^ (41 - k).toNat := ⟨_, rfl⟩
      have hPp : P = p2 / 2 := by
        rw [hP, hp2, show (41 - k).toNat = (40 - k).toNat + 1 by omega, Int.pow_succ, Int.ediv_ediv, if_neg (by rintro ⟨h, -⟩; have : (0 : Int) < 2 ^ (40 - k).toNat := Int.pow_pos (by decide); omega), Int.sub_zero]
      have hpos : (0 : Int) < 2 ^ (40 - k).toNat := Int.pow_pos (by decide)
      have hple : p2 ≤ n := by rw [hp2]; exact Int.ediv_le_self _ h0
      have hp0 : 0 ≤ p2 := by rw [hp2]; exact Int.ediv_nonneg h0 (by omega)
      obtain ⟨b, hb'⟩ : ∃ x, x = p2 % 2 := ⟨_, rfl⟩
      have hbit : p2 = 2 * P + b := by omega
      have hb01 : b = 0 ∨ b = 1 := by omega
      have hP0 : 0 ≤ P := by omega
      have eb : bits .and .i64 (n / 2 ^ (40 - k).toNat) 1 = b := by rw [← hp2, and_one_i64 _ hp0 (by omega), hb']
      have HP2 := Lib.hid hp2
      rw [← hP] at hinv
      obtain ⟨q2, hq2⟩ : ∃ x, x = 2 * q := ⟨_, rfl⟩
      obtain ⟨r2, hr2⟩ : ∃ x, x = 2 * r := ⟨_, rfl⟩
      have e1 : wrap64 (2 * q) = q2 := by rw [hq2]; exact wrap_q (by omega)
      have hrr := hinv.r0
      have hrr1 := hinv.r1
      have e2 : IntKind.u64.wrap (2 * r) = r2 := by rw [hr2]; exact IntWalk.u64_in _ (by omega)
      clear hP hPp hpos hp0 hb' hp2
      by_cases h1 : d ≤ r2
      · have t1 : decide (d ≤ r2) = true := decide_eq_true h1
        obtain ⟨q3, hq3⟩ : ∃ x, x = q2 + 1 := ⟨_, rfl⟩
        obtain ⟨r3, hr3⟩ : ∃ x, x = r2 - d := ⟨_, rfl⟩
        have e3 : wrap64 (q2 + 1) = q3 := by rw [hq3]; exact wrap_q (by omega)
        have f3 : IntKind.u64.wrap (r2 - d) = r3 := by rw [hr3]; exact IntWalk.u64_in _ (by omega)
        have hinv3 := inv_two1 hinv (show q3 = 2 * q + 1 by omega) (show r3 = 2 * r - d by omega) (by omega)
        have hq3b : 0 ≤ q3 ∧ q3 ≤ 4398046511105 := by omega
        have hr3b : 0 ≤ r3 ∧ r3 < d := ⟨hinv3.r0, hinv3.r1⟩
        clear hq3 hr3 h1 hq2 hr2
        by_cases hb : b = 0
        · subst hb
          have hinv2 := inv_zero hinv3 hbit
          by_cases hz : 2199023255552 < q3
          · have tz : decide (2199023255552 < q3) = true := decide_eq_true hz
            have HR := Lib.hid (parts_over hm hdd hple hinv2 hz)
            clear hm hdd hple hP0 hinv2 hz hinv hq hQR hQ0 hR0 hR1 hbit hq3b hr3b hinv3 
            go_wp2
            go_ret2
            exact ⟨-1, 0, rfl, .inr ⟨rfl, rfl, HR.out⟩, Below.refl _ _⟩
          · have tz : decide (2199023255552 < q3) = false := decide_eq_false hz
            have HR := Lib.hid (And.intro hinv2 (show 0 ≤ q3 ∧ q3 ≤ 2199023255552 by omega))
            clear hm hdd hple hP0 hinv2 hz hinv hq hQR hQ0 hR0 hR1 hbit hq3b hr3b hinv3 
            go_wp2
            go_round
            case rel => exact ⟨k + 1, q3, r3, by have := HK.out; omega, by have := HK.out; omega, rfl, by first | rfl | simp [*], by first | rfl | simp [*], by rw [show (41 : Int) - (k + 1) = 40 - k by omega, ← HP2.out]; exact HR.out.1, HR.out.2⟩
            case measure => (have := HK.out; simp [intOf]; omega)
        · obtain rfl : b = 1 := by omega
          by_cases hQ : 2199023255552 < Q
          · have tQ : decide (2199023255552 < Q) = true := decide_eq_true hQ
            have HR := Lib.hid (parts_big hm hdd hQR hR0 hQ hbit hple hP0)
            clear hm hdd hple hP0 hinv hq hQR hQ0 hR0 hR1 hbit hq3b hr3b hQ hinv3
            go_wp2
            go_ret2
            exact ⟨-1, 0, rfl, .inr ⟨rfl, rfl, HR.out⟩, Below.refl _ _⟩
          · have tQ : decide (2199023255552 < Q) = false := decide_eq_false hQ
            have e4 : wrap64 (q3 + Q) = q3 + Q := wrap_q (by omega)
            obtain ⟨r4, hr4⟩ : ∃ x, x = r3 + R := ⟨_, rfl⟩
            have f4 : IntKind.u64.wrap (r3 + R) = r4 := by rw [hr4]; exact IntWalk.u64_in _ (by omega)
            by_cases h4 : d ≤ r4
            · have t4 : decide (d ≤ r4) = true := decide_eq_true h4
              have e5 : wrap64 (q3 + Q + 1) = q3 + Q + 1 := wrap_q (by omega)
              obtain ⟨r5, hr5⟩ : ∃ x, x = r4 - d := ⟨_, rfl⟩
              have f5 : IntKind.u64.wrap (r4 - d) = r5 := by rw [hr5]; exact IntWalk.u64_in _ (by omega)
              have hinv2 := inv_one1 hinv3 hbit hQR (show r3 + R - d = r5 by omega) (by omega) (by omega)
              by_cases hz : 2199023255552 < q3 + Q + 1
              · have tz : decide (2199023255552 < q3 + Q + 1) = true := decide_eq_true hz
                have HR := Lib.hid (parts_over hm hdd hple hinv2 hz)
                clear hm hdd hple hP0 hinv2 hz hinv hq hQR hQ0 hR0 hR1 hbit hq3b hr3b hinv3 hr4 hr5 h4 hQ
                go_wp2
                go_ret2
                exact ⟨-1, 0, rfl, .inr ⟨rfl, rfl, HR.out⟩, Below.refl _ _⟩
              · have tz : decide (2199023255552 < q3 + Q + 1) = false := decide_eq_false hz
                have HR := Lib.hid (And.intro hinv2 (show 0 ≤ q3 + Q + 1 ∧ q3 + Q + 1 ≤ 2199023255552 by omega))
                clear hm hdd hple hP0 hinv2 hz hinv hq hQR hQ0 hR0 hR1 hbit hq3b hr3b hinv3 hr4 hr5 h4 hQ
                go_wp2
                go_round
                case rel => exact ⟨k + 1, q3 + Q + 1, r5, by have := HK.out; omega, by have := HK.out; omega, rfl, by first | rfl | simp [*], by first | rfl | simp [*], by rw [show (41 : Int) - (k + 1) = 40 - k by omega, ← HP2.out]; exact HR.out.1, HR.out.2⟩
                case measure => (have := HK.out; simp [intOf]; omega)
            · have t4 : decide (d ≤ r4) = false := decide_eq_false h4
              have hinv2 := inv_one0 hinv3 hbit hQR (show r3 + R = r4 by omega) (by omega) (by omega)
              by_cases hz : 2199023255552 < q3 + Q
              · have tz : decide (2199023255552 < q3 + Q) = true := decide_eq_true hz
                have HR := Lib.hid (parts_over hm hdd hple hinv2 hz)
                clear hm hdd hple hP0 hinv2 hz hinv hq hQR hQ0 hR0 hR1 hbit hq3b hr3b hinv3 hr4 h4 hQ
                go_wp2
                go_ret2
                exact ⟨-1, 0, rfl, .inr ⟨rfl, rfl, HR.out⟩, Below.refl _ _⟩
              · have tz : decide (2199023255552 < q3 + Q) = false := decide_eq_false hz
                have HR := Lib.hid (And.intro hinv2 (show 0 ≤ q3 + Q ∧ q3 + Q ≤ 2199023255552 by omega))
                clear hm hdd hple hP0 hinv2 hz hinv hq hQR hQ0 hR0 hR1 hbit hq3b hr3b hinv3 hr4 h4 hQ
                go_wp2
                go_round
                case rel => exact ⟨k + 1, q3 + Q, r4, by have := HK.out; omega, by have := HK.out; omega, rfl, by first | rfl | simp [*], by first | rfl | simp [*], by rw [show (41 : Int) - (k + 1) = 40 - k by omega, ← HP2.out]; exact HR.out.1, HR.out.2⟩
                case measure => (have := HK.out; simp [intOf]; omega)
      · have t1 : decide (d ≤ r2) = false := decide_eq_false h1
        have hinv3 := inv_two0 hinv hq2 hr2 (by omega)
        have hq3b : 0 ≤ q2 ∧ q2 ≤ 4398046511105 := by omega
        have hr3b : 0 ≤ r2 ∧ r2 < d := ⟨hinv3.r0, hinv3.r1⟩
        clear h1 hq2 hr2
        by_cases hb : b = 0
        · subst hb
          have hinv2 := inv_zero hinv3 hbit
          by_cases hz : 2199023255552 < q2
          · have tz : decide (2199023255552 < q2) = true := decide_eq_true hz
            have HR := Lib.hid (parts_over hm hdd hple hinv2 hz)
            clear hm hdd hple hP0 hinv2 hz hinv hq hQR hQ0 hR0 hR1 hbit hq3b hr3b hinv3 
            go_wp2
            go_ret2
            exact ⟨-1, 0, rfl, .inr ⟨rfl, rfl, HR.out⟩, Below.refl _ _⟩
          · have tz : decide (2199023255552 < q2) = false := decide_eq_false hz
            have HR := Lib.hid (And.intro hinv2 (show 0 ≤ q2 ∧ q2 ≤ 2199023255552 by omega))
            clear hm hdd hple hP0 hinv2 hz hinv hq hQR hQ0 hR0 hR1 hbit hq3b hr3b hinv3 
            go_wp2
            go_round
            case rel => exact ⟨k + 1, q2, r2, by have := HK.out; omega, by have := HK.out; omega, rfl, by first | rfl | simp [*], by first | rfl | simp [*], by rw [show (41 : Int) - (k + 1) = 40 - k by omega, ← HP2.out]; exact HR.out.1, HR.out.2⟩
            case measure => (have := HK.out; simp [intOf]; omega)
        · obtain rfl : b = 1 := by omega
          by_cases hQ : 2199023255552 < Q
          · have tQ : decide (2199023255552 < Q) = true := decide_eq_true hQ
            have HR := Lib.hid (parts_big hm hdd hQR hR0 hQ hbit hple hP0)
            clear hm hdd hple hP0 hinv hq hQR hQ0 hR0 hR1 hbit hq3b hr3b hQ hinv3
            go_wp2
            go_ret2
            exact ⟨-1, 0, rfl, .inr ⟨rfl, rfl, HR.out⟩, Below.refl _ _⟩
          · have tQ : decide (2199023255552 < Q) = false := decide_eq_false hQ
            have e4 : wrap64 (q2 + Q) = q2 + Q := wrap_q (by omega)
            obtain ⟨r4, hr4⟩ : ∃ x, x = r2 + R := ⟨_, rfl⟩
            have f4 : IntKind.u64.wrap (r2 + R) = r4 := by rw [hr4]; exact IntWalk.u64_in _ (by omega)
            by_cases h4 : d ≤ r4
            · have t4 : decide (d ≤ r4) = true := decide_eq_true h4
              have e5 : wrap64 (q2 + Q + 1) = q2 + Q + 1 := wrap_q (by omega)
              obtain ⟨r5, hr5⟩ : ∃ x, x = r4 - d := ⟨_, rfl⟩
              have f5 : IntKind.u64.wrap (r4 - d) = r5 := by rw [hr5]; exact IntWalk.u64_in _ (by omega)
              have hinv2 := inv_one1 hinv3 hbit hQR (show r2 + R - d = r5 by omega) (by omega) (by omega)
              by_cases hz : 2199023255552 < q2 + Q + 1
              · have tz : decide (2199023255552 < q2 + Q + 1) = true := decide_eq_true hz
                have HR := Lib.hid (parts_over hm hdd hple hinv2 hz)
                clear hm hdd hple hP0 hinv2 hz hinv hq hQR hQ0 hR0 hR1 hbit hq3b hr3b hinv3 hr4 hr5 h4 hQ
                go_wp2
                go_ret2
                exact ⟨-1, 0, rfl, .inr ⟨rfl, rfl, HR.out⟩, Below.refl _ _⟩
              · have tz : decide (2199023255552 < q2 + Q + 1) = false := decide_eq_false hz
                have HR := Lib.hid (And.intro hinv2 (show 0 ≤ q2 + Q + 1 ∧ q2 + Q + 1 ≤ 2199023255552 by omega))
                clear hm hdd hple hP0 hinv2 hz hinv hq hQR hQ0 hR0 hR1 hbit hq3b hr3b hinv3 hr4 hr5 h4 hQ
                go_wp2
                go_round
                case rel => exact ⟨k + 1, q2 + Q + 1, r5, by have := HK.out; omega, by have := HK.out; omega, rfl, by first | rfl | simp [*], by first | rfl | simp [*], by rw [show (41 : Int) - (k + 1) = 40 - k by omega, ← HP2.out]; exact HR.out.1, HR.out.2⟩
                case measure => (have := HK.out; simp [intOf]; omega)
            · have t4 : decide (d ≤ r4) = false := decide_eq_false h4
              have hinv2 := inv_one0 hinv3 hbit hQR (show r2 + R = r4 by omega) (by omega) (by omega)
              by_cases hz : 2199023255552 < q2 + Q
              · have tz : decide (2199023255552 < q2 + Q) = true := decide_eq_true hz
                have HR := Lib.hid (parts_over hm hdd hple hinv2 hz)
                clear hm hdd hple hP0 hinv2 hz hinv hq hQR hQ0 hR0 hR1 hbit hq3b hr3b hinv3 hr4 h4 hQ
                go_wp2
                go_ret2
                exact ⟨-1, 0, rfl, .inr ⟨rfl, rfl, HR.out⟩, Below.refl _ _⟩
              · have tz : decide (2199023255552 < q2 + Q) = false := decide_eq_false hz
                have HR := Lib.hid (And.intro hinv2 (show 0 ≤ q2 + Q ∧ q2 + Q ≤ 2199023255552 by omega))
                clear hm hdd hple hP0 hinv2 hz hinv hq hQR hQ0 hR0 hR1 hbit hq3b hr3b hinv3 hr4 h4 hQ
                go_wp2
                go_round
                case rel => exact ⟨k + 1, q2 + Q, r4, by have := HK.out; omega, by have := HK.out; omega, rfl, by first | rfl | simp [*], by first | rfl | simp [*], by rw [show (41 : Int) - (k + 1) = 40 - k by omega, ← HP2.out]; exact HR.out.1, HR.out.2⟩
                case measure => (have := HK.out; simp [intOf]; omega)
    · obtain rfl : k = 41 := by omega
      have er : IntKind.i64.wrap r = r := IntWalk.i64_in _ (by have := hinv.r0; have := hinv.r1; omega)
      have HI := Lib.hid hinv
      have HQ := Lib.hid hq
      clear hinv hq h0 h1 hm m1 hdd d1 hQR hR0 hR1 hQ0 hQ1 k0 k1
      go_wp2
      go_ret2
      have h := HI.out
      rw [show ((41 : Int) - 41).toNat = 0 by rfl, Int.pow_zero, Int.ediv_one] at h
      obtain ⟨a1, a2⟩ := inv_end (by have := HH.out; omega) h
      exact ⟨_, _, rfl, .inl ⟨a1, a2, HQ.out.2⟩, Below.refl _ _⟩
end Go.Proofs.Ytehlhfcaajhhaaa.Sc
