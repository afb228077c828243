/- bits.Div64 of the library: the quotient and the remainder of two words by one. bits.Div64: for any two words and a greater one. -/
import Derived.Test.YtnbhneeohkfocaaDoorTo06
import Derived.Test.YtnbhneeohkfocaaDoorTo07
import Derived.Lib.BitFns
import Derived.Laws.Bits64b
namespace Go.Proofs.YtnbhneeohkfocaaDoor.Sc
open Go Go.RowKit Go.ChangeShapes Go.WideShapes Go.ChangeAt
set_option maxRecDepth 100000

theorem ret_pair {a b a' b' : Int} {k k' : IntKind} (h : a = a') (h2 : b = b') : Ending.returned (.tuple #[.int k a, .int k' b]) = .returned (.tuple #[.int k a', .int k' b']) := by rw [h, h2]
set_option maxHeartbeats 4000000 in
theorem div64_low (lo y : Nat) (w : World) (hl : lo < 18446744073709551616) (hy : 0 < y) (hy2 : y < 18446744073709551616) :
    Calls Tryd.prog 30 #[.int .u64 0, .int .u64 lo, .int .u64 y] w (Ret w (.tuple #[.int .u64 ((lo / y : Nat) : Int), .int .u64 ((lo % y : Nat) : Int)])) := by
  have t1 : ((y : Int) == 0) = false := by simp; omega
  have t2 : decide ((y : Int) ≤ 0) = false := by simp; omega
  have h0 : (0 : Int) ≤ lo := by omega
  have h2 : (0 : Int) < y := by omega
  have HLO := Lib.hid hl
  clear hl hy2
  go_enter Tryd.func30, Tryd.ntmps30
  go_wp2_with fail
  go_quiet (fail)
  go_wp2_with fail
  go_ret2
  exact ⟨ret_pair (by
    have h1 : (lo : Int) / y = ((lo / y : Nat) : Int) := by simp
    have h3 : lo / y ≤ lo := Nat.div_le_self _ _
    have HL := HLO.out
    have h5 : 0 ≤ ((lo / y : Nat) : Int) ∧ ((lo / y : Nat) : Int) ≤ 18446744073709551615 := ⟨Int.natCast_nonneg _, by have : ((lo / y : Nat) : Int) ≤ (lo : Int) := Int.ofNat_le.2 h3; omega⟩
    have h4 : IntKind.u64.wrap ((lo / y : Nat) : Int) = ((lo / y : Nat) : Int) := IntWalk.u64_in _ h5
    rw [h1, h4]) (by simp), below_drewN (Below.refl _ _) nq⟩
/-- The parts of the division, as the code reckons them. -/
structure Parts64 (hi lo y s : Nat) (Y y1 y0 A a1 a0 U : Nat) : Prop where
  hY : Y = y * 2 ^ s
  hY1 : 9223372036854775808 ≤ Y
  hY2 : Y < 18446744073709551616
  hy1 : y1 = Y / 4294967296
  hy0 : y0 = Y % 4294967296
  hA : A = lo * 2 ^ s % 18446744073709551616
  ha1 : a1 = A / 4294967296
  ha0 : a0 = A % 4294967296
  hU : U * 18446744073709551616 + A = (hi * 18446744073709551616 + lo) * 2 ^ s
  hUY : U < Y
/-- One digit's guess. -/
structure Guess (U a y0 y1 Y Q q r : Nat) : Prop where
  e : q * y1 + r = U
  q0 : Q ≤ q
  q1 : q ≤ 8589934592
  r1 : r < 4294967296
structure Digit (U a Y Q R : Nat) : Prop where
  e : Q * Y + R = U * 4294967296 + a
  r : R < Y
theorem guess_start {U a y0 y1 Y Q R : Nat} (hd : Digit U a Y Q R) (ha : a < 4294967296) (hY : Y = y1 * 4294967296 + y0) (hy0 : y0 < 4294967296) (hy1 : 2147483648 ≤ y1) (hy2 : y1 < 4294967296) (hU : U < Y) : Guess U a y0 y1 Y Q (U / y1) (U % y1) := by
  have hm := Nat.div_add_mod U y1
  have hlt := Nat.mod_lt U (show 0 < y1 by omega)
  refine ⟨by rw [Nat.mul_comm]; exact hm, ?_, ?_, by omega⟩
  · rw [Nat.le_div_iff_mul_le (by omega)]
    have h1 := hd.e
    have h2 : Q * Y = Q * y1 * 4294967296 + Q * y0 := by rw [hY, Nat.mul_add, Nat.mul_assoc]
    omega
  · have : U / y1 * y1 ≤ U := Nat.div_mul_le_self U y1
    apply Classical.byContradiction
    intro h
    have h3 : 8589934593 * y1 ≤ U / y1 * y1 := Nat.mul_le_mul_right _ (by omega)
    omega
theorem guess_fine {U a y0 y1 Y Q R q r : Nat} (hd : Digit U a Y Q R) (hY : Y = y1 * 4294967296 + y0) (h : Guess U a y0 y1 Y Q q r) (ht : q * y0 ≤ 4294967296 * r + a) : q = Q := by
  have h1 := hd.e
  have h2 : q * Y = q * y1 * 4294967296 + q * y0 := by rw [hY, Nat.mul_add, Nat.mul_assoc]
  have h3 := h.e
  have h4 := hd.r
  have h5 : q * Y ≤ U * 4294967296 + a := by omega
  have h6 : q < Q + 1 := by
    apply Nat.lt_of_mul_lt_mul_right (a := Y)
    rw [Nat.add_mul]
    omega
  have := h.q0
  omega
theorem guess_over {U a y0 y1 Y Q R q r : Nat} (hd : Digit U a Y Q R) (ha : a < 4294967296) (hY : Y = y1 * 4294967296 + y0) (hU : U < Y) (h : Guess U a y0 y1 Y Q q r) (ht : 4294967296 ≤ q ∨ 4294967296 * r + a < q * y0) : Q + 1 ≤ q ∧ Q < 4294967296 := by
  have h1 := hd.e
  have hQ : Q < 4294967296 := by
    apply Nat.lt_of_mul_lt_mul_right (a := Y)
    omega
  rcases ht with ht | ht
  · omega
  · have h2 : q * Y = q * y1 * 4294967296 + q * y0 := by rw [hY, Nat.mul_add, Nat.mul_assoc]
    have h3 := h.e
    have h5 : U * 4294967296 + a < q * Y := by omega
    have h6 : Q < q := by
      apply Nat.lt_of_mul_lt_mul_right (a := Y)
      omega
    omega
theorem guess_break {U a y0 y1 Y Q R q r : Nat} (hd : Digit U a Y Q R) (hY : Y = y1 * 4294967296 + y0) (hy0 : y0 < 4294967296) (hU : U < Y) (he : q * y1 + r = U) (hq : Q ≤ q) (hr : 4294967296 ≤ r) : q = Q := by
  have h1 : q < 4294967296 := by
    apply Nat.lt_of_mul_lt_mul_right (a := y1)
    omega
  have h2 : q * Y = q * y1 * 4294967296 + q * y0 := by rw [hY, Nat.mul_add, Nat.mul_assoc]
  have h3 : q * y0 ≤ 4294967296 * 4294967296 := Nat.mul_le_mul (by omega) (by omega)
  have h4 := hd.e
  have h5 := hd.r
  have h6 : q < Q + 1 := by
    apply Nat.lt_of_mul_lt_mul_right (a := Y)
    rw [Nat.add_mul]
    omega
  omega
/-- What a loop of the code needs to know of its guesses. -/
structure Knuth (G : Int → Int → Prop) (a y0 y1 Q q1 r1 : Int) : Prop where
  start : G q1 r1
  small : (0 ≤ y0 ∧ y0 < 4294967296) ∧ (0 ≤ y1 ∧ y1 < 4294967296) ∧ (0 ≤ a ∧ a < 4294967296)
  bd : ∀ q r, G q r → 0 ≤ q ∧ q ≤ 8589934592 ∧ 0 ≤ r ∧ r < 4294967296
  fine : ∀ q r, G q r → q < 4294967296 → q * y0 ≤ 4294967296 * r + a → q = Q
  over : ∀ q r, G q r → (4294967296 ≤ q ∨ 4294967296 * r + a < q * y0) → (4294967296 ≤ r + y1 → q - 1 = Q) ∧ (¬ 4294967296 ≤ r + y1 → G (q - 1) (r + y1))
theorem mul_bd (q y : Int) (h1 : 0 ≤ q) (h2 : q ≤ 4294967296) (h3 : 0 ≤ y) (h4 : y < 4294967296) : 0 ≤ q * y ∧ q * y ≤ 18446744069414584320 := by
  have h5 : q * y ≤ 4294967296 * y := Int.mul_le_mul_of_nonneg_right h2 h3
  have h6 := Int.mul_nonneg h1 h3
  omega
set_option maxHeartbeats 8000000 in
theorem div64_walk (w : World) (zhi zlo zy zY zy1 zy0 zA za1 za0 zU q1 r1 zQ1 zR1 q2 r2 zQ0 zR0 zres zrem : Int) (s : Nat) (G1 G2 : Int → Int → Prop)
    (LZ : ∀ w, Calls Tryd.prog 57 #[.int .u64 zy] w fun e w' => e = .returned (.int .i64 s) ∧ w' = w) (hs2 : s ≤ 63)
    (t1 : (zy == 0) = false) (t2 : decide (zy ≤ zhi) = false) (t3 : (zhi == 0) = false) (t4 : ¬ zy1 = 0)
    (e1 : IntKind.u64.wrap (zy * 2 ^ s) = zY) (e2 : bits .and .u64 zY 4294967295 = zy0) (e3 : bits .or .u64 (IntKind.u64.wrap (zhi * 2 ^ s)) (zlo / 2 ^ (64 - s)) = zU) (e4 : IntKind.u64.wrap (zlo * 2 ^ s) = zA) (e5 : bits .and .u64 zA 4294967295 = za0)
    (e6 : zY / 4294967296 = zy1) (e7 : zA / 4294967296 = za1) (e8 : IntKind.u64.wrap (zU.tdiv zy1) = q1) (e9 : IntKind.u64.wrap (zU - IntKind.u64.wrap (q1 * zy1)) = r1)
    (k1 : Knuth G1 za1 zy0 zy1 zQ1 q1 r1) (k2 : Knuth G2 za0 zy0 zy1 zQ0 q2 r2)
    (f3 : IntKind.u64.wrap (IntKind.u64.wrap (IntKind.u64.wrap (zU * 4294967296) + za1) - IntKind.u64.wrap (zQ1 * zY)) = zR1) (f4 : IntKind.u64.wrap (zR1.tdiv zy1) = q2) (f5 : IntKind.u64.wrap (zR1 - IntKind.u64.wrap (q2 * zy1)) = r2)
    (f6 : IntKind.u64.wrap (IntKind.u64.wrap (zQ1 * 4294967296) + zQ0) = zres) (f7 : IntKind.u64.wrap (IntKind.u64.wrap (IntKind.u64.wrap (zR1 * 4294967296) + za0) - IntKind.u64.wrap (zQ0 * zY)) = zR0) (f8 : zR0 / 2 ^ s = zrem) :
    Calls Tryd.prog 30 #[.int .u64 zhi, .int .u64 zlo, .int .u64 zy] w (Ret w (.tuple #[.int .u64 zres, .int .u64 zrem])) := by
  have HLZ := Lib.hid LZ
  have K1 := Lib.hid k1
  have K2 := Lib.hid k2
  have HF3 := Lib.hid (And.intro f6 (And.intro f7 f8))
  clear LZ k1 k2 f6 f7 f8
  go_enter Tryd.func30, Tryd.ntmps30
  go_wp2_with (first
    | ((with_reducible refine (HLZ.out _).mono ?_); rintro e w1 ⟨rfl, rfl⟩)
    | fail)
  clear e1 e2 e3 e4 e5 e6 e7 e8 e9 t1 t2 t3
  go_loop [15, 16] (fun a b => ∃ q r : Int, a = .int .u64 q ∧ b = .int .u64 r ∧ G1 q r) (fun a _ => (intOf a).toNat)
  case atStart => exact ⟨q1, r1, rfl, rfl, K1.out.start⟩
  case round =>
    obtain ⟨q, r, rfl, rfl, hg⟩ := hrel
    have HG := Lib.hid hg
    have hbd := K1.out.bd q r hg
    have hsm := K1.out.small
    have f2 : IntKind.u64.wrap (r + zy1) = r + zy1 := IntWalk.u64_in _ (by omega)
    by_cases hq : 4294967296 ≤ q
    · have tq : decide ((4294967296 : Int) ≤ q) = true := decide_eq_true hq
      have f0 : IntKind.u64.wrap (q - 1) = q - 1 := IntWalk.u64_in _ (by omega)
      have HQ := Lib.hid hq
      have HQ1 : Hid (1 ≤ q) := Lib.hid (by omega)
      clear hg hbd hsm hq
      have hov := K1.out.over q r HG.out (.inl HQ.out)
      by_cases hb : 4294967296 ≤ r + zy1
      · have tb : decide ((4294967296 : Int) ≤ r + zy1) = true := decide_eq_true hb
        have f1 : IntKind.u64.wrap (q - 1) = zQ1 := by rw [f0, hov.1 hb]
        clear f0 hov hb
        go_wp2_with fail
        obtain ⟨f6, f7, f8⟩ := HF3.out
        go_loop [18, 16] (fun a b => ∃ q r : Int, a = .int .u64 q ∧ b = .int .u64 r ∧ G2 q r) (fun a _ => (intOf a).toNat)
        case atStart => exact ⟨q2, r2, rfl, rfl, K2.out.start⟩
        case round =>
          obtain ⟨q, r, rfl, rfl, hg⟩ := hrel
          have HG := Lib.hid hg
          have hbd := K2.out.bd q r hg
          have hsm := K2.out.small
          have f2 : IntKind.u64.wrap (r + zy1) = r + zy1 := IntWalk.u64_in _ (by omega)
          by_cases hq : 4294967296 ≤ q
          · have tq : decide ((4294967296 : Int) ≤ q) = true := decide_eq_true hq
            have f0 : IntKind.u64.wrap (q - 1) = q - 1 := IntWalk.u64_in _ (by omega)
            have HQ := Lib.hid hq
            have HQ1 : Hid (1 ≤ q) := Lib.hid (by omega)
            clear hg hbd hsm hq
            have hov := K2.out.over q r HG.out (.inl HQ.out)
            by_cases hb : 4294967296 ≤ r + zy1
            · have tb : decide ((4294967296 : Int) ≤ r + zy1) = true := decide_eq_true hb
              have f1 : IntKind.u64.wrap (q - 1) = zQ0 := by rw [f0, hov.1 hb]
              clear f0 hov hb
              go_wp2_with fail
              go_ret2
              exact ⟨rfl, Below.refl _ _⟩
            · have tb : decide ((4294967296 : Int) ≤ r + zy1) = false := decide_eq_false hb
              have HN := Lib.hid (hov.2 hb)
              clear hov hb
              go_wp2_with fail
              go_round
              case rel => exact ⟨q - 1, r + zy1, rfl, rfl, HN.out⟩
              case measure => (have := HQ1.out; simp [intOf]; omega)
          · have tq : decide ((4294967296 : Int) ≤ q) = false := decide_eq_false hq
            obtain ⟨p, hp⟩ : ∃ p, p = q * zy0 := ⟨_, rfl⟩
            obtain ⟨m, hm⟩ : ∃ m, m = 4294967296 * r + za0 := ⟨_, rfl⟩
            have hpb := mul_bd q zy0 (by omega) (by omega) (by omega) (by omega)
            have g1 : IntKind.u64.wrap (q * zy0) = p := by rw [hp]; exact IntWalk.u64_in _ (by omega)
            have g3 : IntKind.u64.wrap (IntKind.u64.wrap (4294967296 * r) + za0) = m := by rw [IntWalk.u64_in (4294967296 * r) (by omega), hm]; exact IntWalk.u64_in _ (by omega)
            have HQ := Lib.hid hq
            have HP := Lib.hid (And.intro hp hm)
            by_cases ht : m < p
            · have tt : decide (m < p) = true := decide_eq_true ht
              have hq1 : 1 ≤ q := by
                apply Classical.byContradiction
                intro h
                have : q = 0 := by omega
                subst this
                omega
              have f0 : IntKind.u64.wrap (q - 1) = q - 1 := IntWalk.u64_in _ (by omega)
              have HT := Lib.hid ht
              have HQ1 := Lib.hid hq1
              clear hg hbd hsm hq hp hm hpb ht hq1
              have hov := K2.out.over q r HG.out (.inr (by have := HP.out; have := HT.out; omega))
              by_cases hb : 4294967296 ≤ r + zy1
              · have tb : decide ((4294967296 : Int) ≤ r + zy1) = true := decide_eq_true hb
                have f1 : IntKind.u64.wrap (q - 1) = zQ0 := by rw [f0, hov.1 hb]
                clear f0 hov hb
                go_wp2_with fail
                go_ret2
                exact ⟨rfl, Below.refl _ _⟩
              · have tb : decide ((4294967296 : Int) ≤ r + zy1) = false := decide_eq_false hb
                have HN := Lib.hid (hov.2 hb)
                clear hov hb
                go_wp2_with fail
                go_round
                case rel => exact ⟨q - 1, r + zy1, rfl, rfl, HN.out⟩
                case measure => (have := HQ1.out; simp [intOf]; omega)
            · have tt : decide (m < p) = false := decide_eq_false ht
              obtain rfl : q = zQ0 := K2.out.fine q r hg (by omega) (by rw [← hp]; omega)
              clear hg hbd hsm hq hp hm hpb ht
              go_wp2_with fail
              go_ret2
              exact ⟨rfl, Below.refl _ _⟩
      · have tb : decide ((4294967296 : Int) ≤ r + zy1) = false := decide_eq_false hb
        have HN := Lib.hid (hov.2 hb)
        clear hov hb
        go_wp2_with fail
        go_round
        case rel => exact ⟨q - 1, r + zy1, rfl, rfl, HN.out⟩
        case measure => (have := HQ1.out; simp [intOf]; omega)
    · have tq : decide ((4294967296 : Int) ≤ q) = false := decide_eq_false hq
      obtain ⟨p, hp⟩ : ∃ p, p = q * zy0 := ⟨_, rfl⟩
      obtain ⟨m, hm⟩ : ∃ m, m = 4294967296 * r + za1 := ⟨_, rfl⟩
      have hpb := mul_bd q zy0 (by omega) (by omega) (by omega) (by omega)
      have g1 : IntKind.u64.wrap (q * zy0) = p := by rw [hp]; exact IntWalk.u64_in _ (by omega)
      have g3 : IntKind.u64.wrap (IntKind.u64.wrap (4294967296 * r) + za1) = m := by rw [IntWalk.u64_in (4294967296 * r) (by omega), hm]; exact IntWalk.u64_in _ (by omega)
      have HQ := Lib.hid hq
      have HP := Lib.hid (And.intro hp hm)
      by_cases ht : m < p
      · have tt : decide (m < p) = true := decide_eq_true ht
        have hq1 : 1 ≤ q := by
          apply Classical.byContradiction
          intro h
          have : q = 0 := by omega
          subst this
          omega
        have f0 : IntKind.u64.wrap (q - 1) = q - 1 := IntWalk.u64_in _ (by omega)
        have HT := Lib.hid ht
        have HQ1 := Lib.hid hq1
        clear hg hbd hsm hq hp hm hpb ht hq1
        have hov := K1.out.over q r HG.out (.inr (by have := HP.out; have := HT.out; omega))
        by_cases hb : 4294967296 ≤ r + zy1
        · have tb : decide ((4294967296 : Int) ≤ r + zy1) = true := decide_eq_true hb
          have f1 : IntKind.u64.wrap (q - 1) = zQ1 := by rw [f0, hov.1 hb]
          clear f0 hov hb
          go_wp2_with fail
          obtain ⟨f6, f7, f8⟩ := HF3.out
          go_loop [18, 16] (fun a b => ∃ q r : Int, a = .int .u64 q ∧ b = .int .u64 r ∧ G2 q r) (fun a _ => (intOf a).toNat)
          case atStart => exact ⟨q2, r2, rfl, rfl, K2.out.start⟩
          case round =>
            obtain ⟨q, r, rfl, rfl, hg⟩ := hrel
            have HG := Lib.hid hg
            have hbd := K2.out.bd q r hg
            have hsm := K2.out.small
            have f2 : IntKind.u64.wrap (r + zy1) = r + zy1 := IntWalk.u64_in _ (by omega)
            by_cases hq : 4294967296 ≤ q
            · have tq : decide ((4294967296 : Int) ≤ q) = true := decide_eq_true hq
              have f0 : IntKind.u64.wrap (q - 1) = q - 1 := IntWalk.u64_in _ (by omega)
              have HQ := Lib.hid hq
              have HQ1 : Hid (1 ≤ q) := Lib.hid (by omega)
              clear hg hbd hsm hq
              have hov := K2.out.over q r HG.out (.inl HQ.out)
              by_cases hb : 4294967296 ≤ r + zy1
              · have tb : decide ((4294967296 : Int) ≤ r + zy1) = true := decide_eq_true hb
                have f1 : IntKind.u64.wrap (q - 1) = zQ0 := by rw [f0, hov.1 hb]
                clear f0 hov hb
                go_wp2_with fail
                go_ret2
                exact ⟨rfl, Below.refl _ _⟩
              · have tb : decide ((4294967296 : Int) ≤ r + zy1) = false := decide_eq_false hb
                have HN := Lib.hid (hov.2 hb)
                clear hov hb
                go_wp2_with fail
                go_round
                case rel => exact ⟨q - 1, r + zy1, rfl, rfl, HN.out⟩
                case measure => (have := HQ1.out; simp [intOf]; omega)
            · have tq : decide ((4294967296 : Int) ≤ q) = false := decide_eq_false hq
              obtain ⟨p, hp⟩ : ∃ p, p = q * zy0 := ⟨_, rfl⟩
              obtain ⟨m, hm⟩ : ∃ m, m = 4294967296 * r + za0 := ⟨_, rfl⟩
              have hpb := mul_bd q zy0 (by omega) (by omega) (by omega) (by omega)
              have g1 : IntKind.u64.wrap (q * zy0) = p := by rw [hp]; exact IntWalk.u64_in _ (by omega)
              have g3 : IntKind.u64.wrap (IntKind.u64.wrap (4294967296 * r) + za0) = m := by rw [IntWalk.u64_in (4294967296 * r) (by omega), hm]; exact IntWalk.u64_in _ (by omega)
              have HQ := Lib.hid hq
              have HP := Lib.hid (And.intro hp hm)
              by_cases ht : m < p
              · have tt : decide (m < p) = true := decide_eq_true ht
                have hq1 : 1 ≤ q := by
                  apply Classical.byContradiction
                  intro h
                  have : q = 0 := by omega
                  subst this
                  omega
                have f0 : IntKind.u64.wrap (q - 1) = q - 1 := IntWalk.u64_in _ (by omega)
                have HT := Lib.hid ht
                have HQ1 := Lib.hid hq1
                clear hg hbd hsm hq hp hm hpb ht hq1
                have hov := K2.out.over q r HG.out (.inr (by have := HP.out; have := HT.out; omega))
                by_cases hb : 4294967296 ≤ r + zy1
                · have tb : decide ((4294967296 : Int) ≤ r + zy1) = true := decide_eq_true hb
                  have f1 : IntKind.u64.wrap (q - 1) = zQ0 := by rw [f0, hov.1 hb]
                  clear f0 hov hb
                  go_wp2_with fail
                  go_ret2
                  exact ⟨rfl, Below.refl _ _⟩
                · have tb : decide ((4294967296 : Int) ≤ r + zy1) = false := decide_eq_false hb
                  have HN := Lib.hid (hov.2 hb)
                  clear hov hb
                  go_wp2_with fail
                  go_round
                  case rel => exact ⟨q - 1, r + zy1, rfl, rfl, HN.out⟩
                  case measure => (have := HQ1.out; simp [intOf]; omega)
              · have tt : decide (m < p) = false := decide_eq_false ht
                obtain rfl : q = zQ0 := K2.out.fine q r hg (by omega) (by rw [← hp]; omega)
                clear hg hbd hsm hq hp hm hpb ht
                go_wp2_with fail
                go_ret2
                exact ⟨rfl, Below.refl _ _⟩
        · have tb : decide ((4294967296 : Int) ≤ r + zy1) = false := decide_eq_false hb
          have HN := Lib.hid (hov.2 hb)
          clear hov hb
          go_wp2_with fail
          go_round
          case rel => exact ⟨q - 1, r + zy1, rfl, rfl, HN.out⟩
          case measure => (have := HQ1.out; simp [intOf]; omega)
      · have tt : decide (m < p) = false := decide_eq_false ht
        obtain rfl : q = zQ1 := K1.out.fine q r hg (by omega) (by rw [← hp]; omega)
        clear hg hbd hsm hq hp hm hpb ht
        go_wp2_with fail
        obtain ⟨f6, f7, f8⟩ := HF3.out
        go_loop [18, 16] (fun a b => ∃ q r : Int, a = .int .u64 q ∧ b = .int .u64 r ∧ G2 q r) (fun a _ => (intOf a).toNat)
        case atStart => exact ⟨q2, r2, rfl, rfl, K2.out.start⟩
        case round =>
          obtain ⟨q, r, rfl, rfl, hg⟩ := hrel
          have HG := Lib.hid hg
          have hbd := K2.out.bd q r hg
          have hsm := K2.out.small
          have f2 : IntKind.u64.wrap (r + zy1) = r + zy1 := IntWalk.u64_in _ (by omega)
          by_cases hq : 4294967296 ≤ q
          · have tq : decide ((4294967296 : Int) ≤ q) = true := decide_eq_true hq
            have f0 : IntKind.u64.wrap (q - 1) = q - 1 := IntWalk.u64_in _ (by omega)
            have HQ := Lib.hid hq
            have HQ1 : Hid (1 ≤ q) := Lib.hid (by omega)
            clear hg hbd hsm hq
            have hov := K2.out.over q r HG.out (.inl HQ.out)
            by_cases hb : 4294967296 ≤ r + zy1
            · have tb : decide ((4294967296 : Int) ≤ r + zy1) = true := decide_eq_true hb
              have f1 : IntKind.u64.wrap (q - 1) = zQ0 := by rw [f0, hov.1 hb]
              clear f0 hov hb
              go_wp2_with fail
              go_ret2
              exact ⟨rfl, Below.refl _ _⟩
            · have tb : decide ((4294967296 : Int) ≤ r + zy1) = false := decide_eq_false hb
              have HN := Lib.hid (hov.2 hb)
              clear hov hb
              go_wp2_with fail
              go_round
              case rel => exact ⟨q - 1, r + zy1, rfl, rfl, HN.out⟩
              case measure => (have := HQ1.out; simp [intOf]; omega)
          · have tq : decide ((4294967296 : Int) ≤ q) = false := decide_eq_false hq
            obtain ⟨p, hp⟩ : ∃ p, p = q * zy0 := ⟨_, rfl⟩
            obtain ⟨m, hm⟩ : ∃ m, m = 4294967296 * r + za0 := ⟨_, rfl⟩
            have hpb := mul_bd q zy0 (by omega) (by omega) (by omega) (by omega)
            have g1 : IntKind.u64.wrap (q * zy0) = p := by rw [hp]; exact IntWalk.u64_in _ (by omega)
            have g3 : IntKind.u64.wrap (IntKind.u64.wrap (4294967296 * r) + za0) = m := by rw [IntWalk.u64_in (4294967296 * r) (by omega), hm]; exact IntWalk.u64_in _ (by omega)
            have HQ := Lib.hid hq
            have HP := Lib.hid (And.intro hp hm)
            by_cases ht : m < p
            · have tt : decide (m < p) = true := decide_eq_true ht
              have hq1 : 1 ≤ q := by
                apply Classical.byContradiction
                intro h
                have : q = 0 := by omega
                subst this
                omega
              have f0 : IntKind.u64.wrap (q - 1) = q - 1 := IntWalk.u64_in _ (by omega)
              have HT := Lib.hid ht
              have HQ1 := Lib.hid hq1
              clear hg hbd hsm hq hp hm hpb ht hq1
              have hov := K2.out.over q r HG.out (.inr (by have := HP.out; have := HT.out; omega))
              by_cases hb : 4294967296 ≤ r + zy1
              · have tb : decide ((4294967296 : Int) ≤ r + zy1) = true := decide_eq_true hb
                have f1 : IntKind.u64.wrap (q - 1) = zQ0 := by rw [f0, hov.1 hb]
                clear f0 hov hb
                go_wp2_with fail
                go_ret2
                exact ⟨rfl, Below.refl _ _⟩
              · have tb : decide ((4294967296 : Int) ≤ r + zy1) = false := decide_eq_false hb
                have HN := Lib.hid (hov.2 hb)
                clear hov hb
                go_wp2_with fail
                go_round
                case rel => exact ⟨q - 1, r + zy1, rfl, rfl, HN.out⟩
                case measure => (have := HQ1.out; simp [intOf]; omega)
            · have tt : decide (m < p) = false := decide_eq_false ht
              obtain rfl : q = zQ0 := K2.out.fine q r hg (by omega) (by rw [← hp]; omega)
              clear hg hbd hsm hq hp hm hpb ht
              go_wp2_with fail
              go_ret2
              exact ⟨rfl, Below.refl _ _⟩end Go.Proofs.YtnbhneeohkfocaaDoor.Sc
namespace Go.Proofs.YtnbhneeohkfocaaDoor.Sc
open Go Go.RowKit Go.ChangeShapes Go.WideShapes Go.ChangeAt
set_option maxRecDepth 100000

theorem u64_mod (x : Int) : IntKind.u64.wrap x = x % 18446744073709551616 := by simp [IntKind.wrap, IntKind.bits, IntKind.signed]
theorem wrap_comb {a b c d r : Int} (h : a * 4294967296 + b - c * d = r) (h0 : 0 ≤ r) (h1 : r < 18446744073709551616) : IntKind.u64.wrap (IntKind.u64.wrap (IntKind.u64.wrap (a * 4294967296) + b) - IntKind.u64.wrap (c * d)) = r := by
  simp only [u64_mod]
  generalize c * d = y at *
  omega
theorem wrap_sub {u q y r : Int} (h : u - q * y = r) (h0 : 0 ≤ r) (h1 : r < 18446744073709551616) : IntKind.u64.wrap (u - IntKind.u64.wrap (q * y)) = r := by
  simp only [u64_mod]
  generalize q * y = z at *
  omega
theorem bitLen_bd (x : Nat) (h0 : 0 < x) (h : x < 2 ^ 64) : ∃ k, Lib.bitLen x = k + 1 ∧ k ≤ 63 ∧ 2 ^ k ≤ x ∧ x < 2 ^ (k + 1) := by
  have key : ∀ (n x : Nat), 0 < x → x < 2 ^ (n + 1) → n ≤ 63 → ∃ k, Lib.bitLen x = k + 1 ∧ k ≤ n ∧ 2 ^ k ≤ x ∧ x < 2 ^ (k + 1) := by
    intro n
    induction n with
    | zero =>
      intro x h0 h _
      obtain rfl : x = 1 := by simp at h; omega
      exact ⟨0, by decide, by omega, by simp, by simp⟩
    | succ n ih =>
      intro x h0 h hn
      have hp : 2 ^ (n + 1 + 1) = 2 * 2 ^ (n + 1) := by rw [Nat.pow_succ]; omega
      have h64 : (2 : Nat) ^ (n + 1 + 1) ≤ 2 ^ 64 := Nat.pow_le_pow_right (by decide) (by omega)
      by_cases h1 : x = 1
      · subst h1; exact ⟨0, by decide, by omega, by simp, by simp⟩
      · have hb := Lib.bitLen_half x (by omega) (by omega)
        obtain ⟨k, a1, a2, a3, a4⟩ := ih (x / 2) (by omega) (by omega) (by omega)
        have hk : 2 ^ (k + 1) = 2 * 2 ^ k := by rw [Nat.pow_succ]; omega
        have hk2 : 2 ^ (k + 1 + 1) = 2 * 2 ^ (k + 1) := by rw [Nat.pow_succ]; omega
        exact ⟨k + 1, by omega, by omega, by omega, by omega⟩
  exact key 63 x h0 h (by omega)
theorem knuth_of {U a y0 y1 Y Q R : Nat} (hd : Digit U a Y Q R) (ha : a < 4294967296) (hY : Y = y1 * 4294967296 + y0) (hy0 : y0 < 4294967296) (hy1 : 2147483648 ≤ y1) (hy2 : y1 < 4294967296) (hU : U < Y) :
    Knuth (fun q r => 0 ≤ q ∧ 0 ≤ r ∧ Guess U a y0 y1 Y Q q.toNat r.toNat) a y0 y1 Q (U / y1 : Nat) (U % y1 : Nat) where
  start := ⟨Int.natCast_nonneg _, Int.natCast_nonneg _, by simpa only [Int.toNat_natCast] using guess_start hd ha hY hy0 hy1 hy2 hU⟩
  small := by omega
  bd := by
    rintro q r ⟨h1, h2, h3⟩
    have := h3.q1
    have := h3.r1
    omega
  fine := by
    rintro q r ⟨h1, h2, h3⟩ h4 h5
    obtain ⟨q, rfl⟩ := Int.eq_ofNat_of_zero_le h1
    obtain ⟨r, rfl⟩ := Int.eq_ofNat_of_zero_le h2
    simp only [Int.toNat_natCast] at *
    have hc := Int.natCast_mul q y0
    have := guess_fine hd hY h3 (by omega)
    omega
  over := by
    rintro q r ⟨h1, h2, h3⟩ h4
    obtain ⟨q, rfl⟩ := Int.eq_ofNat_of_zero_le h1
    obtain ⟨r, rfl⟩ := Int.eq_ofNat_of_zero_le h2
    simp only [Int.toNat_natCast] at *
    have hc := Int.natCast_mul q y0
    obtain ⟨h5, h6⟩ := guess_over hd ha hY hU h3 (h4.imp (fun h => by omega) (fun h => by omega))
    have he : (q - 1) * y1 + (r + y1) = U := by
      have := h3.e
      have h7 : (q - 1) * y1 + y1 = q * y1 := by
        have : q = (q - 1) + 1 := by omega
        conv => rhs; rw [this, Nat.add_mul]
        omega
      omega
    constructor
    · intro h7
      have := guess_break hd hY hy0 hU he (by omega) (by omega)
      omega
    · intro h7
      have e1 : ((q : Int) - 1).toNat = q - 1 := by omega
      have e2 : ((r : Int) + y1).toNat = r + y1 := by omega
      rw [e1, e2]
      exact ⟨by omega, by omega, he, by omega, by have := h3.q1; omega, by omega⟩
theorem digit_of (U a Y : Nat) (hY : 0 < Y) : Digit U a Y ((U * 4294967296 + a) / Y) ((U * 4294967296 + a) % Y) :=
  ⟨by rw [Nat.mul_comm]; exact Nat.div_add_mod _ _, Nat.mod_lt _ hY⟩
theorem div64_any (hi lo y : Nat) (w : World) (hl : lo < 18446744073709551616) (hy : hi < y) (hy2 : y < 18446744073709551616) :
    Calls Tryd.prog 30 #[.int .u64 hi, .int .u64 lo, .int .u64 y] w (Ret w (.tuple #[.int .u64 (((hi * 18446744073709551616 + lo) / y : Nat) : Int), .int .u64 (((hi * 18446744073709551616 + lo) % y : Nat) : Int)])) := by
  by_cases hh : hi = 0
  · subst hh
    have := div64_low lo y w hl (by omega) hy2
    simpa using this
  obtain ⟨k, b1, b2, b3, b4⟩ := bitLen_bd y (by omega) (by omega)
  obtain ⟨s, hs⟩ : ∃ s, s + k = 63 := ⟨63 - k, by omega⟩
  have hpow : (2 : Nat) ^ s * 2 ^ k = 9223372036854775808 := by rw [← Nat.pow_add, hs]
  have hpow1 : (2 : Nat) ^ s * 2 ^ (k + 1) = 18446744073709551616 := by rw [Nat.pow_succ, ← Nat.mul_assoc, hpow]
  have hps : 0 < (2 : Nat) ^ s := Nat.pow_pos (by decide)
  obtain ⟨Y, hY⟩ : ∃ Y, Y = y * 2 ^ s := ⟨_, rfl⟩
  have hY1 : 9223372036854775808 ≤ Y := by rw [hY, ← hpow, Nat.mul_comm]; exact Nat.mul_le_mul_right _ b3
  have hY2 : Y < 18446744073709551616 := by rw [hY, ← hpow1, Nat.mul_comm]; exact Nat.mul_lt_mul_of_pos_left b4 hps
  obtain ⟨A, hA⟩ : ∃ A, A = lo * 2 ^ s % 18446744073709551616 := ⟨_, rfl⟩
  have hA2 : A < 18446744073709551616 := by omega
  have hsp : (2 : Nat) ^ s * 2 ^ (64 - s) = 18446744073709551616 := by rw [← Nat.pow_add, show s + (64 - s) = 64 by omega]
  have hp64 : 0 < (2 : Nat) ^ (64 - s) := Nat.pow_pos (by decide)
  obtain ⟨L, hL⟩ : ∃ L, L = lo / 2 ^ (64 - s) := ⟨_, rfl⟩
  have hL2 : L < 2 ^ s := by rw [hL, Nat.div_lt_iff_lt_mul hp64, hsp]; exact hl
  have hL3 : lo * 2 ^ s / 18446744073709551616 = L := by rw [hL, ← hsp, Nat.mul_comm lo, Nat.mul_div_mul_left _ _ hps]
  have hlo : lo * 2 ^ s = L * 18446744073709551616 + A := by
    have := Nat.div_add_mod (lo * 2 ^ s) 18446744073709551616
    rw [hL3, ← hA] at this
    omega
  obtain ⟨H, hH⟩ : ∃ H, H = hi * 2 ^ s := ⟨_, rfl⟩
  have hHY : H + 2 ^ s ≤ Y := by
    rw [hH, hY]
    have : (hi + 1) * 2 ^ s ≤ y * 2 ^ s := Nat.mul_le_mul_right _ (by omega)
    rw [Nat.add_mul] at this
    omega
  obtain ⟨U, hU⟩ : ∃ U, U = H + L := ⟨_, rfl⟩
  have hUY : U < Y := by omega
  have hN : (hi * 18446744073709551616 + lo) * 2 ^ s = U * 18446744073709551616 + A := by
    rw [Nat.add_mul, Nat.mul_right_comm, ← hH, hlo, hU]
    omega
  obtain ⟨y1, hy1⟩ : ∃ x, x = Y / 4294967296 := ⟨_, rfl⟩
  obtain ⟨y0, hy0⟩ : ∃ x, x = Y % 4294967296 := ⟨_, rfl⟩
  obtain ⟨a1, ha1⟩ : ∃ x, x = A / 4294967296 := ⟨_, rfl⟩
  obtain ⟨a0, ha0⟩ : ∃ x, x = A % 4294967296 := ⟨_, rfl⟩
  have hd1 := digit_of U a1 Y (by omega)
  obtain ⟨Q1, hQ1⟩ : ∃ x, x = (U * 4294967296 + a1) / Y := ⟨_, rfl⟩
  obtain ⟨R1, hR1⟩ : ∃ x, x = (U * 4294967296 + a1) % Y := ⟨_, rfl⟩
  rw [← hQ1, ← hR1] at hd1
  have hd0 := digit_of R1 a0 Y (by omega)
  obtain ⟨Q0, hQ0⟩ : ∃ x, x = (R1 * 4294967296 + a0) / Y := ⟨_, rfl⟩
  obtain ⟨R0, hR0⟩ : ∃ x, x = (R1 * 4294967296 + a0) % Y := ⟨_, rfl⟩
  rw [← hQ0, ← hR0] at hd0
  clear hQ1 hR1 hQ0 hR0
  have k1 := knuth_of (y0 := y0) (y1 := y1) hd1 (by omega) (by omega) (by omega) (by omega) (by omega) hUY
  have k2 := knuth_of (y0 := y0) (y1 := y1) hd0 (by omega) (by omega) (by omega) (by omega) (by omega) hd1.r
  have hq1 : Q1 < 4294967296 := by
    apply Nat.lt_of_mul_lt_mul_right (a := Y)
    have := hd1.e
    omega
  have hq0 : Q0 < 4294967296 := by
    apply Nat.lt_of_mul_lt_mul_right (a := Y)
    have := hd0.e
    have := hd1.r
    omega
  have hall : (hi * 18446744073709551616 + lo) * 2 ^ s = (Q1 * 4294967296 + Q0) * Y + R0 := by
    rw [hN, Nat.add_mul, Nat.mul_right_comm]
    have h1 := hd1.e
    have h0 := hd0.e
    generalize Q1 * Y = z1 at *
    generalize Q0 * Y = z0 at *
    omega
  have hres : (hi * 18446744073709551616 + lo) / y = Q1 * 4294967296 + Q0 := by
    have h1 : (hi * 18446744073709551616 + lo) * 2 ^ s / (y * 2 ^ s) = (hi * 18446744073709551616 + lo) / y := Nat.mul_div_mul_right _ _ hps
    rw [← h1, hall, ← hY, Nat.mul_comm, Nat.mul_add_div (by omega), Nat.div_eq_of_lt hd0.r, Nat.add_zero]
  have hrem : (hi * 18446744073709551616 + lo) % y = R0 / 2 ^ s := by
    have h1 : (hi * 18446744073709551616 + lo) * 2 ^ s % (y * 2 ^ s) = (hi * 18446744073709551616 + lo) % y * 2 ^ s := Nat.mul_mod_mul_right _ _ _
    rw [hall, ← hY, Nat.mul_comm (Q1 * 4294967296 + Q0), Nat.mul_add_mod, Nat.mod_eq_of_lt hd0.r] at h1
    rw [h1, Nat.mul_div_cancel _ hps]
  have hr0 : R0 < Y := hd0.r
  have hr1 : R1 < Y := hd1.r
  rw [hres, hrem]
  have cast : ∀ a b : Nat, ((a * 2 ^ b : Nat) : Int) = (a : Int) * 2 ^ b := fun a b => by push_cast; rfl
  have castd : ∀ a b : Nat, ((a / 2 ^ b : Nat) : Int) = (a : Int) / 2 ^ b := fun a b => by push_cast; rfl
  refine div64_walk w hi lo y Y y1 y0 A a1 a0 U (U / y1 : Nat) (U % y1 : Nat) Q1 R1 (R1 / y1 : Nat) (R1 % y1 : Nat) Q0 R0 _ _ s _ _ (fun w => ?_) (by omega) ?_ ?_ ?_ ?_ ?_ ?_ ?_ ?_ ?_ ?_ ?_ ?_ ?_ k1 k2 ?_ ?_ ?_ ?_ ?_ ?_
  · have := Tryd.bits_LeadingZeros64 y w (by omega) (by omega)
    rw [Int.toNat_natCast, b1, show (64 : Int) - ((k + 1 : Nat) : Int) = s by omega] at this
    exact this
  · simp; omega
  · simp; omega
  · simp; omega
  · omega
  · rw [← cast, ← hY]; exact IntWalk.u64_in _ (by omega)
  · have h1 := bits_and_u64_nat Y 4294967295 hY2 (by decide)
    rw [Nat.and_two_pow_sub_one_eq_mod Y 32] at h1
    rw [hy0]
    exact h1
  · have h1 : IntKind.u64.wrap ((hi : Int) * 2 ^ s) = (H : Int) := by rw [← cast, ← hH]; exact IntWalk.u64_in _ (by omega)
    rw [h1, ← castd, ← hL, bits_or_u64_nat H L (by omega) (by omega)]
    rw [hH, Nat.mul_comm hi, ← Nat.two_pow_add_eq_or_of_lt hL2, hU, hH, Nat.mul_comm hi]
  · rw [← cast, u64_mod, hA]; omega
  · have h1 := bits_and_u64_nat A 4294967295 hA2 (by decide)
    rw [Nat.and_two_pow_sub_one_eq_mod A 32] at h1
    rw [ha0]
    exact h1
  · omega
  · omega
  · rw [IntWalk.u64_quo _ _ (by omega)]; simp
  · refine wrap_sub ?_ (by omega) (by have := Nat.mod_lt U (show 0 < y1 by omega); omega)
    have := Nat.div_add_mod U y1
    have h2 : ((U / y1 : Nat) : Int) * y1 + ((U % y1 : Nat) : Int) = U := by
      have := congrArg (fun n : Nat => (n : Int)) this
      simp only [Int.natCast_add, Int.natCast_mul] at this
      rw [Int.mul_comm]
      exact this
    omega
  · refine wrap_comb ?_ (by omega) (by omega)
    have h2 : (Q1 : Int) * Y + R1 = U * 4294967296 + a1 := by
      have := congrArg (fun n : Nat => (n : Int)) hd1.e
      simp only [Int.natCast_add, Int.natCast_mul] at this
      omega
    omega
  · rw [IntWalk.u64_quo _ _ (by omega)]; simp
  · refine wrap_sub ?_ (by omega) (by have := Nat.mod_lt R1 (show 0 < y1 by omega); omega)
    have := Nat.div_add_mod R1 y1
    have h2 : ((R1 / y1 : Nat) : Int) * y1 + ((R1 % y1 : Nat) : Int) = R1 := by
      have := congrArg (fun n : Nat => (n : Int)) this
      simp only [Int.natCast_add, Int.natCast_mul] at this
      rw [Int.mul_comm]
      exact this
    omega
  · rw [IntWalk.u64_in ((Q1 : Int) * 4294967296) (by omega), IntWalk.u64_in _ (by omega)]; omega
  · refine wrap_comb ?_ (by omega) (by omega)
    have h2 : (Q0 : Int) * Y + R0 = R1 * 4294967296 + a0 := by
      have := congrArg (fun n : Nat => (n : Int)) hd0.e
      simp only [Int.natCast_add, Int.natCast_mul] at this
      omega
    omega
  · rw [← castd]
end Go.Proofs.YtnbhneeohkfocaaDoor.Sc
