/- bits.Div64 of the library: the quotient and the remainder of two words by one. -/
import Derived.Test.YtbigoifpfkdkjaaGreatDoorLaw
import Derived.Test.YtbigoifpfkdkjaaGreatDoorLaystopzd
namespace Go.Proofs.YtbigoifpfkdkjaaGreatDoor.Sc
open Go Go.RowKit Go.ChangeShapes Go.WideShapes Go.ChangeAt
set_option maxRecDepth 100000

theorem ret_pair {a b a' b' : Int} {k k' : IntKind} (h : a = a') (h2 : b = b') : Ending.returned (.tuple #[.int k a, .int k' b]) = .returned (.tuple #[.int k a', .int k' b']) := by rw [h, h2]
set_option maxHeartbeats 4000000 in
theorem div64_low (lo y : Nat) (w : World) (hl : lo < 18446744073709551616) (hy : 0 < y) (hy2 : y < 18446744073709551616) :
    Calls Tryz.prog 118 #[.int .u64 0, .int .u64 lo, .int .u64 y] w (Ret w (.tuple #[.int .u64 ((lo / y : Nat) : Int), .int .u64 ((lo % y : Nat) : Int)])) := by
  have t1 : ((y : Int) == 0) = false := by simp; omega
  have t2 : decide ((y : Int) ≤ 0) = false := by simp; omega
  have h0 : (0 : Int) ≤ lo := by omega
  have h2 : (0 : Int) < y := by omega
  have HLO := Lib.hid hl
  clear hl hy2
  go_enter Tryz.func118, Tryz.ntmps118
  go_wp2_with fail
  go_quiet (fail)
  go_wp2_with fail
  go_ret2
  exact ⟨ret_pair (by
    have h1 : (lo : Int) / y = ((lo / y : Nat) : Int) := by simp
    have h3 : lo / y ≤ lo := Nat.div_le_self _ _
    have HL := HLO.out
    have h5 : 0 ≤ ((lo / y : Nat) : Int) ∧ ((lo / y : Nat) : Int) ≤ 18446744073709551615 := ⟨Int.natCast_nonneg _, by have : ((lo / y : Nat) : Int) ≤ (lo : Int) := Int.ofNat_le.2 h3; omega⟩
    have h4 : IntKind.u64.wrap ((lo / y : Nat) : Int) = ((lo / y : Nat) : Int) := IntWalk.u64_in _ h5
    rw [h1, h4]) (by simp), below_drewN (Below.refl _ _) nq⟩
/-- The parts of the division, as the code reckons them. -/
structure Parts64 (hi lo y s : Nat) (Y y1 y0 A a1 a0 U : Nat) : Prop where
  hY : Y = y * 2 ^ s
  hY1 : 9223372036854775808 ≤ Y
  hY2 : Y < 18446744073709551616
  hy1 : y1 = Y / 4294967296
  hy0 : y0 = Y % 4294967296
  hA : A = lo * 2 ^ s % 18446744073709551616
  ha1 : a1 = A / 4294967296
  ha0 : a0 = A % 4294967296
  hU : U * 18446744073709551616 + A = (hi * 18446744073709551616 + lo) * 2 ^ s
  hUY : U < Y
/-- One digit's guess. -/
structure Guess (U a y0 y1 Y Q q r : Nat) : Prop where
  e : q * y1 + r = U
  q0 : Q ≤ q
  q1 : q ≤ 8589934592
  r1 : r < 4294967296
structure Digit (U a Y Q R : Nat) : Prop where
  e : Q * Y + R = U * 4294967296 + a
  r : R < Y
theorem guess_start {U a y0 y1 Y Q R : Nat} (hd : Digit U a Y Q R) (ha : a < 4294967296) (hY : Y = y1 * 4294967296 + y0) (hy0 : y0 < 4294967296) (hy1 : 2147483648 ≤ y1) (hy2 : y1 < 4294967296) (hU : U < Y) : Guess U a y0 y1 Y Q (U / y1) (U % y1) := by
  have hm := Nat.div_add_mod U y1
  have hlt := Nat.mod_lt U (show 0 < y1 by omega)
  refine ⟨by rw [Nat.mul_comm]; exact hm, ?_, ?_, by omega⟩
  · rw [Nat.le_div_iff_mul_le (by omega)]
    have h1 := hd.e
    have h2 : Q * Y = Q * y1 * 4294967296 + Q * y0 := by rw [hY, Nat.mul_add, Nat.mul_assoc]
    omega
  · have : U / y1 * y1 ≤ U := Nat.div_mul_le_self U y1
    apply Classical.byContradiction
    intro h
    have h3 : 8589934593 * y1 ≤ U / y1 * y1 := Nat.mul_le_mul_right _ (by omega)
    omega
theorem guess_fine {U a y0 y1 Y Q R q r : Nat} (hd : Digit U a Y Q R) (hY : Y = y1 * 4294967296 + y0) (h : Guess U a y0 y1 Y Q q r) (ht : q * y0 ≤ 4294967296 * r + a) : q = Q := by
  have h1 := hd.e
  have h2 : q * Y = q * y1 * 4294967296 + q * y0 := by rw [hY, Nat.mul_add, Nat.mul_assoc]
  have h3 := h.e
  have h4 := hd.r
  have h5 : q * Y ≤ U * 4294967296 + a := by omega
  have h6 : q < Q + 1 := by
    apply Nat.lt_of_mul_lt_mul_right (a := Y)
    rw [Nat.add_mul]
    omega
  have := h.q0
  omega
theorem guess_over {U a y0 y1 Y Q R q r : Nat} (hd : Digit U a Y Q R) (ha : a < 4294967296) (hY : Y = y1 * 4294967296 + y0) (hU : U < Y) (h : Guess U a y0 y1 Y Q q r) (ht : 4294967296 ≤ q ∨ 4294967296 * r + a < q * y0) : Q + 1 ≤ q ∧ Q < 4294967296 := by
  have h1 := hd.e
  have hQ : Q < 4294967296 := by
    apply Nat.lt_of_mul_lt_mul_right (a := Y)
    omega
  rcases ht with ht | ht
  · omega
  · have h2 : q * Y = q * y1 * 4294967296 + q * y0 := by rw [hY, Nat.mul_add, Nat.mul_assoc]
    have h3 := h.e
    have h5 : U * 4294967296 + a < q * Y := by omega
    have h6 : Q < q := by
      apply Nat.lt_of_mul_lt_mul_right (a := Y)
      omega
    omega
theorem guess_break {U a y0 y1 Y Q R q r : Nat} (hd : Digit U a Y Q R) (hY : Y = y1 * 4294967296 + y0) (hy0 : y0 < 4294967296) (hU : U < Y) (he : q * y1 + r = U) (hq : Q ≤ q) (hr : 4294967296 ≤ r) : q = Q := by
  have h1 : q < 4294967296 := by
    apply Nat.lt_of_mul_lt_mul_right (a := y1)
    omega
  have h2 : q * Y = q * y1 * 4294967296 + q * y0 := by rw [hY, Nat.mul_add, Nat.mul_assoc]
  have h3 : q * y0 ≤ 4294967296 * 4294967296 := Nat.mul_le_mul (by omega) (by omega)
  have h4 := hd.e
  have h5 := hd.r
  have h6 : q < Q + 1 := by
    apply Nat.lt_of_mul_lt_mul_right (a := Y)
    rw [Nat.add_mul]
    omega
  omega
/-- What a loop of the code needs to know of its guesses. -/
structure Knuth (G : Int → Int → Prop) (a y0 y1 Q q1 r1 : Int) : Prop where
  start : G q1 r1
  small : (0 ≤ y0 ∧ y0 < 4294967296) ∧ (0 ≤ y1 ∧ y1 < 4294967296) ∧ (0 ≤ a ∧ a < 4294967296)
  bd : ∀ q r, G q r → 0 ≤ q ∧ q ≤ 8589934592 ∧ 0 ≤ r ∧ r < 4294967296
  fine : ∀ q r, G q r → q < 4294967296 → q * y0 ≤ 4294967296 * r + a → q = Q
  over : ∀ q r, G q r → (4294967296 ≤ q ∨ 4294967296 * r + a < q * y0) → (4294967296 ≤ r + y1 → q - 1 = Q) ∧ (¬ 4294967296 ≤ r + y1 → G (q - 1) (r + y1))
theorem mul_bd (q y : Int) (h1 : 0 ≤ q) (h2 : q ≤ 4294967296) (h3 : 0 ≤ y) (h4 : y < 4294967296) : 0 ≤ q * y ∧ q * y ≤ 18446744069414584320 := by
  have h5 : q * y ≤ 4294967296 * y := Int.mul_le_mul_of_nonneg_right h2 h3
  have h6 := Int.mul_nonneg h1 h3
  omega
set_option maxHeartbeats 8000000 in
theorem div64_walk (w : World) (zhi zlo zy zY zy1 zy0 zA za1 za0 zU q1 r1 zQ1 zR1 q2 r2 zQ0 zR0 zres zrem : Int) (s : Nat) (G1 G2 : Int → Int → Prop)
    (LZ : ∀ w, Calls Tryz.prog 165 #[.int .u64 zy] w fun e w' => e = .returned (.int .i64 s) ∧ w' = w) (hs2 : s ≤ 63)
    (t1 : (zy == 0) = false) (t2 : decide (zy ≤ zhi) = false) (t3 : (zhi == 0) = false) (t4 : ¬ zy1 = 0)
    (e1 : IntKind.u64.wrap (zy * 2 ^ s) = zY) (e2 : bits .and .u64 zY 4294967295 = zy0) (e3 : bits .or .u64 (IntKind.u64.wrap (zhi * 2 ^ s)) (zlo / 2 ^ (64 - s)) = zU) (e4 : IntKind.u64.wrap (zlo * 2 ^ s) = zA) (e5 : bits .and .u64 zA 4294967295 = za0)
    (e6 : zY / 4294967296 = zy1) (e7 : zA / 4294967296 = za1) (e8 : IntKind.u64.wrap (zU.tdiv zy1) = q1) (e9 : IntKind.u64.wrap (zU - IntKind.u64.wrap (q1 * zy1)) = r1)
    (k1 : Knuth G1 za1 zy0 zy1 zQ1 q1 r1) (k2 : Knuth G2 za0 zy0 zy1 zQ0 q2 r2)
    (f3 : IntKind.u64.wrap (IntKind.u64.wrap (IntKind.u64.wrap (zU * 4294967296) + za1) - IntKind.u64.wrap (zQ1 * zY)) = zR1) (f4 : IntKind.u64.wrap (zR1.tdiv zy1) = q2) (f5 : IntKind.u64.wrap (zR1 - IntKind.u64.wrap (q2 * zy1)) = r2)
    (f6 : IntKind.u64.wrap (IntKind.u64.wrap (zQ1 * 4294967296) + zQ0) = zres) (f7 : IntKind.u64.wrap (IntKind.u64.wrap (IntKind.u64.wrap (zR1 * 4294967296) + za0) - IntKind.u64.wrap (zQ0 * zY)) = zR0) (f8 : zR0 / 2 ^ s = zrem) :
    Calls Tryz.prog 118 #[.int .u64 zhi, .int .u64 zlo, .int .u64 zy] w (Ret w (.tuple #[.int .u64 zres, .int .u64 zrem])) := by
  have HLZ := Lib.hid LZ
  have K1 := Lib.hid k1
  have K2 := Lib.hid k2
  have HF3 := Lib.hid (And.intro f6 (And.intro f7 f8))
  clear LZ k1 k2 f6 f7 f8
  go_enter Tryz.func118, Tryz.ntmps118
  go_wp2_with (first
    | ((with_reducible refine (HLZ.out _).mono ?_); rintro e w1 ⟨rfl, rfl⟩)
    | fail)
  clear e1 e2 e3 e4 e5 e6 e7 e8 e9 t1 t2 t3
  go_loop [15, 16] (fun a b => ∃ q r : Int, a = .int .u64 q ∧ b = .int .u64 r ∧ G1 q r) (fun a _ => (intOf a).toNat)
  case atStart => exact ⟨q1, r1, rfl, rfl, K1.out.start⟩
  case round =>
    obtain ⟨q, r, rfl, rfl, hg⟩ := hrel
    have HG := Lib.hid hg
    have hbd := K1.out.bd q r hg
    have hsm := K1.out.small
    have f2 : IntKind.u64.wrap (r + zy1) = r + zy1 := IntWalk.u64_in _ (by omega)
    by_cases hq : 4294967296 ≤ q
    · have tq : decide ((4294967296 : Int) ≤ q) = true := decide_eq_true hq
      have f0 : IntKind.u64.wrap (q - 1) = q - 1 := IntWalk.u64_in _ (by omega)
      have HQ := Lib.hid hq
      have HQ1 : Hid (1 ≤ q) := Lib.hid (by omega)
      clear hg hbd hsm hq
      have hov := K1.out.over q r HG.out (.inl HQ.out)
      by_cases hb : 4294967296 ≤ r + zy1
      · have tb : decide ((4294967296 : Int) ≤ r + zy1) = true := decide_eq_true hb
        have f1 : IntKind.u64.wrap (q - 1) = zQ1 := by rw [f0, hov.1 hb]
        clear f0 hov hb
        go_wp2_with fail
        obtain ⟨f6, f7, f8⟩ := HF3.out
        go_loop [18, 16] (fun a b => ∃ q r : Int, a = .int .u64 q ∧ b = .int .u64 r ∧ G2 q r) (fun a _ => (intOf a).toNat)
        case atStart => exact ⟨q2, r2, rfl, rfl, K2.out.start⟩
        case round =>
          obtain ⟨q, r, rfl, rfl, hg⟩ := hrel
          have HG := Lib.hid hg
          have hbd := K2.out.bd q r hg
          have hsm := K2.out.small
          have f2 : IntKind.u64.wrap (r + zy1) = r + zy1 := IntWalk.u64_in _ (by omega)
          by_cases hq : 4294967296 ≤ q
          · have tq : decide ((4294967296 : Int) ≤ q) = true := decide_eq_true hq
            have f0 : IntKind.u64.wrap (q - 1) = q - 1 := IntWalk.u64_in _ (by omega)
            have HQ := Lib.hid hq
            have HQ1 : Hid (1 ≤ q) := Lib.hid (by omega)
            clear hg hbd hsm hq
            have hov := K2.out.over q r HG.out (.inl HQ.out)
            by_cases hb : 4294967296 ≤ r + zy1
            · have tb : decide ((4294967296 : Int) ≤ r + zy1) = true := decide_eq_true hb
              have f1 : IntKind.u64.wrap (q - 1) = zQ0 := by rw [f0, hov.1 hb]
              clear f0 hov hb
              go_wp2_with fail
              go_ret2
              exact ⟨rfl, Below.refl _ _⟩
            · have tb : decide ((4294967296 : Int) ≤ r + zy1) = false := decide_eq_false hb
              have HN := Lib.hid (hov.2 hb)
              clear hov hb
              go_wp2_with fail
              go_round
              case rel => exact ⟨q - 1, r + zy1, rfl, rfl, HN.out⟩
              case measure => (have := HQ1.out; simp [intOf]; omega)
          · have tq : decide ((4294967296 : Int) ≤ q) = false := decide_eq_false hq
            obtain ⟨p, hp⟩ : ∃ p, p = q * zy0 := ⟨_, rfl⟩
            obtain ⟨m, hm⟩ : ∃ m, m = 4294967296 * r + za0 := ⟨_, rfl⟩
            have hpb := mul_bd q zy0 (by omega) (by omega) (by omega) (by omega)
            have g1 : IntKind.u64.wrap (q * zy0) = p := by rw [hp]; exact IntWalk.u64_in _ (by omega)
            have g3 : IntKind.u64.wrap (IntKind.u64.wrap (4294967296 * r) + za0) = m := by rw [IntWalk.u64_in (4294967296 * r) (by omega), hm]; exact IntWalk.u64_in _ (by omega)
            have HQ := Lib.hid hq
            have HP := Lib.hid (And.intro hp hm)
            by_cases ht : m < p
            · have tt : decide (m < p) = true := decide_eq_true ht
              have hq1 : 1 ≤ q := by
                apply Classical.byContradiction
                intro h
                have : q = 0 := by omega
                subst this
                omega
              have f0 : IntKind.u64.wrap (q - 1) = q - 1 := IntWalk.u64_in _ (by omega)
              have HT := Lib.hid ht
              have HQ1 := Lib.hid hq1
              clear hg hbd hsm hq hp hm hpb ht hq1
              have hov := K2.out.over q r HG.out (.inr (by have := HP.out; have := HT.out; omega))
              by_cases hb : 4294967296 ≤ r + zy1
              · have tb : decide ((4294967296 : Int) ≤ r + zy1) = true := decide_eq_true hb
                have f1 : IntKind.u64.wrap (q - 1) = zQ0 := by rw [f0, hov.1 hb]
                clear f0 hov hb
                go_wp2_with fail
                go_ret2
                exact ⟨rfl, Below.refl _ _⟩
              · have tb : decide ((4294967296 : Int) ≤ r + zy1) = false := decide_eq_false hb
                have HN := Lib.hid (hov.2 hb)
                clear hov hb
                go_wp2_with fail
                go_round
                case rel => exact ⟨q - 1, r + zy1, rfl, rfl, HN.out⟩
                case measure => (have := HQ1.out; simp [intOf]; omega)
            · have tt : decide (m < p) = false := decide_eq_false ht
              obtain rfl : q = zQ0 := K2.out.fine q r hg (by omega) (by rw [← hp]; omega)
              clear hg hbd hsm hq hp hm hpb ht
              go_wp2_with fail
              go_ret2
              exact ⟨rfl, Below.refl _ _⟩
      · have tb : decide ((4294967296 : Int) ≤ r + zy1) = false := decide_eq_false hb
        have HN := Lib.hid (hov.2 hb)
        clear hov hb
        go_wp2_with fail
        go_round
        case rel => exact ⟨q - 1, r + zy1, rfl, rfl, HN.out⟩
        case measure => (have := HQ1.out; simp [intOf]; omega)
    · have tq : decide ((4294967296 : Int) ≤ q) = false := decide_eq_false hq
      obtain ⟨p, hp⟩ : ∃ p, p = q * zy0 := ⟨_, rfl⟩
      obtain ⟨m, hm⟩ : ∃ m, m = 4294967296 * r + za1 := ⟨_, rfl⟩
      have hpb := mul_bd q zy0 (by omega) (by omega) (by omega) (by omega)
      have g1 : IntKind.u64.wrap (q * zy0) = p := by rw [hp]; exact IntWalk.u64_in _ (by omega)
      have g3 : IntKind.u64.wrap (IntKind.u64.wrap (4294967296 * r) + za1) = m := by rw [IntWalk.u64_in (4294967296 * r) (by omega), hm]; exact IntWalk.u64_in _ (by omega)
      have HQ := Lib.hid hq
      have HP := Lib.hid (And.intro hp hm)
      by_cases ht : m < p
      · have tt : decide (m < p) = true := decide_eq_true ht
        have hq1 : 1 ≤ q := by
          apply Classical.byContradiction
          intro h
          have : q = 0 := by omega
          subst this
          omega
        have f0 : IntKind.u64.wrap (q - 1) = q - 1 := IntWalk.u64_in _ (by omega)
        have HT := Lib.hid ht
        have HQ1 := Lib.hid hq1
        clear hg hbd hsm hq hp hm hpb ht hq1
        have hov := K1.out.over q r HG.out (.inr (by have := HP.out; have := HT.out; omega))
        by_cases hb : 4294967296 ≤ r + zy1
        · have tb : decide ((4294967296 : Int) ≤ r + zy1) = true := decide_eq_true hb
          have f1 : IntKind.u64.wrap (q - 1) = zQ1 := by rw [f0, hov.1 hb]
          clear f0 hov hb
          go_wp2_with fail
          obtain ⟨f6, f7, f8⟩ := HF3.out
          go_loop [18, 16] (fun a b => ∃ q r : Int, a = .int .u64 q ∧ b = .int .u64 r ∧ G2 q r) (fun a _ => (intOf a).toNat)
          case atStart => exact ⟨q2, r2, rfl, rfl, K2.out.start⟩
          case round =>
            obtain ⟨q, r, rfl, rfl, hg⟩ := hrel
            have HG := Lib.hid hg
            have hbd := K2.out.bd q r hg
            have hsm := K2.out.small
            have f2 : IntKind.u64.wrap (r + zy1) = r + zy1 := IntWalk.u64_in _ (by omega)
            by_cases hq : 4294967296 ≤ q
            · have tq : decide ((4294967296 : Int) ≤ q) = true := decide_eq_true hq
              have f0 : IntKind.u64.wrap (q - 1) = q - 1 := IntWalk.u64_in _ (by omega)
              have HQ := Lib.hid hq
              have HQ1 : Hid (1 ≤ q) := Lib.hid (by omega)
              clear hg hbd hsm hq
              have hov := K2.out.over q r HG.out (.inl HQ.out)
              by_cases hb : 4294967296 ≤ r + zy1
              · have tb : decide ((4294967296 : Int) ≤ r + zy1) = true := decide_eq_true hb
                have f1 : IntKind.u64.wrap (q - 1) = zQ0 := by rw [f0, hov.1 hb]
                clear f0 hov hb
                go_wp2_with fail
                go_ret2
                exact ⟨rfl, Below.refl _ _⟩
              · have tb : decide ((4294967296 : Int) ≤ r + zy1) = false := decide_eq_false hb
                have HN := Lib.hid (hov.2 hb)
                clear hov hb
                go_wp2_with fail
                go_round
                case rel => exact ⟨q - 1, r + zy1, rfl, rfl, HN.out⟩
                case measure => (have := HQ1.out; simp [intOf]; omega)
            · have tq : decide ((4294967296 : Int) ≤ q) = false := decide_eq_false hq
              obtain ⟨p, hp⟩ : ∃ p, p = q * zy0 := ⟨_, rfl⟩
              obtain ⟨m, hm⟩ : ∃ m, m = 4294967296 * r + za0 := ⟨_, rfl⟩
              have hpb := mul_bd q zy0 (by omega) (by omega) (by omega) (by omega)
              have g1 : IntKind.u64.wrap (q * zy0) = p := by rw [hp]; exact IntWalk.u64_in _ (by omega)
              have g3 : IntKind.u64.wrap (IntKind.u64.wrap (4294967296 * r) + za0) = m := by rw [IntWalk.u64_in (4294967296 * r) (by omega), hm]; exact IntWalk.u64_in _ (by omega)
              have HQ := Lib.hid hq
              have HP := Lib.hid (And.intro hp hm)
              by_cases ht : m < p
              · have tt : decide (m < p) = true := decide_eq_true ht
                have hq1 : 1 ≤ q := by
                  apply Classical.byContradiction
                  intro h
                  have : q = 0 := by omega
                  subst this
                  omega
                have f0 : IntKind.u64.wrap (q - 1) = q - 1 := IntWalk.u64_in _ (by omega)
                have HT := Lib.hid ht
                have HQ1 := Lib.hid hq1
                clear hg hbd hsm hq hp hm hpb ht hq1
                have hov := K2.out.over q r HG.out (.inr (by have := HP.out; have := HT.out; omega))
                by_cases hb : 4294967296 ≤ r + zy1
                · have tb : decide ((4294967296 : Int) ≤ r + zy1) = true := decide_eq_true hb
                  have f1 : IntKind.u64.wrap (q - 1) = zQ0 := by rw [f0, hov.1 hb]
                  clear f0 hov hb
                  go_wp2_with fail
                  go_ret2
                  exact ⟨rfl, Below.refl _ _⟩
                · have tb : decide ((4294967296 : Int) ≤ r + zy1) = false := decide_eq_false hb
                  have HN := Lib.hid (hov.2 hb)
                  clear hov hb
                  go_wp2_with fail
                  go_round
                  case rel => exact ⟨q - 1, r + zy1, rfl, rfl, HN.out⟩
                  case measure => (have := HQ1.out; simp [intOf]; omega)
              · have tt : decide (m < p) = false := decide_eq_false ht
                obtain rfl : q = zQ0 := K2.out.fine q r hg (by omega) (by rw [← hp]; omega)
                clear hg hbd hsm hq hp hm hpb ht
                go_wp2_with fail
                go_ret2
                exact ⟨rfl, Below.refl _ _⟩
        · have tb : decide ((4294967296 : Int) ≤ r + zy1) = false := decide_eq_false hb
          have HN := Lib.hid (hov.2 hb)
          clear hov hb
          go_wp2_with fail
          go_round
          case rel => exact ⟨q - 1, r + zy1, rfl, rfl, HN.out⟩
          case measure => (have := HQ1.out; simp [intOf]; omega)
      · have tt : decide (m < p) = false := decide_eq_false ht
        obtain rfl : q = zQ1 := K1.out.fine q r hg (by omega) (by rw [← hp]; omega)
        clear hg hbd hsm hq hp hm hpb ht
        go_wp2_with fail
        obtain ⟨f6, f7, f8⟩ := HF3.out
        go_loop [18, 16] (fun a b => ∃ q r : Int, a = .int .u64 q ∧ b = .int .u64 r ∧ G2 q r) (fun a _ => (intOf a).toNat)
        case atStart => exact ⟨q2, r2, rfl, rfl, K2.out.start⟩
        case round =>
          obtain ⟨q, r, rfl, rfl, hg⟩ := hrel
          have HG := Lib.hid hg
          have hbd := K2.out.bd q r hg
          have hsm := K2.out.small
          have f2 : IntKind.u64.wrap (r + zy1) = r + zy1 := IntWalk.u64_in _ (by omega)
          by_cases hq : 4294967296 ≤ q
          · have tq : decide ((4294967296 : Int) ≤ q) = true := decide_eq_true hq
            have f0 : IntKind.u64.wrap (q - 1) = q - 1 := IntWalk.u64_in _ (by omega)
            have HQ := Lib.hid hq
            have HQ1 : Hid (1 ≤ q) := Lib.hid (by omega)
            clear hg hbd hsm hq
            have hov := K2.out.over q r HG.out (.inl HQ.out)
            by_cases hb : 4294967296 ≤ r + zy1
            · have tb : decide ((4294967296 : Int) ≤ r + zy1) = true := decide_eq_true hb
              have f1 : IntKind.u64.wrap (q - 1) = zQ0 := by rw [f0, hov.1 hb]
              clear f0 hov hb
              go_wp2_with fail
              go_ret2
              exact ⟨rfl, Below.refl _ _⟩
            · have tb : decide ((4294967296 : Int) ≤ r + zy1) = false := decide_eq_false hb
              have HN := Lib.hid (hov.2 hb)
              clear hov hb
              go_wp2_with fail
              go_round
              case rel => exact ⟨q - 1, r + zy1, rfl, rfl, HN.out⟩
              case measure => (have := HQ1.out; simp [intOf]; omega)
          · have tq : decide ((4294967296 : Int) ≤ q) = false := decide_eq_false hq
            obtain ⟨p, hp⟩ : ∃ p, p = q * zy0 := ⟨_, rfl⟩
            obtain ⟨m, hm⟩ : ∃ m, m = 4294967296 * r + za0 := ⟨_, rfl⟩
            have hpb := mul_bd q zy0 (by omega) (by omega) (by omega) (by omega)
            have g1 : IntKind.u64.wrap (q * zy0) = p := by rw [hp]; exact IntWalk.u64_in _ (by omega)
            have g3 : IntKind.u64.wrap (IntKind.u64.wrap (4294967296 * r) + za0) = m := by rw [IntWalk.u64_in (4294967296 * r) (by omega), hm]; exact IntWalk.u64_in _ (by omega)
            have HQ := Lib.hid hq
            have HP := Lib.hid (And.intro hp hm)
            by_cases ht : m < p
            · have tt : decide (m < p) = true := decide_eq_true ht
              have hq1 : 1 ≤ q := by
                apply Classical.byContradiction
                intro h
                have : q = 0 := by omega
                subst this
                omega
              have f0 : IntKind.u64.wrap (q - 1) = q - 1 := IntWalk.u64_in _ (by omega)
              have HT := Lib.hid ht
              have HQ1 := Lib.hid hq1
              clear hg hbd hsm hq hp hm hpb ht hq1
              have hov := K2.out.over q r HG.out (.inr (by have := HP.out; have := HT.out; omega))
              by_cases hb : 4294967296 ≤ r + zy1
              · have tb : decide ((4294967296 : Int) ≤ r + zy1) = true := decide_eq_true hb
                have f1 : IntKind.u64.wrap (q - 1) = zQ0 := by rw [f0, hov.1 hb]
                clear f0 hov hb
                go_wp2_with fail
                go_ret2
                exact ⟨rfl, Below.refl _ _⟩
              · have tb : decide ((4294967296 : Int) ≤ r + zy1) = false := decide_eq_false hb
                have HN := Lib.hid (hov.2 hb)
                clear hov hb
                go_wp2_with fail
                go_round
                case rel => exact ⟨q - 1, r + zy1, rfl, rfl, HN.out⟩
                case measure => (have := HQ1.out; simp [intOf]; omega)
            · have tt : decide (m < p) = false := decide_eq_false ht
              obtain rfl : q = zQ0 := K2.out.fine q r hg (by omega) (by rw [← hp]; omega)
              clear hg hbd hsm hq hp hm hpb ht
              go_wp2_with fail
              go_ret2
              exact ⟨rfl, Below.refl _ _⟩end Go.Proofs.YtbigoifpfkdkjaaGreatDoor.Sc
