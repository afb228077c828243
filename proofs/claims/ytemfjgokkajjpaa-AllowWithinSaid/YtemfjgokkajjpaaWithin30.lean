/- AllowWithin: for every input the law returns true. -/
import Derived.Test.YtemfjgokkajjpaaLawA30
import Derived.Test.YtemfjgokkajjpaaShelf
namespace Go.Proofs.Ytemfjgokkajjpaa.allowWithin
open Go.ChangeShapes Go.WideShapes Go.ChangeAt Go.RowKit Go Sc
set_option linter.unusedVariables false

/-- Does a number lie within another one's tolerance? -/
def inside (n o a b : Int) : Bool :=
  decide (0 ≤ n) && decide (0 ≤ o) && decide (o ≤ 1099511627776) && tol a && tol b && decide (o * (1000 - b) ≤ 1000 * n) && decide (1000 * n ≤ o * (1000 + a))

structure Good (n o a b : Int) : Prop where
  n0 : 0 ≤ n
  o0 : 0 ≤ o
  o1 : o ≤ 1099511627776
  a0 : 0 ≤ a
  a1 : a ≤ 1000
  b0 : 0 ≤ b
  b1 : b ≤ 1000

def good (n o a b : Int) : Bool := decide (0 ≤ n) && decide (0 ≤ o) && decide (o ≤ 1099511627776) && tol a && tol b
theorem good_iff (n o a b : Int) : good n o a b = true ↔ Good n o a b := by
  simp only [good, tol, Bool.and_eq_true, decide_eq_true_eq]
  constructor
  · rintro ⟨⟨⟨⟨h1, h2⟩, h3⟩, h4, h5⟩, h6, h7⟩; exact ⟨h1, h2, h3, h4, h5, h6, h7⟩
  · rintro ⟨h1, h2, h3, h4, h5, h6, h7⟩; exact ⟨⟨⟨⟨h1, h2⟩, h3⟩, h4, h5⟩, h6, h7⟩
theorem inside_eq (n o a b : Int) : inside n o a b = (good n o a b && decide (o * (1000 - b) ≤ 1000 * n) && decide (1000 * n ≤ o * (1000 + a))) := rfl

theorem prod_bd (o a b : Int) (h1 : 0 ≤ o) (h2 : o ≤ 1099511627776) (h3 : 0 ≤ a) (h4 : a ≤ 1000) (h5 : 0 ≤ b) (h6 : b ≤ 1000) :
    1000 * o ≤ o * (1000 + a) ∧ o * (1000 + a) ≤ 2000 * o ∧ 0 ≤ o * (1000 - b) ∧ o * (1000 - b) ≤ 1000 * o := by
  have e1 : o * (1000 + a) = 1000 * o + o * a := by rw [Int.mul_add]; omega
  have e2 : 0 ≤ o * a := Int.mul_nonneg h1 h3
  have e3 : o * a ≤ o * 1000 := Int.mul_le_mul_of_nonneg_left h4 h1
  have f1 : o * (1000 - b) = 1000 * o - o * b := by rw [Int.mul_sub]; omega
  have f2 : 0 ≤ o * b := Int.mul_nonneg h1 h5
  have f3 : o * b ≤ o * 1000 := Int.mul_le_mul_of_nonneg_left h6 h1
  omega

set_option maxHeartbeats 1000000 in
theorem within_ref (n o a b : Int) (w : World) : Calls Try.prog 15 #[.int .i64 n, .int .i64 o, .int .i64 a, .int .i64 b] w (RetB w (inside n o a b)) := by
  rw [inside_eq]
  cases hg : good n o a b
  · have hng : ¬ Good n o a b := fun h => by rw [(good_iff _ _ _ _).2 h] at hg; cases hg
    have hx : ¬ (0 ≤ n ∧ 0 ≤ o ∧ o ≤ 1099511627776 ∧ 0 ≤ a ∧ a ≤ 1000 ∧ 0 ≤ b ∧ b ≤ 1000) := fun ⟨h1, h2, h3, h4, h5, h6, h7⟩ => hng ⟨h1, h2, h3, h4, h5, h6, h7⟩
    clear hng hg
    have HX := Lib.hid hx
    clear hx
    go_enter Try.func15, Try.ntmps15
    go_wp2
    all_goals have hx := HX.out
    all_goals first
      | (exfalso; omega)
      | (go_ret; exact retB rfl (Below.refl _ _))
  · obtain ⟨g1, g2, g3, g4, g5, g6, g7⟩ := (good_iff _ _ _ _).1 hg
    obtain ⟨p1, p2, p3, p4⟩ := prod_bd o a b g2 g3 g4 g5 g6 g7
    clear hg
    by_cases hn : n ≤ 2199023255552
    · go_enter Try.func15, Try.ntmps15
      go_wp2
      all_goals go_ret
      all_goals exact retB (by simp; try omega) (Below.refl _ _)
    · have : ¬ 1000 * n ≤ o * (1000 + a) := by omega
      go_enter Try.func15, Try.ntmps15
      go_wp2
      all_goals go_ret
      all_goals exact retB (by simp; try omega) (Below.refl _ _)

theorem tol_yes {a : Int} (h1 : 0 ≤ a) (h2 : a ≤ 1000) (w : World) : Calls Try.prog 22 #[.int .i64 a] w fun e w' => e = .returned (.bool true) ∧ w = w' := by
  have h := tolerant_any a w
  rwa [show tol a = true from by simp [tol, h1, h2]] at h

theorem mul_small (N : Nat) (h : 1000 * N < 18446744073709551616) (w : World) : Calls Try.prog 23 #[.int .u64 N, .int .u64 1000] w fun e w' => e = .returned (.tuple #[.int .u64 0, .int .u64 (1000 * (N : Int))]) ∧ w = w' := by
  refine (Try.bits_Mul64 N 1000 (by omega) (by omega) w).mono fun e w' ⟨he, hw⟩ => ⟨?_, hw.symm⟩
  rw [he, Nat.div_eq_of_lt (by omega), Nat.mod_eq_of_lt (by omega)]
  refine ret_eq ?_
  rw [show ((N * 1000 : Nat) : Int) = 1000 * (N : Int) from by omega]
  rfl

theorem mul_big (N : Nat) (hN : N ≤ 9223372036854775807) (h : ¬ 1000 * N < 18446744073709551616) : ∃ H L : Int, (H != 0) = true ∧ ∀ w : World, Calls Try.prog 23 #[.int .u64 N, .int .u64 1000] w fun e w' => e = .returned (.tuple #[.int .u64 H, .int .u64 L]) ∧ w = w' := by
  refine ⟨((N * 1000 / 18446744073709551616 : Nat) : Int), ((N * 1000 % 18446744073709551616 : Nat) : Int), ?_, fun w => ?_⟩
  · have : 1 ≤ N * 1000 / 18446744073709551616 := (Nat.le_div_iff_mul_le (by omega)).2 (by omega)
    rw [bne_iff_ne]
    omega
  · exact (Try.bits_Mul64 N 1000 (by omega) (by omega) w).mono fun e w' ⟨he, hw⟩ => ⟨he, hw.symm⟩

set_option maxHeartbeats 1000000 in
theorem within_prog (n o a b : Int) (w : World) (hn : (Lit.int .i64 n).wf = true) : Calls Try.prog 14 #[.int .i64 n, .int .i64 o, .int .i64 a, .int .i64 b] w (RetB w (inside n o a b)) := by
  rw [inside_eq]
  have hn' := bounds_i64 hn
  cases hg : good n o a b
  · have hng : ¬ Good n o a b := fun h => by rw [(good_iff _ _ _ _).2 h] at hg; cases hg
    have hx : ¬ (0 ≤ n ∧ 0 ≤ o ∧ o ≤ 1099511627776 ∧ tol a = true ∧ tol b = true) := fun ⟨h1, h2, h3, h4, h5⟩ => by
      simp only [tol, Bool.and_eq_true, decide_eq_true_eq] at h4 h5
      exact hng ⟨h1, h2, h3, h4.1, h4.2, h5.1, h5.2⟩
    clear hng hg
    have HX := Lib.hid hx
    clear hx
    go_enter Try.func14, Try.ntmps14
    go_wp2_with (go_at_call 22; refine (tolerant_any _ _).mono ?_; rintro e w' ⟨rfl, rfl⟩)
    all_goals have hx := HX.out
    all_goals first
      | (exfalso; exact hx ⟨by omega, by omega, by omega, by assumption, by simpa using ‹(_ ∧ _) ∧ (!tol b) = false›.2⟩)
      | (go_ret; exact retB (by simp) (Below.refl _ _))
  · obtain ⟨g1, g2, g3, g4, g5, g6, g7⟩ := (good_iff _ _ _ _).1 hg
    obtain ⟨p1, p2, p3, p4⟩ := prod_bd o a b g2 g3 g4 g5 g6 g7
    have T1 := Lib.hid (fun w => tol_yes g4 g5 w)
    have T2 := Lib.hid (fun w => tol_yes g6 g7 w)
    clear hg
    obtain ⟨N, rfl⟩ := Int.eq_ofNat_of_zero_le g1
    by_cases hbig : 1000 * N < 18446744073709551616
    · have M := Lib.hid (fun w => mul_small N hbig w)
      go_enter Try.func14, Try.ntmps14
      go_wp2_with fail
      refine (T1.out _).mono ?_
      rintro e w' ⟨rfl, rfl⟩
      go_wp2_with fail
      refine (T2.out _).mono ?_
      rintro e w' ⟨rfl, rfl⟩
      go_wp2_with fail
      refine (M.out _).mono ?_
      rintro e w' ⟨rfl, rfl⟩
      go_wp2_with fail
      all_goals
        go_ret
        exact retB (by simp; try omega) (Below.refl _ _)
    · obtain ⟨Hi, L, hH, hM⟩ := mul_big N (by omega) hbig
      have M := Lib.hid hM
      have : ¬ 1000 * (N : Int) ≤ o * (1000 + a) := by omega
      clear hM
      go_enter Try.func14, Try.ntmps14
      go_wp2_with fail
      refine (T1.out _).mono ?_
      rintro e w' ⟨rfl, rfl⟩
      go_wp2_with fail
      refine (T2.out _).mono ?_
      rintro e w' ⟨rfl, rfl⟩
      go_wp2_with fail
      refine (M.out _).mono ?_
      rintro e w' ⟨rfl, rfl⟩
      go_wp2_with fail
      all_goals
        go_ret
        exact retB (by simp; try omega) (Below.refl _ _)

theorem inside_self (o a b : Int) (h : Bnd (mkCr o a b 0 false)) : inside o o a b = true := by
  obtain ⟨h1, h2, h3, h4, h5, h6, h7, h8⟩ := h
  simp only [mkCr] at h1 h2 h3 h4 h5 h6
  obtain ⟨p1, p2, p3, p4⟩ := prod_bd o a b (by omega) h2 h3 h4 h5 h6
  simp only [inside, tol, Bool.and_eq_true, decide_eq_true_eq]
  omega

theorem inside_ends (n o a b : Int) (h : Bnd (mkCr o a b 0 false)) : inside n o a b = (decide ((mkCr o a b 0 false).least ≤ n) && decide (n ≤ (mkCr o a b 0 false).most)) := by
  obtain ⟨h1, h2, h3, h4, h5, h6, h7, h8⟩ := h
  simp only [mkCr] at h1 h2 h3 h4 h5 h6
  obtain ⟨p1, p2, p3, p4⟩ := prod_bd o a b (by omega) h2 h3 h4 h5 h6
  rw [show (mkCr o a b 0 false).least = (o * (1000 - b) + 999) / 1000 from rfl, show (mkCr o a b 0 false).most = o * (1000 + a) / 1000 from rfl, Bool.eq_iff_iff]
  simp only [inside, tol, Bool.and_eq_true, decide_eq_true_eq]
  clear h7 h8
  generalize o * (1000 + a) = g at *
  generalize o * (1000 - b) = k at *
  constructor
  · rintro ⟨⟨⟨⟨⟨⟨q1, q2⟩, q3⟩, q4⟩, q5⟩, q6⟩, q7⟩
    omega
  · rintro ⟨q1, q2⟩
    refine ⟨⟨⟨⟨⟨⟨?_, ?_⟩, ?_⟩, ?_, ?_⟩, ?_, ?_⟩, ?_⟩, ?_⟩ <;> omega

set_option maxHeartbeats 2000000 in
theorem walk (n o a b : Int) (hn : (Lit.int .i64 n).wf = true) (ho : (Lit.int .i64 o).wf = true) (w : World) :
    Calls Try.prog 4 #[.int .i64 n, .int .i64 o, .int .i64 a, .int .i64 b] w (RetB w true) := by
  have P1 := Lib.hid (fun w => within_prog n o a b w hn)
  have R1 := Lib.hid (fun w => within_ref n o a b w)
  have HC := Lib.hid (fun w => bounds_any o a b 0 false w)
  have RB := refBounds_any (mkCr o a b 0 false)
  cases hc : (mkCr o a b 0 false).bnd
  · rw [hc] at RB
    have HB := Lib.hid RB
    clear hc RB
    generalize mkCr o a b 0 false = c at *
    generalize inside n o a b = r at *
    go_enter Try.func4, Try.ntmps4
    go_wp2_with fail
    refine (awake_any _).mono ?_
    rintro e w1 ⟨rfl, hb1⟩
    go_wp2_with fail
    refine (P1.out _).mono ?_
    rintro e w2 ⟨rfl, hb⟩
    have hb2 := below_then hb1 hb
    go_wp2_with fail
    refine (R1.out _).mono ?_
    rintro e w3 ⟨rfl, hb⟩
    have hb3 := below_then hb2 hb
    go_wp2_with fail
    refine (HC.out _).mono ?_
    rintro e w4 ⟨rfl, hb⟩
    have hb4 := below_then hb3 hb
    have h0 := heap_alloc_new w4 (.cells c.cells 27)
    go_wp2_with (first | (refine new_cr 10 (.tmp 28) c rfl rfl ?_) | (refine load_cr (.tmp 10) w4.heap.size _ _ rfl rfl h0 ?_) | fail)
    refine (HB.out _).mono ?_
    rintro e w5 ⟨rfl, hb⟩
    have hb5 := below_then hb4 (below_new hb)
    go_wp2_with fail
    go_ret
    exact ⟨rfl, hb5⟩
  · have hbd := (bnd_iff _).1 hc
    have hself := inside_self o a b hbd
    have hends := inside_ends n o a b hbd
    have P2 := within_prog o o a b
    rw [hself] at P2
    have P2 := Lib.hid (fun w => P2 w ho)
    rw [hc] at RB
    have HB := Lib.hid RB
    have RM := Lib.hid (fun w => refMost_any _ w hbd)
    have RL := Lib.hid (fun w => refLeast_any _ w hbd)
    clear hc RB hself hbd
    generalize mkCr o a b 0 false = c at *
    generalize c.most = m at *
    generalize c.least = l at *
    generalize inside n o a b = r at *
    subst hends
    go_enter Try.func4, Try.ntmps4
    go_wp2_with fail
    refine (awake_any _).mono ?_
    rintro e w1 ⟨rfl, hb1⟩
    go_wp2_with fail
    refine (P1.out _).mono ?_
    rintro e w2 ⟨rfl, hb⟩
    have hb2 := below_then hb1 hb
    go_wp2_with fail
    refine (R1.out _).mono ?_
    rintro e w3 ⟨rfl, hb⟩
    have hb3 := below_then hb2 hb
    go_wp2_with fail
    refine (HC.out _).mono ?_
    rintro e w4 ⟨rfl, hb⟩
    have hb4 := below_then hb3 hb
    have h0 := heap_alloc_new w4 (.cells c.cells 27)
    go_wp2_with (first | (refine new_cr 10 (.tmp 28) c rfl rfl ?_) | (refine load_cr (.tmp 10) w4.heap.size _ _ rfl rfl h0 ?_) | fail)
    refine (HB.out _).mono ?_
    rintro e w5 ⟨rfl, hb⟩
    have h0 := blk hb (by simp) h0
    have hz := size_new hb
    have hb5 := below_then hb4 (below_new hb)
    clear hb
    go_wp2_with (first | (refine load_cr (.tmp 10) w4.heap.size _ _ rfl rfl h0 ?_) | fail)
    refine (RL.out _).mono ?_
    rintro e w6 ⟨rfl, hb⟩
    have h0 := blk hb (by omega) h0
    have hz := Nat.le_trans hz hb.size
    have hb6 := below_then hb5 hb
    clear hb
    by_cases hl : l ≤ n
    · have hl' : decide (l ≤ n) = true := by simpa using hl
      go_wp2_with (first | (refine load_cr (.tmp 10) w4.heap.size _ _ rfl rfl h0 ?_) | fail)
      refine (RM.out _).mono ?_
      rintro e w7 ⟨rfl, hb⟩
      have hb7 := below_then hb6 hb
      clear hb
      go_wp2_with fail
      refine (P2.out _).mono ?_
      rintro e w8 ⟨rfl, hb⟩
      have hb8 := below_then hb7 hb
      clear hb
      go_wp2_with fail
      go_ret
      exact retB (by simp) hb8
    · go_wp2_with fail
      refine (P2.out _).mono ?_
      rintro e w7 ⟨rfl, hb⟩
      have hb7 := below_then hb6 hb
      clear hb
      go_wp2_with fail
      go_ret
      exact retB (by simp) hb7

theorem lifted (os : Os) (started : os.Started) (H : Type) (enc : TypeId × Value → H) :
    ReturnsInHanded {} Try.checked os 4 .any (Rows.allowWithinSpec.pre6 enc Try.prog Try.f4 Rows.allowWithinRow.domain false) (Rows.allowWithinSpec.post enc Try.prog Try.f4 false true false false) := by
  refine law_lifted os started (by kernel_rfl) Try.func4
    (ChangeSpec.witness6 (enc := enc) (C := Try.checked) false ⟨#[], #[.int .i64 0, .int .i64 0, .int .i64 0, .int .i64 0], []⟩ 8 (by kernel_rfl) (by kernel_rfl) (by kernel_rfl) (by kernel_rfl))
    (by kernel_rfl) rfl rfl ?_ ?_
  · intro vs ds W p h
    rw [Try.params4] at h
    obtain ⟨v0, vs0, d0, ds0, p0, q0, rfl, rfl, rfl, h0, r0⟩ := trodAll_cons h
    obtain ⟨v1, vs1, d1, ds1, p1, q1, rfl, rfl, rfl, h1, r1⟩ := trodAll_cons r0
    obtain ⟨v2, vs2, d2, ds2, p2, q2, rfl, rfl, rfl, h2, r2⟩ := trodAll_cons r1
    obtain ⟨v3, vs3, d3, ds3, p3, q3, rfl, rfl, rfl, h3, r3⟩ := trodAll_cons r2
    obtain ⟨rfl, rfl, rfl⟩ := trodAll_nil r3
    rfl
  · intro W base args ds p hval hA
    rw [Try.params4] at hA hval
    obtain ⟨v0, vs0, d0, ds0, p0, q0, hargs, rfl, rfl, h0, r0⟩ := trodAll_cons hA
    obtain ⟨v1, vs1, d1, ds1, p1, q1, rfl, rfl, rfl, h1, r1⟩ := trodAll_cons r0
    obtain ⟨v2, vs2, d2, ds2, p2, q2, rfl, rfl, rfl, h2, r2⟩ := trodAll_cons r1
    obtain ⟨v3, vs3, d3, ds3, p3, q3, rfl, rfl, rfl, h3, r3⟩ := trodAll_cons r2
    obtain ⟨rfl, rfl, rfl⟩ := trodAll_nil r3
    obtain rfl : args = #[v0, v1, v2, v3] := by cases args; simp_all
    obtain ⟨a0, rfl, rfl, rfl, w0⟩ := open_int Try.underlying2 (hval 0 2 v0 rfl rfl) h0
    obtain ⟨a1, rfl, rfl, rfl, w1⟩ := open_int Try.underlying2 (hval 1 2 v1 rfl rfl) h1
    obtain ⟨a2, rfl, rfl, rfl, w2⟩ := open_int Try.underlying3 (hval 2 3 v2 rfl rfl) h2
    obtain ⟨a3, rfl, rfl, rfl, w3⟩ := open_int Try.underlying3 (hval 3 3 v3 rfl rfl) h3
    exact walk a0 a1 a2 a3 w0 w1 W

theorem over : Rows.allowWithinRow.holds Try.pinned (OpenSpec.ofChange Rows.allowWithinSpec) :=
  OpenClaim.holds_of_wide 4 Try.f4 rfl rfl rfl rfl rfl rfl rfl ⟨rfl, rfl, rfl, rfl, rfl⟩ rfl rfl rfl rfl rfl (by kernel_rfl) Try.func4 (by kernel_rfl)
    (of_decide_eq_true (by kernel_rfl)) (by unfold Func.isWrapper; rw [if_neg (by decide +kernel)]; exact ⟨rfl, rfl⟩)
    (fun os started H enc _ => lifted os started H enc)

/-- The statement. -/
theorem proved : Rows.AllowWithinSaid := over
#print axioms proved
end Go.Proofs.Ytemfjgokkajjpaa.allowWithin
