/- AllowMost: for every input the law returns true. -/
import Derived.Test.YtemfjgokkajjpaaLawA30
namespace Go.Proofs.Ytemfjgokkajjpaa.allowMost
open Go.ChangeShapes Go.WideShapes Go.ChangeAt Go.RowKit Go Sc
set_option linter.unusedVariables false

theorem own : ownKnob Try.prog.godebug = none := by kernel_rfl

theorem most_ends (s a b : Int) (p : Bool) (e : Int) (h : Bnd (mkCr s a b e p)) : 
    (mkCr s a b e p).least ≤ s ∧ s ≤ (mkCr s a b e p).most ∧ (mkCr s a b e p).most ≤ 2 * s ∧ 0 ≤ (mkCr s a b e p).least := by
  obtain ⟨h1, h2, h3, h4, h5, h6, h7, h8⟩ := h
  simp only [mkCr] at h1 h2 h3 h4 h5 h6 h7 h8
  obtain ⟨m1, m2, m3, m4⟩ := most_bd s a h1 h2 h3 h4
  obtain ⟨l1, l2⟩ := least_bd s b h1 h2 h5 h6
  simp only [Cr.most, Cr.least, mkCr]
  omega

set_option maxHeartbeats 2000000 in
theorem walk (a0 : Int) (a1 : Int) (a2 : Int) (a3 : Int) (w : World) :
    Calls Try.prog 3 #[.int .i64 a0, .int .i64 a1, .int .i64 a2, .int .i64 a3] w (RetB w true) := by
  cases hc : (mkCr a0 a1 a2 a3 false).bnd
  · have M := Lib.hid (fun w => Most_not _ hc w)
    have L := Lib.hid (fun w => Least_not _ hc w)
    have RB := refBounds_any (mkCr a0 a1 a2 a3 false)
    rw [hc] at RB
    have HB := Lib.hid RB
    have HC := Lib.hid (fun w => bounds_any a0 a1 a2 a3 false w)
    clear hc RB
    generalize mkCr a0 a1 a2 a3 false = c at *
    go_enter Try.func3, Try.ntmps3
    go_wp2_with fail
    refine (awake_any _).mono ?_
    rintro e w1 ⟨rfl, hb1⟩
    go_wp2_with fail
    refine (HC.out _).mono ?_
    rintro e w2 ⟨rfl, hb2⟩
    have hb2 := below_then hb1 hb2
    have h0 := heap_alloc_new w2 (.cells c.cells 27)
    go_wp2_with (first | (refine new_cr 9 (.tmp 20) c rfl rfl ?_) | (refine load_cr (.tmp 9) w2.heap.size _ _ rfl rfl h0 ?_) | fail)
    refine (M.out _).mono ?_
    rintro e w3 ⟨rfl, hb⟩
    have h0 := blk hb (by simp) h0
    have hz := size_new hb
    have hb3 := below_then hb2 (below_new hb)
    clear hb
    go_wp2_with (first | (refine load_cr (.tmp 9) w2.heap.size _ _ rfl rfl h0 ?_) | fail)
    refine (L.out _).mono ?_
    rintro e w4 ⟨rfl, hb⟩
    have h0 := blk hb (by omega) h0
    have hz := Nat.le_trans hz hb.size
    have hb4 := below_then hb3 hb
    clear hb
    go_wp2_with (first | (refine load_cr (.tmp 9) w2.heap.size _ _ rfl rfl h0 ?_) | fail)
    refine (HB.out _).mono ?_
    rintro e w5 ⟨rfl, hb⟩
    have hb5 := below_then hb4 hb
    clear hb
    go_wp2_with fail
    go_ret
    exact ⟨rfl, hb5⟩
  · have hbd := (bnd_iff _).1 hc
    obtain ⟨l1, l2, l3, l4⟩ := most_ends a0 a1 a2 false a3 hbd
    have M := Lib.hid (fun w => Most_yes _ hc w)
    have L := Lib.hid (fun w => Least_yes _ hc w)
    have RM := Lib.hid (fun w => refMost_any _ w hbd)
    have RL := Lib.hid (fun w => refLeast_any _ w hbd)
    have RB := refBounds_any (mkCr a0 a1 a2 a3 false)
    rw [hc] at RB
    have HB := Lib.hid RB
    have HC := Lib.hid (fun w => bounds_any a0 a1 a2 a3 false w)
    have hs1 : 1 ≤ a0 := hbd.s1
    have hs2 : a0 ≤ 1099511627776 := hbd.s2
    clear hc RB hbd
    generalize mkCr a0 a1 a2 a3 false = c at *
    generalize c.most = m at *
    generalize c.least = l at *
    go_enter Try.func3, Try.ntmps3
    go_wp2_with fail
    refine (awake_any _).mono ?_
    rintro e w1 ⟨rfl, hb1⟩
    go_wp2_with fail
    refine (HC.out _).mono ?_
    rintro e w2 ⟨rfl, hb2⟩
    have hb2 := below_then hb1 hb2
    have h0 := heap_alloc_new w2 (.cells c.cells 27)
    go_wp2_with (first | (refine new_cr 9 (.tmp 20) c rfl rfl ?_) | (refine load_cr (.tmp 9) w2.heap.size _ _ rfl rfl h0 ?_) | fail)
    refine (M.out _).mono ?_
    rintro e w3 ⟨rfl, hb⟩
    have h0 := blk hb (by simp) h0
    have hz := size_new hb
    have hb3 := below_then hb2 (below_new hb)
    clear hb
    go_wp2_with (first | (refine load_cr (.tmp 9) w2.heap.size _ _ rfl rfl h0 ?_) | fail)
    refine (L.out _).mono ?_
    rintro e w4 ⟨rfl, hb⟩
    have h0 := blk hb (by omega) h0
    have hz := Nat.le_trans hz hb.size
    have hb4 := below_then hb3 hb
    clear hb
    go_wp2_with (first | (refine load_cr (.tmp 9) w2.heap.size _ _ rfl rfl h0 ?_) | fail)
    refine (HB.out _).mono ?_
    rintro e w5 ⟨rfl, hb⟩
    have h0 := blk hb (by omega) h0
    have hz := Nat.le_trans hz hb.size
    have hb5 := below_then hb4 hb
    clear hb
    go_wp2_with (first | (refine load_cr (.tmp 9) w2.heap.size _ _ rfl rfl h0 ?_) | fail)
    refine (RM.out _).mono ?_
    rintro e w6 ⟨rfl, hb⟩
    have h0 := blk hb (by omega) h0
    have hz := Nat.le_trans hz hb.size
    have hb6 := below_then hb5 hb
    clear hb
    go_wp2_with (first | (refine load_cr (.tmp 9) w2.heap.size _ _ rfl rfl h0 ?_) | fail)
    refine (RL.out _).mono ?_
    rintro e w7 ⟨rfl, hb⟩
    have hb7 := below_then hb6 hb
    clear hb
    go_wp2_with fail
    all_goals
      go_ret
      exact retB (by simp; try omega) hb7

set_option maxRecDepth 100000 in
theorem lifted (os : Os) (started : os.Started) (H : Type) (enc : TypeId × Value → H) :
    ReturnsInHanded {} Try.checked os 3 .any (Rows.allowMostSpec.pre6 enc Try.prog Try.f3 Rows.allowMostRow.domain false) (Rows.allowMostSpec.post enc Try.prog Try.f3 false true false false) := by
  refine returnsInHanded_of_change (C := Try.checked) own started (by kernel_rfl) Try.func3
    (ChangeSpec.witness6 (enc := enc) (C := Try.checked) false ⟨#[], #[.int .i64 0, .int .i64 0, .int .i64 0, .int .i64 0], []⟩ 8 (by kernel_rfl) (by kernel_rfl) (by kernel_rfl) (by kernel_rfl)) ?_
  intro W base args ds gs before hval0 hW hcnd _
  have hval : ∀ (j : Nat) t v, Try.f3.params[j]? = some t → args[j]? = some v → Value.okWide Try.prog W .any base t v := hval0
  have hW' := hW
  obtain ⟨p, q, hA0, hV, rfl, hfz, hnd⟩ := hW
  have hA : DataW.TrodAll enc Try.prog W 0 (fun _ => true) true Try.f3.params.toList args.toList ds p := hA0
  rw [Try.params3] at hA hval
  obtain ⟨v0, vs0, d0, ds0, p0, q0, hargs, rfl, rfl, h0, r0⟩ := trodAll_cons hA
  obtain ⟨v1, vs1, d1, ds1, p1, q1, rfl, rfl, rfl, h1, r1⟩ := trodAll_cons r0
  obtain ⟨v2, vs2, d2, ds2, p2, q2, rfl, rfl, rfl, h2, r2⟩ := trodAll_cons r1
  obtain ⟨v3, vs3, d3, ds3, p3, q3, rfl, rfl, rfl, h3, r3⟩ := trodAll_cons r2
  obtain ⟨rfl, rfl, rfl⟩ := trodAll_nil r3
  obtain rfl : args = #[v0, v1, v2, v3] := by cases args; simp_all
  obtain ⟨rfl, rfl⟩ := trodVars_none hV
  obtain ⟨a0, rfl, rfl, rfl, w0⟩ := open_int Try.underlying2 (hval 0 2 v0 rfl rfl) h0
  obtain ⟨a1, rfl, rfl, rfl, w1⟩ := open_int Try.underlying3 (hval 1 3 v1 rfl rfl) h1
  obtain ⟨a2, rfl, rfl, rfl, w2⟩ := open_int Try.underlying3 (hval 2 3 v2 rfl rfl) h2
  obtain ⟨a3, rfl, rfl, rfl, w3⟩ := open_int Try.underlying3 (hval 3 3 v3 rfl rfl) h3
  clear hA0 hval0
  simp only [List.append_nil] at hW'
  refine (walk a0 a1 a2 a3 W).mono fun e W' ⟨he, hg⟩ => ?_
  subst he
  exact ⟨_, rfl, _, _, _, [], _, [], hW', trodAll_mk1 (shut_bool Try.underlying4 _), (trodAll_cons_mk (shut_int Try.underlying2 w0) (trodAll_cons_mk (shut_int Try.underlying3 w1) (trodAll_cons_mk (shut_int Try.underlying3 w2) (trodAll_cons_mk (shut_int Try.underlying3 w3) trodAll_mk0)))), rfl, hg.frame _, fun h => by cases h⟩

theorem over : Rows.allowMostRow.holds Try.pinned (OpenSpec.ofChange Rows.allowMostSpec) :=
  OpenClaim.holds_of_wide 3 Try.f3 rfl rfl rfl rfl rfl rfl rfl ⟨rfl, rfl, rfl, rfl, rfl⟩ rfl rfl rfl rfl rfl (by kernel_rfl) Try.func3 (by kernel_rfl)
    (of_decide_eq_true (by kernel_rfl)) (by unfold Func.isWrapper; first | (rw [if_pos (by decide +kernel)]; kernel_rfl) | (rw [if_neg (by decide +kernel)]; exact ⟨rfl, rfl⟩))
    (fun os started H enc _ => lifted os started H enc)

/-- The statement. -/
theorem proved : Rows.AllowMostSaid :=
  over
#print axioms proved
end Go.Proofs.Ytemfjgokkajjpaa.allowMost
