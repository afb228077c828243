/- AllowParts, the plain law, and the inputs of which nothing is asked. -/
import Derived.Test.YtemfjgokkajjpaaMay
import Derived.Test.YtemfjgokkajjpaaLawA30
namespace Go.Proofs.Ytemfjgokkajjpaa.allowParts
open Go.ChangeShapes Go.WideShapes Go.ChangeAt Go.RowKit Go Sc

/-! The plain law. -/
theorem code_iff {c : Cr} {h : List Dr} {d : Dr} (hp : c.part = true) : mayCode c h d = 0 ↔ c.bnd = true ∧ draws (h ++ [d]) = true ∧ d.day ≤ c.expiry ∧ dsum (h ++ [d]) ≤ c.most := by
  simp only [mayCode, hp]
  cases hm : mayArg c h d
  · simp only [mayArg, Bool.not_eq_false', Bool.and_eq_true] at hm
    by_cases q1 : c.expiry < d.day
    · simp [q1, hm]
      try omega
    by_cases q3 : c.most < dsum (h ++ [d])
    · simp [q1, q3, hm]
      try omega
    simp [q1, q3, hm]
    try omega
  · simp only [mayArg, Bool.not_eq_true', Bool.and_eq_false_iff] at hm
    simp
    intro h1 h2
    rcases hm with hm | hm
    · rw [h1] at hm; cases hm
    · rw [h2] at hm; cases hm

theorem from_append (l r : List Dr) : ∀ a, drawsFrom a (l ++ r) = (drawsFrom a l && drawsFrom (match l.getLast? with | some d => d.day | none => a) r) := by
  induction l with
  | nil => intro a; simp [drawsFrom]
  | cons d t ih =>
    intro a
    simp only [List.cons_append, drawsFrom, ih d.day, Bool.and_assoc]
    congr 2
    cases t with
    | nil => simp
    | cons e u =>
      obtain ⟨x, hx⟩ : ∃ x, (e :: u).getLast? = some x := ⟨_, List.getLast?_eq_some_getLast (by simp)⟩
      simp [hx]

/-- In two parts. -/
theorem parts_draws {l : List Dr} {day a b : Int} (ha : 1 ≤ a) (ha' : a ≤ 549755813888) (hb : 1 ≤ b) (hb' : b ≤ 549755813888) (hl : l.length ≤ 40) (h : draws (l ++ [⟨day, a + b⟩]) = true) :
    draws (l ++ [⟨day, a⟩]) = true ∧ draws ((l ++ [⟨day, a⟩]) ++ [⟨day, b⟩]) = true := by
  simp only [draws, from_append, drawsFrom, drOk, Bool.and_eq_true, decide_eq_true_eq, Bool.and_true, List.length_append, List.length_cons, List.length_nil, List.getLast?_append, List.getLast?_singleton, Option.some_or] at h ⊢
  obtain ⟨_, h1, ⟨⟨h2, h3⟩, h4⟩, h5⟩ := h
  refine ⟨⟨by omega, h1, ⟨⟨ha, by omega⟩, h4⟩, h5⟩, by omega, ⟨h1, ⟨⟨ha, by omega⟩, h4⟩, h5⟩, ⟨⟨hb, by omega⟩, Int.le_refl _⟩, h5⟩

theorem dsum_one (l : List Dr) (d : Dr) : dsum (l ++ [d]) = dsum l + d.amt := by rw [dsum_append]; simp [dsum]

theorem more_most {s a a' : Int} (hs : 1 ≤ s) (h : a ≤ a') : s * (1000 + a) / 1000 ≤ s * (1000 + a') / 1000 := by
  have : s * (1000 + a) ≤ s * (1000 + a') := Int.mul_le_mul_of_nonneg_left (by omega) (by omega)
  omega
theorem more_least {s b b' : Int} (hs : 1 ≤ s) (h : b ≤ b') : (s * (1000 - b') + 999) / 1000 ≤ (s * (1000 - b) + 999) / 1000 := by
  have : s * (1000 - b') ≤ s * (1000 - b) := Int.mul_le_mul_of_nonneg_left (by omega) (by omega)
  omega

structure Asked (l : List Dr) (x y more : Int) : Prop where
  len : l.length ≤ 40
  x1 : 1 ≤ x
  y1 : 1 ≤ y
  x2 : x ≤ 549755813888
  y2 : y ≤ 549755813888
  m1 : 0 ≤ more
  m2 : more ≤ 1000

set_option maxRecDepth 100000 in
set_option maxHeartbeats 4000000 in
/-- Where nothing is asked the law is true. -/
theorem walk_not (a0 a1 a2 a3 : Int) (l : List Dr) (v : Value) (x y day more : Int) (w : World) (hsl : Sl w 2 v (l.map Dr.row)) (hno : ¬ (Asked l x y more ∧ (mkCr a0 a1 a2 a3 true).bnd = true)) :
    Calls Try.prog 6 #[.int .i64 a0, .int .i64 a1, .int .i64 a2, .int .i64 a3, v, .int .i64 x, .int .i64 y, .int .i64 day, .int .i64 more] w (RetB w true) := by
  obtain ⟨a, k, rfl⟩ : ∃ a k, v = .slice a l.length k := by simpa using hsl.shape
  clear hsl
  have HC := Lib.hid (fun w => bounds_any a0 a1 a2 a3 true w)
  have RB := Lib.hid (fun w => refBounds_any (mkCr a0 a1 a2 a3 true) w)
  generalize mkCr a0 a1 a2 a3 true = C at *
  by_cases hlen : l.length ≤ 40
  · have hl : decide ((40 : Int) < (l.length : Int)) = false := by simp; omega
    have hx : ¬ (C.bnd = true ∧ 1 ≤ x ∧ 1 ≤ y ∧ x ≤ 549755813888 ∧ y ≤ 549755813888 ∧ 0 ≤ more ∧ more ≤ 1000) := fun ⟨q1, q2, q3, q4, q5, q6, q7⟩ => hno ⟨⟨hlen, q2, q3, q4, q5, q6, q7⟩, q1⟩
    have HX := Lib.hid hx
    clear hx hno hlen
    go_enter Try.func6, Try.ntmps6
    go_wp2_with fail
    refine (awake_any _).mono ?_
    rintro e w1 ⟨rfl, hb1⟩
    go_wp2_with fail
    refine (HC.out _).mono ?_
    rintro e w2 ⟨rfl, hb⟩
    have hb2 := below_then hb1 hb
    have h0 := heap_alloc_new w2 (.cells C.cells 27)
    go_wp2_with (first | (refine new_cr 19 (.tmp 43) C rfl rfl ?_) | (refine load_cr (.tmp 19) w2.heap.size _ _ rfl rfl h0 ?_) | fail)
    refine (RB.out _).mono ?_
    rintro e w3 ⟨rfl, hb⟩
    have hb3 := below_then hb2 (below_new hb)
    clear hb h0
    have hx := HX.out
    clear HX
    cases hc : C.bnd
    · clear hx
      go_wp2_with fail
      go_ret
      exact retB (by simp) hb3
    · have HX := Lib.hid (fun q2 q3 q4 q5 q6 q7 => hx ⟨hc, q2, q3, q4, q5, q6, q7⟩)
      clear hx hc
      by_cases q2 : 1 ≤ x
      by_cases q3 : 1 ≤ y
      by_cases q4 : x ≤ 549755813888
      by_cases q5 : y ≤ 549755813888
      by_cases q6 : 0 ≤ more
      by_cases q7 : more ≤ 1000
      · exact (HX.out q2 q3 q4 q5 q6 q7).elim
      all_goals
        go_wp2_with fail
        go_ret
        exact retB (by simp) hb3
  · have hl : decide ((40 : Int) < (l.length : Int)) = true := by simp; omega
    clear hno hlen
    go_enter Try.func6, Try.ntmps6
    go_wp2_with fail
    refine (awake_any _).mono ?_
    rintro e w1 ⟨rfl, hb1⟩
    go_wp2_with fail
    refine (HC.out _).mono ?_
    rintro e w2 ⟨rfl, hb⟩
    have hb2 := below_then hb1 hb
    have h0 := heap_alloc_new w2 (.cells C.cells 27)
    go_wp2_with (first | (refine new_cr 19 (.tmp 43) C rfl rfl ?_) | fail)
    go_ret
    exact retB (by simp) (below_then hb2 (one_below _ _))
end Go.Proofs.Ytemfjgokkajjpaa.allowParts
