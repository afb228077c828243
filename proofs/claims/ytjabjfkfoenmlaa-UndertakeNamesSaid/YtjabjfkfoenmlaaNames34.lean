/- The statement UndertakeNames: by name; any state, no condition. -/
import Derived.Test.YtjabjfkfoenmlaaAwake34
namespace Go.Proofs.Ytjabjfkfoenmlaa.undertakeNames
open Go.ChangeShapes Go.WideShapes Go.ChangeAt Go.RowKit Go Sc
set_option maxRecDepth 100000

theorem walk (w : World) (n : Int) (_hn : (Lit.int IntKind.i64 n).wf = true) : Calls Try.prog 6 #[.int .i64 n] w (RetB w true) := by
  by_cases h : 0 ≤ n ∧ n ≤ 7
  · obtain ⟨h0, h7⟩ := h
    rcases eight h0 h7 with rfl | rfl | rfl | rfl | rfl | rfl | rfl | rfl <;> clear h0 h7 _hn <;> (
      go_enter Try.func6, Try.ntmps6
      go_wp2_with (first
        | ((with_reducible refine (awake_any _).mono ?_); rintro e w1 ⟨rfl, hb1⟩; have HB1 := Lib.hid hb1; clear hb1)
        | ((with_reducible refine (refNames_any _).mono ?_); rintro e w2 ⟨b, rfl, hb2, hn2⟩; have HB2 := Lib.hid (below_then HB1.out hb2); have c0 := cell_blk hn2 0; have c1 := cell_blk hn2 1; have c2 := cell_blk hn2 2; have c3 := cell_blk hn2 3; have c4 := cell_blk hn2 4; have c5 := cell_blk hn2 5; have c6 := cell_blk hn2 6; have c7 := cell_blk hn2 7; simp only [List.getElem?_toArray, List.getElem?_cons_zero, List.getElem?_cons_succ] at c0 c1 c2 c3 c4 c5 c6 c7; clear hb2 hn2)
        | ((with_reducible refine (name_lit _ (by decide) (by decide) _).mono ?_); rintro e w3 ⟨rfl, hb3⟩; have HB3 := Lib.hid (below_then HB2.out hb3); clear hb3)
        | fail)
      go_ret
      exact retB (by simp) HB3.out)
  · have H := Lib.hid (fun W => name_no n h W)
    by_cases h0 : 0 ≤ n
    · have h7 : ¬ n ≤ 7 := fun h7 => h ⟨h0, h7⟩
      have t0 : decide (0 ≤ n) = true := decide_eq_true h0
      have t7 : decide (n ≤ 7) = false := decide_eq_false h7
      clear h h0 h7 _hn
      go_enter Try.func6, Try.ntmps6
      go_wp2_with (first
        | ((with_reducible refine (awake_any _).mono ?_); rintro e w1 ⟨rfl, hb1⟩; have HB1 := Lib.hid hb1; clear hb1)
        | ((with_reducible refine (H.out _).mono ?_); rintro e w3 ⟨rfl, hb3⟩; have HB3 := Lib.hid (below_then HB1.out hb3); clear hb3)
        | fail)
      go_ret
      exact retB rfl HB3.out
    · have t0 : decide (0 ≤ n) = false := decide_eq_false h0
      clear h h0 _hn
      go_enter Try.func6, Try.ntmps6
      go_wp2_with (first
        | ((with_reducible refine (awake_any _).mono ?_); rintro e w1 ⟨rfl, hb1⟩; have HB1 := Lib.hid hb1; clear hb1)
        | ((with_reducible refine (H.out _).mono ?_); rintro e w3 ⟨rfl, hb3⟩; have HB3 := Lib.hid (below_then HB1.out hb3); clear hb3)
        | fail)
      go_ret
      exact retB rfl HB3.out

theorem lifted (os : Os) (started : os.Started) (H : Type) (enc : TypeId × Value → H) :
    ReturnsInHanded {} Try.checked os 6 .any (Rows.undertakeNamesSpec.pre6 enc Try.prog Try.f6 Rows.undertakeNamesRow.domain false) (Rows.undertakeNamesSpec.post enc Try.prog Try.f6 false true false false) := by
  refine law_lifted os started (by kernel_rfl) Try.func6
    (ChangeSpec.witness6 (enc := enc) (C := Try.checked) false ⟨#[], #[.int .i64 0], []⟩ 8 (by kernel_rfl) (by kernel_rfl) (by kernel_rfl) (by kernel_rfl))
    (by kernel_rfl) rfl rfl ?_ ?_
  · intro vs ds W p hA
    rw [Try.params6] at hA
    obtain ⟨v0, vs0, d0, ds0, p0, q0, rfl, rfl, rfl, h0, r0⟩ := trodAll_cons hA
    obtain ⟨rfl, rfl, rfl⟩ := trodAll_nil r0
    rfl
  · intro W base args ds p hval hA
    rw [Try.params6] at hA hval
    obtain ⟨v0, vs0, d0, ds0, p0, q0, hargs, rfl, rfl, h0, r0⟩ := trodAll_cons hA
    obtain ⟨rfl, rfl, rfl⟩ := trodAll_nil r0
    obtain rfl : args = #[v0] := by cases args; simp_all
    obtain ⟨a0, rfl, rfl, rfl, w0⟩ := open_int Try.underlying3 (hval 0 3 v0 rfl rfl) h0
    exact walk W a0 w0

theorem over : Rows.undertakeNamesRow.holds Try.pinned (OpenSpec.ofChange Rows.undertakeNamesSpec) :=
  OpenClaim.holds_of_wide 6 Try.f6 rfl rfl rfl rfl rfl rfl rfl ⟨rfl, rfl, rfl, rfl, rfl⟩ rfl rfl rfl rfl rfl (by kernel_rfl) Try.func6 (by kernel_rfl)
    (of_decide_eq_true (by kernel_rfl)) (by unfold Func.isWrapper; rw [if_neg (by decide +kernel)]; exact ⟨rfl, rfl⟩)
    (fun os started H enc _ => lifted os started H enc)

/-- The statement. -/
theorem proved : Rows.UndertakeNamesSaid := over
#print axioms proved
end Go.Proofs.Ytjabjfkfoenmlaa.undertakeNames
