/- The program's Check is the document's, for every row of hand-overs. No condition. -/
import Derived.Test.YtmjblefjaccocaaPlayB17
namespace Go.Proofs.Ytmjblefjaccocaa.custodyChecks
open Go Go.RowKit Go.ChangeShapes Go.WideShapes Go.ChangeAt Go.ChangeMaps Sc

set_option maxHeartbeats 1000000 in
theorem walk (w : World) (l : List Hd) (v : Value) (hs : Sl w 5 v (l.map Hd.row)) (hf : ∀ h ∈ l, h.fit) : Calls Try.prog 4 #[v] w (RetB w true) := by
  have HS := Lib.hid hs
  have HF := Lib.hid hf
  clear hs hf
  go_enter Try.func4, Try.ntmps4
  go_wp2_with fail
  refine (long_any l v w HS.out).mono ?_
  rintro e w1 ⟨b, rfl, hb, hb1⟩
  have HB1 := Lib.hid hb1
  clear hb1
  cases b with
  | true =>
    clear hb
    go_wp2_with (first | ((with_reducible refine (awake_any _).mono ?_); rintro e w2 ⟨rfl, hb2⟩; have HB2 := Lib.hid (HB1.out.trans (hb2.mono HB1.out.size)); clear hb2) | fail)
    go_ret
    exact retB rfl HB2.out
  | false =>
    have HN : Hid (l.length ≤ 4000) := Lib.hid (by have := hb rfl; omega)
    clear hb
    go_wp2_with (first
      | ((with_reducible refine (check_any l v _ (HS.out.below HB1.out (Nat.le_refl _)) HN.out).mono ?_); rintro e w2 ⟨rfl, hb2⟩; have HB2 := Lib.hid (HB1.out.trans (hb2.mono HB1.out.size)); clear hb2)
      | ((with_reducible refine (refCheck_any l v _ (HS.out.below HB2.out (Nat.le_refl _)) HN.out HF.out).mono ?_); rintro e w3 ⟨rfl, hb3⟩; have HB3 := Lib.hid (HB2.out.trans (hb3.mono HB2.out.size)); clear hb3)
      | ((with_reducible refine (awake_any _).mono ?_); rintro e w4 ⟨rfl, hb4⟩; have HB4 := Lib.hid (HB3.out.trans (hb4.mono HB3.out.size)); clear hb4)
      | fail)
    go_ret
    exact retB rfl HB4.out

theorem lifted (os : Os) (started : os.Started) (H : Type) (enc : TypeId × Value → H) :
    ReturnsInHanded {} Try.checked os 4 .any (Rows.custodyChecksSpec.pre6 enc Try.prog Try.f4 Rows.custodyChecksRow.domain false) (Rows.custodyChecksSpec.post enc Try.prog Try.f4 false true false false) := by
  refine law_lifted os started (by kernel_rfl) Try.func4
    (ChangeSpec.witness6 (enc := enc) (C := Try.checked) false ⟨#[], #[.slice none 0 0], []⟩ 8 (by kernel_rfl) (by kernel_rfl) (by kernel_rfl) (by kernel_rfl))
    (by kernel_rfl) rfl rfl ?_ ?_
  · intro vs ds W p hA
    rw [Try.params4] at hA
    obtain ⟨v0, vs0, d0, ds0, p0, q0, rfl, rfl, rfl, h0, r0⟩ := trodAll_cons hA
    obtain ⟨rfl, rfl, rfl⟩ := trodAll_nil r0
    rfl
  · intro W base args ds p hval hA
    rw [Try.params4] at hA hval
    obtain ⟨v0, vs0, d0, ds0, p0, q0, hargs, rfl, rfl, h0, r0⟩ := trodAll_cons hA
    obtain ⟨rfl, rfl, rfl⟩ := trodAll_nil r0
    obtain rfl : args = #[v0] := by cases args; simp_all
    obtain ⟨l0, hs0, hf0⟩ := open_hands (hval 0 22 v0 rfl rfl) h0
    exact walk W l0 v0 hs0 hf0

theorem over : Rows.custodyChecksRow.holds Try.pinned (OpenSpec.ofChange Rows.custodyChecksSpec) :=
  OpenClaim.holds_of_wide 4 Try.f4 rfl rfl rfl rfl rfl rfl rfl ⟨rfl, rfl, rfl, rfl, rfl⟩ rfl rfl rfl rfl rfl (by kernel_rfl) Try.func4 (by kernel_rfl)
    (of_decide_eq_true (by kernel_rfl)) (by unfold Func.isWrapper; rw [if_neg (by decide +kernel)]; exact ⟨rfl, rfl⟩)
    (fun os started H enc _ => lifted os started H enc)

/-- The statement. -/
theorem proved : Rows.CustodyChecksSaid := over
#print axioms proved
end Go.Proofs.Ytmjblefjaccocaa.custodyChecks
