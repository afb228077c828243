/- Which classes lie apart is the document's, the same both ways; none lies apart from itself, nor from 0, but 1 from each other one. No condition. -/
import Derived.Test.YtogkggmaibeboaaDoorAwake11
import Derived.Test.YtogkggmaibeboaaDoorRefApart11
import Derived.Test.YtogkggmaibeboaaDoorLawD11
import Derived.ChangeMaps5
namespace Go.Proofs.YtogkggmaibeboaaDoor.goodsApart
open Go.ChangeShapes Go.WideShapes Go.ChangeAt Go.RowKit Go Sc
set_option maxRecDepth 100000

set_option maxHeartbeats 8000000 in
theorem walk (w : World) (hap : ApT w) (a : Int) (_ : (Lit.int .i64 a).wf = true) (b : Int) (_ : (Lit.int .i64 b).wf = true) :
    Calls Tryd.prog 3 #[.int .i64 a, .int .i64 b] w (RetB w true) := by
  have HAW := Lib.hid (awake_any w hap)
  obtain ⟨P, hP⟩ : ∃ P, P = apartM a b := ⟨_, rfl⟩
  have HAB := Lib.hid (fun W (hW : Below w.heap.size w W) => apart_any a b W (hap.below hW))
  have HBA := Lib.hid (fun W (hW : Below w.heap.size w W) => apart_any b a W (hap.below hW))
  have HAA := Lib.hid (fun W (hW : Below w.heap.size w W) => apart_any a a W (hap.below hW))
  have H0A := Lib.hid (fun W (hW : Below w.heap.size w W) => apart_any 0 a W (hap.below hW))
  have H1A := Lib.hid (fun W (hW : Below w.heap.size w W) => apart_any 1 a W (hap.below hW))
  have HRF := Lib.hid (fun W => refApart_any a b W)
  rw [← hP] at HAB HRF
  rw [apart_comm b a, ← hP] at HBA
  rw [show apartM a a = false by cases h : apartM a a with | false => rfl | true => exact absurd rfl (apart_range h).2.2] at HAA
  rw [show apartM 0 a = false by cases h : apartM 0 a with | false => rfl | true => exact absurd (apart_range h).1.1 (by decide)] at H0A
  have tp : (P != P) = false := by simp
  clear hap hP
  by_cases h2 : 2 ≤ a
  · by_cases h9 : a ≤ 9
    · have t2 : decide (2 ≤ a) = true := decide_eq_true h2
      have t9 : decide (a ≤ 9) = true := decide_eq_true h9
      rw [show apartM 1 a = true by
        have : a = 2 ∨ a = 3 ∨ a = 4 ∨ a = 5 ∨ a = 6 ∨ a = 7 ∨ a = 8 ∨ a = 9 := by omega
        rcases this with rfl | rfl | rfl | rfl | rfl | rfl | rfl | rfl <;> decide] at H1A
      clear h2 h9
      go_enter Tryd.func3, Tryd.ntmps3
      go_wp2_with (first
        | ((with_reducible refine HAW.out.mono ?_); rintro e w1 ⟨rfl, hb1⟩; have HB := Lib.hid hb1; clear hb1)
        | ((with_reducible refine (HAB.out _ HB.out).mono ?_); rintro e w2 ⟨rfl, hb2⟩; have HB := Lib.hid (HB.out.trans (hb2.mono HB.out.size)); clear hb2)
        | ((with_reducible refine (HBA.out _ HB.out).mono ?_); rintro e w2 ⟨rfl, hb2⟩; have HB := Lib.hid (HB.out.trans (hb2.mono HB.out.size)); clear hb2)
        | ((with_reducible refine (HAA.out _ HB.out).mono ?_); rintro e w2 ⟨rfl, hb2⟩; have HB := Lib.hid (HB.out.trans (hb2.mono HB.out.size)); clear hb2)
        | ((with_reducible refine (H0A.out _ HB.out).mono ?_); rintro e w2 ⟨rfl, hb2⟩; have HB := Lib.hid (HB.out.trans (hb2.mono HB.out.size)); clear hb2)
        | ((with_reducible refine (H1A.out _ HB.out).mono ?_); rintro e w2 ⟨rfl, hb2⟩; have HB := Lib.hid (HB.out.trans (hb2.mono HB.out.size)); clear hb2)
        | ((with_reducible refine (HRF.out _).mono ?_); rintro e w2 ⟨rfl, hb2⟩; have HB := Lib.hid (HB.out.trans (hb2.mono HB.out.size)); clear hb2)
        | fail)
      go_ret
      exact ⟨rfl, HB.out⟩
    · have t2 : decide (2 ≤ a) = true := decide_eq_true h2
      have t9 : decide (a ≤ 9) = false := decide_eq_false h9
      rw [show apartM 1 a = false by cases h : apartM 1 a with | false => rfl | true => have := (apart_range h).2.1; omega] at H1A
      clear h2 h9
      go_enter Tryd.func3, Tryd.ntmps3
      go_wp2_with (first
        | ((with_reducible refine HAW.out.mono ?_); rintro e w1 ⟨rfl, hb1⟩; have HB := Lib.hid hb1; clear hb1)
        | ((with_reducible refine (HAB.out _ HB.out).mono ?_); rintro e w2 ⟨rfl, hb2⟩; have HB := Lib.hid (HB.out.trans (hb2.mono HB.out.size)); clear hb2)
        | ((with_reducible refine (HBA.out _ HB.out).mono ?_); rintro e w2 ⟨rfl, hb2⟩; have HB := Lib.hid (HB.out.trans (hb2.mono HB.out.size)); clear hb2)
        | ((with_reducible refine (HAA.out _ HB.out).mono ?_); rintro e w2 ⟨rfl, hb2⟩; have HB := Lib.hid (HB.out.trans (hb2.mono HB.out.size)); clear hb2)
        | ((with_reducible refine (H0A.out _ HB.out).mono ?_); rintro e w2 ⟨rfl, hb2⟩; have HB := Lib.hid (HB.out.trans (hb2.mono HB.out.size)); clear hb2)
        | ((with_reducible refine (H1A.out _ HB.out).mono ?_); rintro e w2 ⟨rfl, hb2⟩; have HB := Lib.hid (HB.out.trans (hb2.mono HB.out.size)); clear hb2)
        | ((with_reducible refine (HRF.out _).mono ?_); rintro e w2 ⟨rfl, hb2⟩; have HB := Lib.hid (HB.out.trans (hb2.mono HB.out.size)); clear hb2)
        | fail)
      go_ret
      exact ⟨rfl, HB.out⟩
  · have t2 : decide (2 ≤ a) = false := decide_eq_false h2
    rw [show apartM 1 a = false by cases h : apartM 1 a with | false => rfl | true => have := apart_range h; omega] at H1A
    clear h2
    go_enter Tryd.func3, Tryd.ntmps3
    go_wp2_with (first
      | ((with_reducible refine HAW.out.mono ?_); rintro e w1 ⟨rfl, hb1⟩; have HB := Lib.hid hb1; clear hb1)
      | ((with_reducible refine (HAB.out _ HB.out).mono ?_); rintro e w2 ⟨rfl, hb2⟩; have HB := Lib.hid (HB.out.trans (hb2.mono HB.out.size)); clear hb2)
      | ((with_reducible refine (HBA.out _ HB.out).mono ?_); rintro e w2 ⟨rfl, hb2⟩; have HB := Lib.hid (HB.out.trans (hb2.mono HB.out.size)); clear hb2)
      | ((with_reducible refine (HAA.out _ HB.out).mono ?_); rintro e w2 ⟨rfl, hb2⟩; have HB := Lib.hid (HB.out.trans (hb2.mono HB.out.size)); clear hb2)
      | ((with_reducible refine (H0A.out _ HB.out).mono ?_); rintro e w2 ⟨rfl, hb2⟩; have HB := Lib.hid (HB.out.trans (hb2.mono HB.out.size)); clear hb2)
      | ((with_reducible refine (H1A.out _ HB.out).mono ?_); rintro e w2 ⟨rfl, hb2⟩; have HB := Lib.hid (HB.out.trans (hb2.mono HB.out.size)); clear hb2)
      | ((with_reducible refine (HRF.out _).mono ?_); rintro e w2 ⟨rfl, hb2⟩; have HB := Lib.hid (HB.out.trans (hb2.mono HB.out.size)); clear hb2)
      | fail)
    go_ret
    exact ⟨rfl, HB.out⟩
theorem lifted (os : Os) (started : os.Started) (H : Type) (enc : TypeId × Value → H) :
    ReturnsInHanded {} Tryd.checked os 3 .any (fun w args => (Rows.goodsApartSpec.pre enc Tryd.prog Tryd.f3 [] false w args ∧ laidMetH Tryd.prog laidA w) ∧ sizedMet enc Tryd.prog Tryd.f3 (OpenSpec.ofChange Rows.goodsApartSpec) false w args) (Rows.goodsApartSpec.post enc Tryd.prog Tryd.f3 false true false false) := by
  refine law_liftedD os started (by kernel_rfl) Tryd.func3
    (ChangeSpec.witness_shaped (enc := enc) (C := Tryd.checked) (os := os) (X := fun w _ => laidMetH Tryd.prog laidA w) false (World.doorLaid Tryd.prog 400 os) #[.int .i64 0, .int .i64 0] 8 rfl (World.shaped_of_RefB (by kernel_rfl) (by kernel_rfl)) (by kernel_rfl) (by kernel_rfl) (by kernel_rfl) (door_met os _))
    (by kernel_rfl) rfl rfl ?_ ?_
  · intro vs ds W p hA
    rw [Tryd.params3] at hA
    obtain ⟨v0, vs0, d0, ds0, p0, q0, rfl, rfl, rfl, h0, r0⟩ := trodAll_cons hA
    obtain ⟨v1, vs1, d1, ds1, p1, q1, rfl, rfl, rfl, h1, r1⟩ := trodAll_cons r0
    obtain ⟨rfl, rfl, rfl⟩ := trodAll_nil r1
    rfl
  · intro W base args ds p hap hval hA
    rw [Tryd.params3] at hA hval
    obtain ⟨v0, vs0, d0, ds0, p0, q0, hargs, rfl, rfl, h0, r0⟩ := trodAll_cons hA
    obtain ⟨v1, vs1, d1, ds1, p1, q1, rfl, rfl, rfl, h1, r1⟩ := trodAll_cons r0
    obtain ⟨rfl, rfl, rfl⟩ := trodAll_nil r1
    obtain rfl : args = #[v0, v1] := by cases args; simp_all
    obtain ⟨a0, rfl, rfl, rfl, w0⟩ := open_int Tryd.underlying3 (hval 0 3 v0 rfl rfl) h0
    obtain ⟨a1, rfl, rfl, rfl, w1⟩ := open_int Tryd.underlying3 (hval 1 3 v1 rfl rfl) h1
    exact walk W hap a0 w0 a1 w1

theorem over : Rows.goodsApartRow.holds Tryd.pinned (OpenSpec.ofChange Rows.goodsApartSpec) :=
  OpenClaim.holds_of_wide 3 Tryd.f3 rfl rfl rfl rfl rfl rfl rfl ⟨rfl, rfl, rfl, rfl, rfl⟩ rfl rfl rfl rfl rfl (by kernel_rfl) Tryd.func3 (by kernel_rfl)
    (of_decide_eq_true (by kernel_rfl)) (by unfold Func.isWrapper; rw [if_neg (by decide +kernel)]; exact ⟨rfl, rfl⟩)
    (fun os started H enc _ => lifted os started H enc)

/-- The statement. -/
theorem proved : Rows.GoodsApartCardSaid :=
  Claim7.holds_tied_plain_at .later [] [.data] true _ false
    over (fun _ h => by cases h) (by kernel_rfl) (fun _ h => by cases h) goodsApart_row_tie rfl ⟨rfl, rfl⟩ (by kernel_rfl) rfl
    (fun f fn hf hfn => by
      obtain rfl : f = 3 := Option.some.inj (hf.symm.trans (by kernel_rfl))
      obtain rfl : fn = Tryd.f3 := (Option.some.inj (Tryd.func3.symm.trans hfn)).symm
      exact ⟨by kernel_rfl, fun j t ht => by
        have hall : (Tryd.f3.params.toList.all fun u => !Tryd.prog.wantsStandIn u) = true := by kernel_rfl
        have hm : t ∈ Tryd.f3.params.toList := by simpa using Array.mem_of_getElem? ht
        exact (show Tryd.prog.wantsStandIn t = false by simpa using List.all_eq_true.1 hall t hm)⟩)
    (by kernel_rfl)
#print axioms proved
end Go.Proofs.YtogkggmaibeboaaDoor.goodsApart
