/- What any lots weigh, and how much room they take, whether they may lie together, and their classes, are just the document's, or refused. No condition. -/
import Derived.Test.YtogkggmaibeboaaDoorAwake11
import Derived.Test.YtogkggmaibeboaaDoorFew11
import Derived.Test.YtogkggmaibeboaaDoorRefSumB11
import Derived.Test.YtogkggmaibeboaaDoorRefCls11
import Derived.Test.YtogkggmaibeboaaDoorRefTog11
import Derived.Test.YtogkggmaibeboaaDoorLawD11
namespace Go.Proofs.YtogkggmaibeboaaDoor.goodsSums
open Go.ChangeShapes Go.WideShapes Go.ChangeAt Go.RowKit Go Sc
set_option maxRecDepth 100000

set_option maxHeartbeats 16000000 in
theorem walk (w : World) (hap : ApT w) (t : List Gd) (vt : Value) (hst : Sl w 4 vt (t.map Gd.row)) (hft : ∀ g ∈ t, g.fit) (l : List Lt) (vl : Value) (hsl : Sl w 2 vl (l.map Lt.row)) (hfl : ∀ x ∈ l, x.fit) :
    Calls Tryd.prog 9 #[vt, vl] w (RetB w true) := by
  have HAW := Lib.hid (awake_any w hap)
  have HAP := Lib.hid hap
  have HFT := Lib.hid (fun W (hW : Below w.heap.size w W) => few_any t vt W (hst.below hW (Nat.le_refl _)))
  have HFL := Lib.hid (fun W (hW : Below w.heap.size w W) => refFew_any l vl W (hsl.below hW (Nat.le_refl _)))
  have HS := Lib.hid hst
  have HSL := Lib.hid hsl
  have HF := Lib.hid hft
  have HFX := Lib.hid hfl
  clear hap hst hsl hft hfl
  go_enter Tryd.func9, Tryd.ntmps9
  go_wp2_with (first
    | ((with_reducible refine HAW.out.mono ?_); rintro e w1 ⟨rfl, hb1⟩; have HB := Lib.hid hb1; clear hb1)
    | fail)
  refine (HFT.out _ HB.out).mono ?_
  rintro e w2 ⟨b, rfl, hb, hb2⟩
  have HB := Lib.hid (HB.out.trans (hb2.mono HB.out.size))
  clear hb2
  cases b with
  | false =>
    clear hb
    go_wp2_with fail
    go_ret
    exact ⟨rfl, HB.out⟩
  | true =>
  have HTL : Hid (t.length ≤ 41) := Lib.hid (hb rfl)
  clear hb
  go_wp2_with fail
  refine (HFL.out _ HB.out).mono ?_
  rintro e w3 ⟨b, rfl, hb, hb3⟩
  have HB := Lib.hid (HB.out.trans (hb3.mono HB.out.size))
  clear hb3
  cases b with
  | false =>
    clear hb
    go_wp2_with fail
    go_ret
    exact ⟨rfl, HB.out⟩
  | true =>
  have HFW := Lib.hid (hb rfl)
  clear hb
  have HSB := Lib.hid (fun W (hW : Below w.heap.size w W) => HS.out.below hW (Nat.le_refl _))
  have HSC := Lib.hid (fun W (hW : Below w.heap.size w W) => HSL.out.below hW (Nat.le_refl _))
  have HRN := Lib.hid (fun W (hW : Below w.heap.size w W) => refNewG_any t _ W (HSB.out W hW) (by have := HTL.out; omega) HF.out)
  by_cases h0 : tabC t = 0
  rotate_left
  · obtain ⟨q, hq⟩ : ∃ q, q = tabC t := ⟨_, rfl⟩
    rw [← hq] at HRN h0
    have tq : (q != 0) = true := by simp [h0]
    clear h0 hq
    go_wp2_with (first
      | ((with_reducible refine (HRN.out _ HB.out).mono ?_); rintro e w4 ⟨rfl, hb4⟩; have HB := Lib.hid (HB.out.trans (hb4.mono HB.out.size)); clear hb4)
      | fail)
    all_goals
      go_ret
      exact ⟨rfl, HB.out⟩
  rw [h0] at HRN
  have hok := tabC_ok h0
  have HNW := Lib.hid (fun W (hW : Below w.heap.size w W) => (newG_any t _ W (HSB.out W hW) (by have := HTL.out; omega) HF.out).mono fun e w' h => newG_ok h h0)
  have HW1 := Lib.hid (fun W (bt bm : Nat) (hW : Below w.heap.size w W) (h : Tab W bt bm t) => weight_any t l bt bm vl W (HSC.out W hW) h hok.2.1 hok.1)
  have HW2 := Lib.hid (fun W (bt bm : Nat) (hW : Below w.heap.size w W) (h : Tab W bt bm t) => volume_any t l bt bm vl W (HSC.out W hW) h hok.2.1 hok.1)
  have HR1 := Lib.hid (fun W (hW : Below w.heap.size w W) => refWeight_any t l vt vl W (HSB.out W hW) (HSC.out W hW) HFX.out (by have := HFW.out.len; omega) hok.1)
  have HR2 := Lib.hid (fun W (hW : Below w.heap.size w W) => refVolume_any t l vt vl W (HSB.out W hW) (HSC.out W hW) HFX.out (by have := HFW.out.len; omega) hok.1)
  have HTO := Lib.hid (fun W (bt bm : Nat) (hW : Below w.heap.size w W) (h : Tab W bt bm t) => together_any t l bt bm vl W (HAP.out.below hW) (HSC.out W hW) h hok.2.1 hok.1)
  have HRT := Lib.hid (fun W (hW : Below w.heap.size w W) => refTogether_any t l vt vl W (HSB.out W hW) (HSC.out W hW) HFX.out hok.1)
  have HCL := Lib.hid (fun W (bt bm : Nat) (hW : Below w.heap.size w W) (h : Tab W bt bm t) => classes_any t l bt bm vl W (HSC.out W hW) h hok.2.1 hok.1)
  have HRC := Lib.hid (fun W (hW : Below w.heap.size w W) => refClasses_any t l vt vl W (HSB.out W hW) (HSC.out W hW))
  obtain ⟨n1, q1, hv1⟩ := sumV_pair t Gd.wt l
  obtain ⟨n2, q2, hv2⟩ := sumV_pair t Gd.vol l
  rw [hv1] at HW1 HR1
  rw [hv2] at HW2 HR2
  have t1 : (n1 == n1) = true := by simp
  have t2 : (q1 == q1) = true := by simp
  have t3 : (n2 == n2) = true := by simp
  have t4 : (q2 == q2) = true := by simp
  have t5 : (togC t l == togC t l) = true := by simp
  generalize togC t l = T at *
  generalize clsN t l 10 = L at *
  clear h0 hok hv1 hv2
  go_wp2_with (first
    | ((with_reducible refine (HRN.out _ HB.out).mono ?_); rintro e w4 ⟨rfl, hb4⟩; have HB := Lib.hid (HB.out.trans (hb4.mono HB.out.size)); clear hb4)
    | ((with_reducible refine (HNW.out _ HB.out).mono ?_); rintro e w5 ⟨bt, bm, rfl, ht5, hb5⟩; have HT := Lib.hid ht5; have HB := Lib.hid (HB.out.trans (hb5.mono HB.out.size)); clear ht5 hb5)
    | ((with_reducible refine (HW1.out _ _ _ HB.out HT.out).mono ?_); rintro e w6 ⟨rfl, hb6⟩; have HT := Lib.hid (HT.out.below hb6); have HB := Lib.hid (HB.out.trans (hb6.mono HB.out.size)); clear hb6)
    | ((with_reducible refine (HW2.out _ _ _ HB.out HT.out).mono ?_); rintro e w7 ⟨rfl, hb7⟩; have HT := Lib.hid (HT.out.below hb7); have HB := Lib.hid (HB.out.trans (hb7.mono HB.out.size)); clear hb7)
    | ((with_reducible refine (HR1.out _ HB.out).mono ?_); rintro e w8 ⟨rfl, hb8⟩; have HT := Lib.hid (HT.out.below hb8); have HB := Lib.hid (HB.out.trans (hb8.mono HB.out.size)); clear hb8)
    | ((with_reducible refine (HR2.out _ HB.out).mono ?_); rintro e w9 ⟨rfl, hb9⟩; have HT := Lib.hid (HT.out.below hb9); have HB := Lib.hid (HB.out.trans (hb9.mono HB.out.size)); clear hb9)
    | ((with_reducible refine (HTO.out _ _ _ HB.out HT.out).mono ?_); rintro e wA ⟨rfl, hbA⟩; have HT := Lib.hid (HT.out.below hbA); have HB := Lib.hid (HB.out.trans (hbA.mono HB.out.size)); clear hbA)
    | ((with_reducible refine (HRT.out _ HB.out).mono ?_); rintro e wB ⟨rfl, hbB⟩; have HT := Lib.hid (HT.out.below hbB); have HB := Lib.hid (HB.out.trans (hbB.mono HB.out.size)); clear hbB)
    | ((with_reducible refine (HCL.out _ _ _ HB.out HT.out).mono ?_); rintro e wC ⟨vC, rfl, hoC, hbC⟩; have HC := Lib.hid (own_ints hoC rfl); have HB := Lib.hid (HB.out.trans (hbC.mono HB.out.size)); clear hoC hbC)
    | ((with_reducible refine (HRC.out _ HB.out).mono ?_); rintro e wD ⟨vD, rfl, hoD, hbD⟩; have HD := Lib.hid (own_ints hoD rfl); have HC := Lib.hid (HC.out.below hbD (Nat.le_refl _)); have HB := Lib.hid (HB.out.trans (hbD.mono HB.out.size)); clear hoD hbD)
    | ((with_reducible refine (refInts_any L L _ _ _ HC.out HD.out).mono ?_); rintro e wE ⟨rfl, hbE⟩; rw [decide_eq_true rfl]; have HB := Lib.hid (HB.out.trans (hbE.mono HB.out.size)); clear hbE)
    | fail)
  all_goals
    go_ret
    exact ⟨rfl, HB.out⟩

theorem lifted (os : Os) (started : os.Started) (H : Type) (enc : TypeId × Value → H) :
    ReturnsInHanded {} Tryd.checked os 9 .any (fun w args => (Rows.goodsSumsSpec.pre enc Tryd.prog Tryd.f9 [] false w args ∧ laidMetH Tryd.prog laidA w) ∧ sizedMet enc Tryd.prog Tryd.f9 (OpenSpec.ofChange Rows.goodsSumsSpec) false w args) (Rows.goodsSumsSpec.post enc Tryd.prog Tryd.f9 false true false false) := by
  refine law_liftedD os started (by kernel_rfl) Tryd.func9
    (ChangeSpec.witness_shaped (enc := enc) (C := Tryd.checked) (os := os) (X := fun w _ => laidMetH Tryd.prog laidA w) false (World.doorLaid Tryd.prog 400 os) #[.slice none 0 0, .slice none 0 0] 8 rfl (World.shaped_of_RefB (by kernel_rfl) (by kernel_rfl)) (by kernel_rfl) (by kernel_rfl) (by kernel_rfl) (door_met os _))
    (by kernel_rfl) rfl rfl ?_ ?_
  · intro vs ds W p hA
    rw [Tryd.params9] at hA
    obtain ⟨v0, vs0, d0, ds0, p0, q0, rfl, rfl, rfl, h0, r0⟩ := trodAll_cons hA
    obtain ⟨v1, vs1, d1, ds1, p1, q1, rfl, rfl, rfl, h1, r1⟩ := trodAll_cons r0
    obtain ⟨rfl, rfl, rfl⟩ := trodAll_nil r1
    rfl
  · intro W base args ds p hap hval hA
    rw [Tryd.params9] at hA hval
    obtain ⟨v0, vs0, d0, ds0, p0, q0, hargs, rfl, rfl, h0, r0⟩ := trodAll_cons hA
    obtain ⟨v1, vs1, d1, ds1, p1, q1, rfl, rfl, rfl, h1, r1⟩ := trodAll_cons r0
    obtain ⟨rfl, rfl, rfl⟩ := trodAll_nil r1
    obtain rfl : args = #[v0, v1] := by cases args; simp_all
    obtain ⟨l0, hs0, hf0⟩ := open_goods (hval 0 24 v0 rfl rfl) h0
    obtain ⟨l1, hs1, hf1⟩ := open_lots (hval 1 25 v1 rfl rfl) h1
    exact walk W hap l0 v0 hs0 hf0 l1 v1 hs1 hf1

theorem over : Rows.goodsSumsRow.holds Tryd.pinned (OpenSpec.ofChange Rows.goodsSumsSpec) :=
  OpenClaim.holds_of_wide 9 Tryd.f9 rfl rfl rfl rfl rfl rfl rfl ⟨rfl, rfl, rfl, rfl, rfl⟩ rfl rfl rfl rfl rfl (by kernel_rfl) Tryd.func9 (by kernel_rfl)
    (of_decide_eq_true (by kernel_rfl)) (by unfold Func.isWrapper; rw [if_neg (by decide +kernel)]; exact ⟨rfl, rfl⟩)
    (fun os started H enc _ => lifted os started H enc)

/-- The statement. -/
theorem proved : Rows.GoodsSumsCardSaid :=
  Claim7.holds_tied_plain_at .later [] [.data] true _ false
    over (fun _ h => by cases h) (by kernel_rfl) (fun _ h => by cases h) goodsSums_row_tie rfl ⟨rfl, rfl⟩ (by kernel_rfl) rfl
    (fun f fn hf hfn => by
      obtain rfl : f = 9 := Option.some.inj (hf.symm.trans (by kernel_rfl))
      obtain rfl : fn = Tryd.f9 := (Option.some.inj (Tryd.func9.symm.trans hfn)).symm
      exact ⟨by kernel_rfl, fun j t ht => by
        have hall : (Tryd.f9.params.toList.all fun u => !Tryd.prog.wantsStandIn u) = true := by kernel_rfl
        have hm : t ∈ Tryd.f9.params.toList := by simpa using Array.mem_of_getElem? ht
        exact (show Tryd.prog.wantsStandIn t = false by simpa using List.all_eq_true.1 hall t hm)⟩)
    (by kernel_rfl)
#print axioms proved
end Go.Proofs.YtogkggmaibeboaaDoor.goodsSums
