/- PackRights: whether any boxes are a packing of any lots is as the document says. -/
import Derived.Test.YtgnfdplphpejaaaGreatDoorRefRig12
import Derived.Test.YtgnfdplphpejaaaGreatDoorBxL12
namespace Go.Proofs.YtgnfdplphpejaaaGreatDoor.packRights
open Go.ChangeShapes Go.WideShapes Go.ChangeAt Go.RowKit Go Sc
set_option maxRecDepth 100000

set_option maxHeartbeats 8000000 in
theorem walk (w : World) (hap : Lw w) (t : List Gd) (vt : Value) (hst : Sl w 4 vt (t.map Gd.row)) (hft : ∀ g ∈ t, g.fit) (l : List Bv) (vb : Value) (hbs : BoxesAt w vb l) (hbf : ∀ x ∈ l, x.fit) (lots : List Lt) (vl : Value) (hsl : Sl w 2 vl (lots.map Lt.row)) (_ : ∀ x ∈ lots, x.fit) :
    Calls Tryz.prog 5 #[vt, vb, vl] w (RetB w true) := by
  have HAW := Lib.hid (awake12_any w hap)
  have HAW2 := Lib.hid (fun W (hW : Below w.heap.size w W) => awake12_any W (hap.below hW))
  have HFT := Lib.hid (fun W (hW : Below w.heap.size w W) => few12_any t lots vt vl W (hst.below hW (Nat.le_refl _)) (hsl.below hW (Nat.le_refl _)))
  have HBX := Lib.hid (fun W (hW : Below w.heap.size w W) => boxes_any l vb W (hbs.below hW) hbf)
  have HAP := Lib.hid (fun W (hW : Below w.heap.size w W) => hap.below hW)
  have HS := Lib.hid hst
  have HSL := Lib.hid hsl
  have HBS := Lib.hid hbs
  have HBF := Lib.hid hbf
  have HF := Lib.hid hft
  clear hap hst hsl hft hbs hbf
  go_enter Tryz.func5, Tryz.ntmps5
  go_wp2_with (first
    | ((with_reducible refine HAW.out.mono ?_); rintro e w1 ⟨rfl, hb1⟩; have HB := Lib.hid hb1; clear hb1)
    | fail)
  refine (HFT.out _ HB.out).mono ?_
  rintro e w2 ⟨b, rfl, hb, hb2⟩
  have HB := Lib.hid (HB.out.trans (hb2.mono HB.out.size))
  clear hb2
  cases b with
  | false =>
    clear hb
    go_wp2_with (first
      | ((with_reducible refine (HAW2.out _ HB.out).mono ?_); rintro e w1 ⟨rfl, hb1⟩; have HB := Lib.hid (HB.out.trans (hb1.mono HB.out.size)); clear hb1)
      | fail)
    go_ret
    exact ⟨rfl, HB.out⟩
  | true =>
  have HFEW := Lib.hid (hb rfl)
  clear hb
  go_wp2_with fail
  refine (HBX.out _ HB.out).mono ?_
  rintro e w3 ⟨b, rfl, hb, hb3⟩
  have HB := Lib.hid (HB.out.trans (hb3.mono HB.out.size))
  clear hb3
  cases b with
  | false =>
    clear hb
    go_wp2_with (first
      | ((with_reducible refine (HAW2.out _ HB.out).mono ?_); rintro e w1 ⟨rfl, hb1⟩; have HB := Lib.hid (HB.out.trans (hb1.mono HB.out.size)); clear hb1)
      | fail)
    go_ret
    exact ⟨rfl, HB.out⟩
  | true =>
  have HBFEW := Lib.hid (hb rfl)
  clear hb
  have HT := Lib.hid (table_any t vt w3 (HS.out.below HB.out (Nat.le_refl _)) (by have := HFEW.out.1; omega) HF.out)
  by_cases h0 : tabC t = 0
  rotate_left
  · have HTN := Lib.hid (HT.out.mono fun e w' h => table_no h h0)
    clear h0 HT
    go_wp2_with (first
      | ((with_reducible refine HTN.out.mono ?_); rintro e w4 ⟨rfl, hb4⟩; have HB := Lib.hid (HB.out.trans (hb4.mono HB.out.size)); clear hb4)
      | fail)
    go_ret
    exact ⟨rfl, HB.out⟩
  have HTN := Lib.hid (HT.out.mono fun e w' h => table_ok h h0)
  have hok := tabC_ok h0
  have HR1 := Lib.hid (fun W bt bm (hW : Below w.heap.size w W) (ht : Tab W bt bm t) => right_any t l lots bt bm vb vl W (HAP.out _ hW) (HBS.out.below hW) HBFEW.out.few (HSL.out.below hW (Nat.le_refl _)) (by have := HFEW.out.2.1; omega) HFEW.out.2.2.cnt ht hok.2.1 hok.1)
  have HR2 := Lib.hid (fun W (hW : Below w.heap.size w W) => refBoxes_any t l lots vt vb vl W (HS.out.below hW (Nat.le_refl _)) (HBS.out.below hW) HBF.out HBFEW.out.few (HSL.out.below hW (Nat.le_refl _)) (by have := HFEW.out.2.1; omega) HFEW.out.2.2.cnt hok.1)
  generalize rightP t (l.map Bv.b) lots = r at *
  clear h0 HT hok
  cases r
  all_goals
    go_wp2_with (first
      | ((with_reducible refine HTN.out.mono ?_); rintro e w4 ⟨bt, bm, rfl, ht, hb4⟩; have HT := Lib.hid ht; have HB := Lib.hid (HB.out.trans (hb4.mono HB.out.size)); clear ht hb4)
      | ((with_reducible refine (HR1.out _ _ _ HB.out HT.out).mono ?_); rintro e w5 ⟨rfl, hb5⟩; have HB5 := Lib.hid (HB.out.trans (hb5.mono HB.out.size)); clear hb5)
      | ((with_reducible refine (HR2.out _ HB5.out).mono ?_); rintro e w6 ⟨rfl, hb6⟩; have HB6 := Lib.hid (HB5.out.trans (hb6.mono HB5.out.size)); clear hb6)
      | fail)
    go_ret
    exact ⟨rfl, HB6.out⟩
theorem lifted (os : Os) (started : os.Started) (H : Type) (enc : TypeId × Value → H) :
    ReturnsInHanded {} Tryz.checked os 5 .any (fun w args => (Rows.packRightsSpec.pre enc Tryz.prog Tryz.f5 [] false w args ∧ laidMetH Tryz.prog laidA w) ∧ sizedMet enc Tryz.prog Tryz.f5 (OpenSpec.ofChange Rows.packRightsSpec) false w args) (Rows.packRightsSpec.post enc Tryz.prog Tryz.f5 false true false false) := by
  refine law_liftedD os started (by kernel_rfl) Tryz.func5
    (ChangeSpec.witness_shaped (enc := enc) (C := Tryz.checked) (os := os) (X := fun w _ => laidMetH Tryz.prog laidA w) false (World.doorLaid Tryz.prog 400 os) #[.slice none 0 0, .slice none 0 0, .slice none 0 0] 8 rfl (World.shaped_of_RefB (by kernel_rfl) (by kernel_rfl)) (by kernel_rfl) (by kernel_rfl) (by kernel_rfl) (door_met os _))
    (by kernel_rfl) rfl rfl ?_ ?_
  · intro vs ds W p hA
    rw [Tryz.params5] at hA
    obtain ⟨v0, vs0, d0, ds0, p0, q0, rfl, rfl, rfl, h0, r0⟩ := trodAll_cons hA
    obtain ⟨v1, vs1, d1, ds1, p1, q1, rfl, rfl, rfl, h1, r1⟩ := trodAll_cons r0
    obtain ⟨v2, vs2, d2, ds2, p2, q2, rfl, rfl, rfl, h2, r2⟩ := trodAll_cons r1
    obtain ⟨rfl, rfl, rfl⟩ := trodAll_nil r2
    rfl
  · intro W base args ds p hap hval hA
    rw [Tryz.params5] at hA hval
    obtain ⟨v0, vs0, d0, ds0, p0, q0, hargs, rfl, rfl, h0, r0⟩ := trodAll_cons hA
    obtain ⟨v1, vs1, d1, ds1, p1, q1, rfl, rfl, rfl, h1, r1⟩ := trodAll_cons r0
    obtain ⟨v2, vs2, d2, ds2, p2, q2, rfl, rfl, rfl, h2, r2⟩ := trodAll_cons r1
    obtain ⟨rfl, rfl, rfl⟩ := trodAll_nil r2
    obtain rfl : args = #[v0, v1, v2] := by cases args; simp_all
    obtain ⟨l0, hs0, hf0⟩ := open_goods (hval 0 22 v0 rfl rfl) h0
    obtain ⟨l1, hs1, hf1⟩ := open_boxes (hval 1 30 v1 rfl rfl) h1
    obtain ⟨l2, hs2, hf2⟩ := open_lots (hval 2 23 v2 rfl rfl) h2
    exact walk W hap l0 v0 hs0 hf0 l1 v1 hs1 hf1 l2 v2 hs2 hf2

theorem over : Rows.packRightsRow.holds Tryz.pinned (OpenSpec.ofChange Rows.packRightsSpec) :=
  OpenClaim.holds_of_wide 5 Tryz.f5 rfl rfl rfl rfl rfl rfl rfl ⟨rfl, rfl, rfl, rfl, rfl⟩ rfl rfl rfl rfl rfl (by kernel_rfl) Tryz.func5 (by kernel_rfl)
    (of_decide_eq_true (by kernel_rfl)) (by unfold Func.isWrapper; rw [if_neg (by decide +kernel)]; exact ⟨rfl, rfl⟩)
    (fun os started H enc _ => lifted os started H enc)

/-- The statement. -/
theorem proved : Rows.PackRightsCardSaid :=
  Claim7.holds_tied_plain_at .later [] [.data, .data, .data, .data] true _ false
    over (fun _ h => by cases h) (by kernel_rfl) (fun _ h => by cases h) packRights_row_tie rfl ⟨rfl, rfl⟩ (by kernel_rfl) rfl
    (fun f fn hf hfn => by
      obtain rfl : f = 5 := Option.some.inj (hf.symm.trans (by kernel_rfl))
      obtain rfl : fn = Tryz.f5 := (Option.some.inj (Tryz.func5.symm.trans hfn)).symm
      exact ⟨by kernel_rfl, fun j t ht => by
        have hall : (Tryz.f5.params.toList.all fun u => !Tryz.prog.wantsStandIn u) = true := by kernel_rfl
        have hm : t ∈ Tryz.f5.params.toList := by simpa using Array.mem_of_getElem? ht
        exact (show Tryz.prog.wantsStandIn t = false by simpa using List.all_eq_true.1 hall t hm)⟩)
    (by kernel_rfl)
#print axioms proved
end Go.Proofs.YtgnfdplphpejaaaGreatDoor.packRights
