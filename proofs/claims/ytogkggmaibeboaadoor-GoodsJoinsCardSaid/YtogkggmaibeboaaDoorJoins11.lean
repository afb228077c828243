/- Any lots, joined, and what is left of any by any others, are just the document's. No condition. -/
import Derived.Test.YtogkggmaibeboaaDoorAwake11
import Derived.Test.YtogkggmaibeboaaDoorFew11
import Derived.Test.YtogkggmaibeboaaDoorRefTake11
import Derived.Test.YtogkggmaibeboaaDoorEq11
import Derived.Test.YtogkggmaibeboaaDoorLawD11
namespace Go.Proofs.YtogkggmaibeboaaDoor.goodsJoins
open Go.ChangeShapes Go.WideShapes Go.ChangeAt Go.RowKit Go Sc
set_option maxRecDepth 100000

theorem take_out (l m : List Lt) : ∃ (J : List Lt) (ok : Bool), ∀ (w : World) (e : Ending) (w' : World), TakeP w l m e w' → ∃ v, e = .returned (.tuple #[v, .bool ok]) ∧ Sl w' 2 v (J.map Lt.row) ∧ Below w.heap.size w w' := by
  by_cases h : canTake l m
  · refine ⟨leftL l m, true, fun w e w' ht => ?_⟩
    rcases ht with ⟨_, v, h1, h2, h3⟩ | ⟨h1, _⟩
    · exact ⟨v, h1, own_lots h2 rfl, h3⟩
    · exact absurd h h1
  · refine ⟨[], false, fun w e w' ht => ?_⟩
    rcases ht with ⟨h1, _⟩ | ⟨_, h1, h2⟩
    · exact absurd h1 h
    · exact ⟨_, h1, .inl ⟨rfl, none, 0, rfl, fun _ => rfl⟩, h2⟩
set_option maxHeartbeats 16000000 in
theorem walk (w : World) (hap : ApT w) (l : List Lt) (vl : Value) (hsl : Sl w 2 vl (l.map Lt.row)) (_ : ∀ x ∈ l, x.fit) (m : List Lt) (vm : Value) (hsm : Sl w 2 vm (m.map Lt.row)) (_ : ∀ x ∈ m, x.fit) :
    Calls Tryd.prog 6 #[vl, vm] w (RetB w true) := by
  have HAW := Lib.hid (awake_any w hap)
  have HFL := Lib.hid (fun W (hW : Below w.heap.size w W) => refFew_any l vl W (hsl.below hW (Nat.le_refl _)))
  have HFM := Lib.hid (fun W (hW : Below w.heap.size w W) => refFew_any m vm W (hsm.below hW (Nat.le_refl _)))
  have HSL := Lib.hid hsl
  have HSM := Lib.hid hsm
  clear hap hsl hsm
  go_enter Tryd.func6, Tryd.ntmps6
  go_wp2_with (first
    | ((with_reducible refine HAW.out.mono ?_); rintro e w1 ⟨rfl, hb1⟩; have HB := Lib.hid hb1; clear hb1)
    | fail)
  refine (HFL.out _ HB.out).mono ?_
  rintro e w2 ⟨b, rfl, hb, hb2⟩
  have HB := Lib.hid (HB.out.trans (hb2.mono HB.out.size))
  clear hb2
  cases b with
  | false =>
    clear hb
    go_wp2_with fail
    go_ret
    exact ⟨rfl, HB.out⟩
  | true =>
  have HFW := Lib.hid (hb rfl)
  clear hb
  go_wp2_with fail
  refine (HFM.out _ HB.out).mono ?_
  rintro e w3 ⟨b, rfl, hb, hb3⟩
  have HB := Lib.hid (HB.out.trans (hb3.mono HB.out.size))
  clear hb3
  cases b with
  | false =>
    clear hb
    go_wp2_with fail
    go_ret
    exact ⟨rfl, HB.out⟩
  | true =>
  have HFX := Lib.hid (hb rfl)
  clear hb
  have h1 := HFW.out.len
  have h2 := HFX.out.len
  obtain ⟨J, ok, hout⟩ := take_out l m
  have HT1 := Lib.hid (fun W (hW : Below w.heap.size w W) => (take_any l m vl vm W (HSL.out.below hW (Nat.le_refl _)) (HSM.out.below hW (Nat.le_refl _)) (by omega) (by omega) HFW.out.cnt HFX.out.cnt).mono fun e w' h => hout W e w' h)
  have HT2 := Lib.hid (fun W (hW : Below w.heap.size w W) => (refTake_any l m vl vm W (HSL.out.below hW (Nat.le_refl _)) (HSM.out.below hW (Nat.le_refl _)) (by omega) (by omega) HFW.out.cnt HFX.out.cnt).mono fun e w' h => hout W e w' h)
  have HJ1 := Lib.hid (fun W (hW : Below w.heap.size w W) => join_any l vl W (HSL.out.below hW (Nat.le_refl _)) (by omega) HFW.out.cnt)
  have HJ2 := Lib.hid (fun W (hW : Below w.heap.size w W) => refJoin_any l vl W (HSL.out.below hW (Nat.le_refl _)) (by omega) HFW.out.cnt)
  generalize joinL l = K at *
  clear hout
  cases ok
  all_goals
    go_wp2_with (first
      | ((with_reducible refine (HT1.out _ HB.out).mono ?_); rintro e w4 ⟨v4, rfl, hs4, hb4⟩; have HS4 := Lib.hid hs4; have HB := Lib.hid (HB.out.trans (hb4.mono HB.out.size)); clear hs4 hb4)
      | ((with_reducible refine (HT2.out _ HB.out).mono ?_); rintro e w5 ⟨v5, rfl, hs5, hb5⟩; have HS5 := Lib.hid hs5; have HS4 := Lib.hid (HS4.out.below hb5 (Nat.le_refl _)); have HB := Lib.hid (HB.out.trans (hb5.mono HB.out.size)); clear hs5 hb5)
      | ((with_reducible refine (HJ1.out _ HB.out).mono ?_); rintro e w6 ⟨v6, rfl, ho6, hb6⟩; have HS6 := Lib.hid (own_lots ho6 rfl); have HS4 := Lib.hid (HS4.out.below hb6 (Nat.le_refl _)); have HS5 := Lib.hid (HS5.out.below hb6 (Nat.le_refl _)); have HB := Lib.hid (HB.out.trans (hb6.mono HB.out.size)); clear ho6 hb6)
      | ((with_reducible refine (HJ2.out _ HB.out).mono ?_); rintro e w7 ⟨v7, rfl, ho7, hb7⟩; have HS7 := Lib.hid (own_lots ho7 rfl); have HS6 := Lib.hid (HS6.out.below hb7 (Nat.le_refl _)); have HS4 := Lib.hid (HS4.out.below hb7 (Nat.le_refl _)); have HS5 := Lib.hid (HS5.out.below hb7 (Nat.le_refl _)); have HB := Lib.hid (HB.out.trans (hb7.mono HB.out.size)); clear ho7 hb7)
      | ((with_reducible refine (refSameL_any _ _ _ _ _ HS6.out HS7.out).mono ?_); rintro e w8 ⟨rfl, hb8⟩; rw [decide_eq_true rfl]; have HS4 := Lib.hid (HS4.out.below hb8 (Nat.le_refl _)); have HS5 := Lib.hid (HS5.out.below hb8 (Nat.le_refl _)); have HB := Lib.hid (HB.out.trans (hb8.mono HB.out.size)); clear hb8)
      | ((with_reducible refine (refSameL_any _ _ _ _ _ HS4.out HS5.out).mono ?_); rintro e w9 ⟨rfl, hb9⟩; rw [decide_eq_true rfl]; have HB := Lib.hid (HB.out.trans (hb9.mono HB.out.size)); clear hb9)
      | fail)
    go_ret
    exact ⟨rfl, HB.out⟩

theorem lifted (os : Os) (started : os.Started) (H : Type) (enc : TypeId × Value → H) :
    ReturnsInHanded {} Tryd.checked os 6 .any (fun w args => (Rows.goodsJoinsSpec.pre enc Tryd.prog Tryd.f6 [] false w args ∧ laidMetH Tryd.prog laidA w) ∧ sizedMet enc Tryd.prog Tryd.f6 (OpenSpec.ofChange Rows.goodsJoinsSpec) false w args) (Rows.goodsJoinsSpec.post enc Tryd.prog Tryd.f6 false true false false) := by
  refine law_liftedD os started (by kernel_rfl) Tryd.func6
    (ChangeSpec.witness_shaped (enc := enc) (C := Tryd.checked) (os := os) (X := fun w _ => laidMetH Tryd.prog laidA w) false (World.doorLaid Tryd.prog 400 os) #[.slice none 0 0, .slice none 0 0] 8 rfl (World.shaped_of_RefB (by kernel_rfl) (by kernel_rfl)) (by kernel_rfl) (by kernel_rfl) (by kernel_rfl) (door_met os _))
    (by kernel_rfl) rfl rfl ?_ ?_
  · intro vs ds W p hA
    rw [Tryd.params6] at hA
    obtain ⟨v0, vs0, d0, ds0, p0, q0, rfl, rfl, rfl, h0, r0⟩ := trodAll_cons hA
    obtain ⟨v1, vs1, d1, ds1, p1, q1, rfl, rfl, rfl, h1, r1⟩ := trodAll_cons r0
    obtain ⟨rfl, rfl, rfl⟩ := trodAll_nil r1
    rfl
  · intro W base args ds p hap hval hA
    rw [Tryd.params6] at hA hval
    obtain ⟨v0, vs0, d0, ds0, p0, q0, hargs, rfl, rfl, h0, r0⟩ := trodAll_cons hA
    obtain ⟨v1, vs1, d1, ds1, p1, q1, rfl, rfl, rfl, h1, r1⟩ := trodAll_cons r0
    obtain ⟨rfl, rfl, rfl⟩ := trodAll_nil r1
    obtain rfl : args = #[v0, v1] := by cases args; simp_all
    obtain ⟨l0, hs0, hf0⟩ := open_lots (hval 0 25 v0 rfl rfl) h0
    obtain ⟨l1, hs1, hf1⟩ := open_lots (hval 1 25 v1 rfl rfl) h1
    exact walk W hap l0 v0 hs0 hf0 l1 v1 hs1 hf1

theorem over : Rows.goodsJoinsRow.holds Tryd.pinned (OpenSpec.ofChange Rows.goodsJoinsSpec) :=
  OpenClaim.holds_of_wide 6 Tryd.f6 rfl rfl rfl rfl rfl rfl rfl ⟨rfl, rfl, rfl, rfl, rfl⟩ rfl rfl rfl rfl rfl (by kernel_rfl) Tryd.func6 (by kernel_rfl)
    (of_decide_eq_true (by kernel_rfl)) (by unfold Func.isWrapper; rw [if_neg (by decide +kernel)]; exact ⟨rfl, rfl⟩)
    (fun os started H enc _ => lifted os started H enc)

/-- The statement. -/
theorem proved : Rows.GoodsJoinsCardSaid :=
  Claim7.holds_tied_plain_at .later [] [.data] true _ false
    over (fun _ h => by cases h) (by kernel_rfl) (fun _ h => by cases h) goodsJoins_row_tie rfl ⟨rfl, rfl⟩ (by kernel_rfl) rfl
    (fun f fn hf hfn => by
      obtain rfl : f = 6 := Option.some.inj (hf.symm.trans (by kernel_rfl))
      obtain rfl : fn = Tryd.f6 := (Option.some.inj (Tryd.func6.symm.trans hfn)).symm
      exact ⟨by kernel_rfl, fun j t ht => by
        have hall : (Tryd.f6.params.toList.all fun u => !Tryd.prog.wantsStandIn u) = true := by kernel_rfl
        have hm : t ∈ Tryd.f6.params.toList := by simpa using Array.mem_of_getElem? ht
        exact (show Tryd.prog.wantsStandIn t = false by simpa using List.all_eq_true.1 hall t hm)⟩)
    (by kernel_rfl)
#print axioms proved
end Go.Proofs.YtogkggmaibeboaaDoor.goodsJoins
