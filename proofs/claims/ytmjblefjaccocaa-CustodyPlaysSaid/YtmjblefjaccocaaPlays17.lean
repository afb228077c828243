/- Behind any hand-overs, right and wrong, each tells what the document says; who has which box, its history, and who has what, is the document's; for every row, box, person and day. No condition. -/
import Derived.Test.YtmjblefjaccocaaHeld17
namespace Go.Proofs.Ytmjblefjaccocaa.custodyPlays
open Go Go.RowKit Go.ChangeShapes Go.WideShapes Go.ChangeAt Go.ChangeMaps Sc

set_option maxRecDepth 8000 in
set_option maxHeartbeats 4000000 in
theorem walk (w : World) (l : List Hd) (v : Value) (hs : Sl w 5 v (l.map Hd.row)) (hf : ∀ h ∈ l, h.fit) (box : ByteArray) (_ : box.size ≤ maxLen) (who : ByteArray) (_ : who.size ≤ maxLen) (d : Int) (_ : (Lit.int .i64 d).wf = true) :
    Calls Try.prog 8 #[v, .string box, .string who, .int .i64 d] w (RetB w true) := by
  have HS := Lib.hid hs
  have HF := Lib.hid hf
  clear hs hf
  go_enter Try.func8, Try.ntmps8
  go_wp2_with fail
  refine (long_any l v w HS.out).mono ?_
  rintro e w1 ⟨b, rfl, hb, hb1⟩
  have HB1 := Lib.hid hb1
  clear hb1
  by_cases hgo : b = false ∧ box.size ≤ 60 ∧ who.size ≤ 60
  · obtain ⟨rfl, h60, h61⟩ := hgo
    have HN : Hid (l.length ≤ 60) := Lib.hid (hb rfl)
    have HN4 : Hid (l.length ≤ 4000) := Lib.hid (by have := HN.out; omega)
    have t1 : decide ((60 : Int) < (box.size : Int)) = false := decide_eq_false (by omega)
    have t2 : decide ((60 : Int) < (who.size : Int)) = false := decide_eq_false (by omega)
    have HDL : Hid ((doneOf l).length ≤ 4000) := Lib.hid (by have := doneOf_len l; have := HN.out; omega)
    have HDM : Hid ((doneOf l).length ≤ 1000000) := Lib.hid (by have := HDL.out; omega)
    have HDH : Hid ((doneOf l).length ≤ 100000) := Lib.hid (by have := HDL.out; omega)
    have HDF := Lib.hid (doneOf_fit HF.out)
    have HDD := Lib.hid (doneOf_day l)
    clear hb h60 h61
    go_wp2_with (first
      | ((with_reducible refine (play_any l v _ (HS.out.below HB1.out (Nat.le_refl _)) HN4.out HF.out).mono ?_); rintro e w2 ⟨p2, v2, F2, rfl, hb2, hc2, -, hown2, -⟩; have HB2 := Lib.hid (HB1.out.trans (hb2.mono HB1.out.size)); obtain ⟨bp2, rfl⟩ : ∃ bp, p2 = .pointer (some ⟨bp, 0, none⟩) := (by obtain ⟨bp, bm, l, h, _⟩ := hc2; exact ⟨bp, h⟩); have HC2 := Lib.hid hc2; have HV2 := Lib.hid (own_hands hown2 rfl); clear hb2 hc2 hown2)
      | ((with_reducible refine (as_any box d (.pointer (some ⟨bp2, 0, none⟩)) (doneOf l) F2 _ HC2.out HDL.out).mono ?_); rintro e w3 ⟨rfl, hb3⟩; have HB3 := Lib.hid (HB2.out.trans (hb3.mono HB2.out.size)); have HC3 := Lib.hid (HC2.out.below hb3); have HV3 := Lib.hid (HV2.out.below hb3 (Nat.le_refl _));  clear hb3)
      | ((with_reducible refine (refAs_any (doneOf l) box d v2 _ HV3.out HDM.out).mono ?_); rintro e w4 ⟨rfl, hb4⟩; have HB4 := Lib.hid (HB3.out.trans (hb4.mono HB3.out.size)); have HC4 := Lib.hid (HC3.out.below hb4); have HV4 := Lib.hid (HV3.out.below hb4 (Nat.le_refl _));  clear hb4)
      | ((with_reducible refine (now_any box (.pointer (some ⟨bp2, 0, none⟩)) (doneOf l) F2 _ HC4.out HDL.out).mono ?_); rintro e w5 ⟨rfl, hb5⟩; have HB5 := Lib.hid (HB4.out.trans (hb5.mono HB4.out.size)); have HC5 := Lib.hid (HC4.out.below hb5); have HV5 := Lib.hid (HV4.out.below hb5 (Nat.le_refl _));  clear hb5)
      | ((with_reducible refine (refAs_any (doneOf l) box 1048576 v2 _ HV5.out HDM.out).mono ?_); rintro e w6 ⟨rfl, hb6⟩; have HB6 := Lib.hid (HB5.out.trans (hb6.mono HB5.out.size)); have HC6 := Lib.hid (HC5.out.below hb6); have HV6 := Lib.hid (HV5.out.below hb6 (Nat.le_refl _));  clear hb6)
      | ((with_reducible refine (history_any box (.pointer (some ⟨bp2, 0, none⟩)) (doneOf l) F2 _ HC6.out HDL.out).mono ?_); rintro e w7 ⟨va, rfl, hown7, hb7⟩; have HB7 := Lib.hid (HB6.out.trans (hb7.mono HB6.out.size)); have HC7 := Lib.hid (HC6.out.below hb7); have HV7 := Lib.hid (HV6.out.below hb7 (Nat.le_refl _)); have HA7 := Lib.hid (own_hands hown7 rfl); clear hown7; clear hb7)
      | ((with_reducible refine (refOwn_any (doneOf l) box v2 _ HV7.out HDM.out).mono ?_); rintro e w8 ⟨vb, rfl, hown8, hb8⟩; have HB8 := Lib.hid (HB7.out.trans (hb8.mono HB7.out.size)); have HC8 := Lib.hid (HC7.out.below hb8); have HV8 := Lib.hid (HV7.out.below hb8 (Nat.le_refl _)); have HA8 := Lib.hid (HA7.out.below hb8 (Nat.le_refl _)); have HE8 := Lib.hid (own_hands hown8 rfl); clear hown8; clear hb8)
      | ((with_reducible refine (refSame_any (ownOf (doneOf l) box) (ownOf (doneOf l) box) va vb _ HA8.out HE8.out).mono ?_); rintro e w9 ⟨rfl, hb9⟩; have HB9 := Lib.hid (HB8.out.trans (hb9.mono HB8.out.size)); have HC9 := Lib.hid (HC8.out.below hb9); have HV9 := Lib.hid (HV8.out.below hb9 (Nat.le_refl _)); rw [decide_eq_true rfl]; clear hb9)
      | ((with_reducible refine (held_any who (.pointer (some ⟨bp2, 0, none⟩)) (doneOf l) F2 _ HC9.out HDL.out HDF.out HDD.out).mono ?_); rintro e w10 ⟨vc, rfl, hown10, hb10⟩; have HB10 := Lib.hid (HB9.out.trans (hb10.mono HB9.out.size)); have HC10 := Lib.hid (HC9.out.below hb10); have HV10 := Lib.hid (HV9.out.below hb10 (Nat.le_refl _)); have HA10 := Lib.hid (own_strs hown10 rfl); clear hown10; clear hb10)
      | ((with_reducible refine (refHeld_any (doneOf l) who v2 _ HV10.out HDH.out).mono ?_); rintro e w11 ⟨vd, rfl, hown11, hb11⟩; have HB11 := Lib.hid (HB10.out.trans (hb11.mono HB10.out.size)); have HC11 := Lib.hid (HC10.out.below hb11); have HV11 := Lib.hid (HV10.out.below hb11 (Nat.le_refl _)); have HA11 := Lib.hid (HA10.out.below hb11 (Nat.le_refl _)); have HE11 := Lib.hid (own_strs hown11 rfl); clear hown11; clear hb11)
      | ((with_reducible refine (refTexts_any (heldOf (doneOf l) who) (heldOf (doneOf l) who) vc vd _ HA11.out HE11.out).mono ?_); rintro e w12 ⟨rfl, hb12⟩; have HB12 := Lib.hid (HB11.out.trans (hb12.mono HB11.out.size)); have HC12 := Lib.hid (HC11.out.below hb12); have HV12 := Lib.hid (HV11.out.below hb12 (Nat.le_refl _)); rw [decide_eq_true rfl]; clear hb12)
      | ((with_reducible refine (boxes_any (.pointer (some ⟨bp2, 0, none⟩)) (doneOf l) F2 _ HC12.out HDL.out HDF.out).mono ?_); rintro e w13 ⟨ve, rfl, hown13, hb13⟩; have HB13 := Lib.hid (HB12.out.trans (hb13.mono HB12.out.size)); have HC13 := Lib.hid (HC12.out.below hb13); have HV13 := Lib.hid (HV12.out.below hb13 (Nat.le_refl _)); have HA13 := Lib.hid (own_strs hown13 rfl); clear hown13; clear hb13)
      | ((with_reducible refine (refBoxes_any (doneOf l) v2 _ HV13.out HDM.out).mono ?_); rintro e w14 ⟨vf, rfl, hown14, hb14⟩; have HB14 := Lib.hid (HB13.out.trans (hb14.mono HB13.out.size)); have HC14 := Lib.hid (HC13.out.below hb14); have HV14 := Lib.hid (HV13.out.below hb14 (Nat.le_refl _)); have HA14 := Lib.hid (HA13.out.below hb14 (Nat.le_refl _)); have HE14 := Lib.hid (own_strs hown14 rfl); clear hown14; clear hb14)
      | ((with_reducible refine (refTexts_any (boxesS (doneOf l)) (boxesS (doneOf l)) ve vf _ HA14.out HE14.out).mono ?_); rintro e w15 ⟨rfl, hb15⟩; have HB15 := Lib.hid (HB14.out.trans (hb15.mono HB14.out.size)); have HC15 := Lib.hid (HC14.out.below hb15); have HV15 := Lib.hid (HV14.out.below hb15 (Nat.le_refl _)); rw [decide_eq_true rfl]; clear hb15)
      | ((with_reducible refine (awake_any _).mono ?_); rintro e w16 ⟨rfl, hb16⟩; have HB16 := Lib.hid (HB15.out.trans (hb16.mono HB15.out.size)); have HC16 := Lib.hid (HC15.out.below hb16); have HV16 := Lib.hid (HV15.out.below hb16 (Nat.le_refl _));  clear hb16)
      | fail)
    go_ret
    exact retB rfl HB16.out
  · have HG := Lib.hid hgo
    clear hb hgo
    cases b with
    | true =>
      go_wp2_with (first | ((with_reducible refine (awake_any _).mono ?_); rintro e w2 ⟨rfl, hb2⟩; have HB2 := Lib.hid (HB1.out.trans (hb2.mono HB1.out.size)); clear hb2) | fail)
      go_ret
      exact retB rfl HB2.out
    | false =>
      by_cases h60 : box.size ≤ 60
      · have t1 : decide ((60 : Int) < (box.size : Int)) = false := decide_eq_false (by omega)
        have t2 : decide ((60 : Int) < (who.size : Int)) = true := decide_eq_true (by have := HG.out; simp [h60] at this; omega)
        go_wp2_with (first | ((with_reducible refine (awake_any _).mono ?_); rintro e w2 ⟨rfl, hb2⟩; have HB2 := Lib.hid (HB1.out.trans (hb2.mono HB1.out.size)); clear hb2) | fail)
        go_ret
        exact retB rfl HB2.out
      · have t1 : decide ((60 : Int) < (box.size : Int)) = true := decide_eq_true (by omega)
        go_wp2_with (first | ((with_reducible refine (awake_any _).mono ?_); rintro e w2 ⟨rfl, hb2⟩; have HB2 := Lib.hid (HB1.out.trans (hb2.mono HB1.out.size)); clear hb2) | fail)
        go_ret
        exact retB rfl HB2.out

theorem lifted (os : Os) (started : os.Started) (H : Type) (enc : TypeId × Value → H) :
    ReturnsInHanded {} Try.checked os 8 .any (Rows.custodyPlaysSpec.pre6 enc Try.prog Try.f8 Rows.custodyPlaysRow.domain false) (Rows.custodyPlaysSpec.post enc Try.prog Try.f8 false true false false) := by
  refine law_lifted os started (by kernel_rfl) Try.func8
    (ChangeSpec.witness6 (enc := enc) (C := Try.checked) false ⟨#[], #[.slice none 0 0, .string ⟨#[]⟩, .string ⟨#[]⟩, .int .i64 0], []⟩ 8 (by kernel_rfl) (by kernel_rfl) (by kernel_rfl) (by kernel_rfl))
    (by kernel_rfl) rfl rfl ?_ ?_
  · intro vs ds W p hA
    rw [Try.params8] at hA
    obtain ⟨v0, vs0, d0, ds0, p0, q0, rfl, rfl, rfl, h0, r0⟩ := trodAll_cons hA
    obtain ⟨v1, vs1, d1, ds1, p1, q1, rfl, rfl, rfl, h1, r1⟩ := trodAll_cons r0
    obtain ⟨v2, vs2, d2, ds2, p2, q2, rfl, rfl, rfl, h2, r2⟩ := trodAll_cons r1
    obtain ⟨v3, vs3, d3, ds3, p3, q3, rfl, rfl, rfl, h3, r3⟩ := trodAll_cons r2
    obtain ⟨rfl, rfl, rfl⟩ := trodAll_nil r3
    rfl
  · intro W base args ds p hval hA
    rw [Try.params8] at hA hval
    obtain ⟨v0, vs0, d0, ds0, p0, q0, hargs, rfl, rfl, h0, r0⟩ := trodAll_cons hA
    obtain ⟨v1, vs1, d1, ds1, p1, q1, rfl, rfl, rfl, h1, r1⟩ := trodAll_cons r0
    obtain ⟨v2, vs2, d2, ds2, p2, q2, rfl, rfl, rfl, h2, r2⟩ := trodAll_cons r1
    obtain ⟨v3, vs3, d3, ds3, p3, q3, rfl, rfl, rfl, h3, r3⟩ := trodAll_cons r2
    obtain ⟨rfl, rfl, rfl⟩ := trodAll_nil r3
    obtain rfl : args = #[v0, v1, v2, v3] := by cases args; simp_all
    obtain ⟨l0, hs0, hf0⟩ := open_hands (hval 0 22 v0 rfl rfl) h0
    obtain ⟨a1, rfl, rfl, rfl, w1⟩ := open_string Try.underlying9 (hval 1 9 v1 rfl rfl) h1
    obtain ⟨a2, rfl, rfl, rfl, w2⟩ := open_string Try.underlying9 (hval 2 9 v2 rfl rfl) h2
    obtain ⟨a3, rfl, rfl, rfl, w3⟩ := open_int Try.underlying3 (hval 3 3 v3 rfl rfl) h3
    exact walk W l0 v0 hs0 hf0 a1 w1 a2 w2 a3 w3

theorem over : Rows.custodyPlaysRow.holds Try.pinned (OpenSpec.ofChange Rows.custodyPlaysSpec) :=
  OpenClaim.holds_of_wide 8 Try.f8 rfl rfl rfl rfl rfl rfl rfl ⟨rfl, rfl, rfl, rfl, rfl⟩ rfl rfl rfl rfl rfl (by kernel_rfl) Try.func8 (by kernel_rfl)
    (of_decide_eq_true (by kernel_rfl)) (by unfold Func.isWrapper; rw [if_neg (by decide +kernel)]; exact ⟨rfl, rfl⟩)
    (fun os started H enc _ => lifted os started H enc)

/-- The statement. -/
theorem proved : Rows.CustodyPlaysSaid := over
#print axioms proved
end Go.Proofs.Ytmjblefjaccocaa.custodyPlays
