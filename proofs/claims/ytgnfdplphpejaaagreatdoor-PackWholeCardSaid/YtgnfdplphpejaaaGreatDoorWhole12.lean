/- PackWhole: nothing is left, and nothing is there twice: what is packed is a packing of all lots, whatever their order. -/
import Derived.Test.YtgnfdplphpejaaaGreatDoorPkd12
import Derived.Test.YtgnfdplphpejaaaGreatDoorRefRig12
namespace Go.Proofs.YtgnfdplphpejaaaGreatDoor.packWhole
open Go.ChangeShapes Go.WideShapes Go.ChangeAt Go.RowKit Go Sc
set_option maxRecDepth 100000

set_option maxHeartbeats 16000000 in
theorem walk (w : World) (hap : Lw w) (t : List Gd) (vt : Value) (hst : Sl w 4 vt (t.map Gd.row)) (hft : ∀ g ∈ t, g.fit) (first : Int) (_ : (Lit.int .i64 first).wf = true) (own : ByteArray) (_ : own.size ≤ maxLen) (l : List Lt) (vl : Value) (hsl : Sl w 2 vl (l.map Lt.row)) (_ : ∀ x ∈ l, x.fit) :
    Calls Tryz.prog 4 #[vt, .int .i64 first, .string own, vl] w (RetB w true) := by
  have HAW := Lib.hid (awake12_any w hap)
  have HAW2 := Lib.hid (fun W (hW : Below w.heap.size w W) => awake12_any W (hap.below hW))
  have HFT := Lib.hid (fun W (hW : Below w.heap.size w W) => few12_any t l vt vl W (hst.below hW (Nat.le_refl _)) (hsl.below hW (Nat.le_refl _)))
  have HAP := Lib.hid (fun W (hW : Below w.heap.size w W) => hap.below hW)
  have HS := Lib.hid hst
  have HSL := Lib.hid hsl
  have HF := Lib.hid hft
  clear hap hst hsl hft
  go_enter Tryz.func4, Tryz.ntmps4
  go_wp2_with (first
    | ((with_reducible refine HAW.out.mono ?_); rintro e w1 ⟨rfl, hb1⟩; have HB := Lib.hid hb1; clear hb1)
    | fail)
  refine (HFT.out _ HB.out).mono ?_
  rintro e w2 ⟨b, rfl, hb, hb2⟩
  have HB := Lib.hid (HB.out.trans (hb2.mono HB.out.size))
  clear hb2
  cases b with
  | false =>
    clear hb
    go_wp2_with (first
      | ((with_reducible refine (HAW2.out _ HB.out).mono ?_); rintro e w1 ⟨rfl, hb1⟩; have HB := Lib.hid (HB.out.trans (hb1.mono HB.out.size)); clear hb1)
      | fail)
    go_ret
    exact ⟨rfl, HB.out⟩
  | true =>
  have HFEW := Lib.hid (hb rfl)
  clear hb
  have HT := Lib.hid (table_any t vt w2 (HS.out.below HB.out (Nat.le_refl _)) (by have := HFEW.out.1; omega) HF.out)
  by_cases h0 : tabC t = 0
  rotate_left
  · have HTN := Lib.hid (HT.out.mono fun e w' h => table_no h h0)
    clear h0 HT
    go_wp2_with (first
      | ((with_reducible refine HTN.out.mono ?_); rintro e w3 ⟨rfl, hb3⟩; have HB := Lib.hid (HB.out.trans (hb3.mono HB.out.size)); clear hb3)
      | fail)
    go_ret
    exact ⟨rfl, HB.out⟩
  have HTN := Lib.hid (HT.out.mono fun e w' h => table_ok h h0)
  have hok := tabC_ok h0
  have HPK := Lib.hid (fun W bt bm (hW : Below w.heap.size w W) (ht : Tab W bt bm t) => pack_any t l first own bt bm vl W (HAP.out W hW).1 (HAP.out W hW).2 (HSL.out.below hW (Nat.le_refl _)) (by have := HFEW.out.2.1; omega) ht hok.2.1 hok.1)
  have HPB := Lib.hid (fun W bt bm vb (hW : Below w.heap.size w W) (ht : Tab W bt bm t) (hs : Sl W 2 vb (l.reverse.map Lt.row)) => pack_any t l.reverse first own bt bm vb W (HAP.out W hW).1 (HAP.out W hW).2 hs (by have := HFEW.out.2.1; rw [List.length_reverse]; omega) ht hok.2.1 hok.1)
  have HOK := Lib.hid hok
  obtain ⟨av, cv, rfl⟩ : ∃ a c, vl = .slice a l.length c := by simpa using HSL.out.shape
  have hl12 := HFEW.out.2.1
  obtain ⟨i0, hi, hz, hsz, hby⟩ := info_parts infoLt
  have HI := Lib.hid (And.intro hi (And.intro hz (And.intro hsz hby)))
  clear h0 HT hok hi hz hsz hby
  go_wp2_with (first
    | ((with_reducible refine HTN.out.mono ?_); rintro e w3 ⟨bt, bm, rfl, ht, hb3⟩; have HT := Lib.hid ht; have HB := Lib.hid (HB.out.trans (hb3.mono HB.out.size)); clear ht hb3)
    | fail)
  refine (HPK.out _ _ _ HB.out HT.out).mono ?_
  rintro e w4 ⟨hb4, hq⟩
  have HT := Lib.hid (HT.out.below hb4)
  have HB := Lib.hid (HB.out.trans (hb4.mono HB.out.size))
  clear hb4
  rcases hq with ⟨h0, rfl⟩ | ⟨h0, v, R, rfl, hat, hR⟩
  · have t0 : ((packR t first own l).1 != 0) = true := by simp [h0]
    clear HPK HPB
    generalize (packR t first own l).1 = q at *
    clear h0
    go_wp2_with fail
    go_ret
    exact ⟨rfl, HB.out⟩
  have hpk : packR t first own l = (0, R.map Bv.b) := by rw [hR, ← h0]
  have HPD := Lib.hid (packed_few (packR_packed HOK.out.1 hpk) HFEW.out.1 HF.out)
  have HRR := Lib.hid (packR_packed HOK.out.1 hpk).right
  have HREV := Lib.hid (packR_rev (m := l.reverse) (List.reverse_perm l) hpk)
  have HJE : Hid (joinL (lotsV R) = joinL l) := Lib.hid (by
    have h1 := (packR_packed HOK.out.1 hpk).right
    exact joinL_eq.2 ((rightP_iff.1 h1).2.2))
  obtain ⟨aR, cR, rfl⟩ := Ord.row_slice hat.own
  have HBA := Lib.hid (own_boxes hat)
  have HX4 := Lib.hid (one_below w4 (.cells #[] 38))
  have HO0 := Lib.hid (own_empty (w := w4) (e := 38) (sz := 2) (Nat.le_refl _))
  have e1 : wrap64 ((l.length : Int) - 1) = (l.length : Int) - 1 := IntWalk.wrap64_in _ (by omega)
  clear h0 hR hat hpk
  go_wp2_with fail
  clear e1
  go_loopw [12, 13] (fun bk i wr => ∃ (n : Nat) (z : Int), n ≤ l.length ∧ z = (n : Int) - 1 ∧ i = .int .i64 z ∧ wr.ownsRow w4.heap.size 38 2 bk (l.drop n).reverse.length (ltCells (l.drop n).reverse) ∧ Below w4.heap.size w4 wr) (fun _ i _ => (intOf i + 1).toNat)
  case atStart => exact ⟨l.length, _, Nat.le_refl _, rfl, rfl, by rw [List.drop_of_length_le (Nat.le_refl _)]; exact HO0.out, HX4.out⟩
  case round =>
    obtain ⟨n, z, hn, hz, rfl, hown, hbel⟩ := hrel
    have HOWN := Lib.hid hown
    have HBEL := Lib.hid hbel
    rcases n with - | m
    · have tz : decide (0 ≤ z) = false := decide_eq_false (by omega)
      rw [List.drop_zero] at hown
      have HSR := Lib.hid (own_lots hown rfl)
      obtain ⟨a5, c5, hab⟩ := Ord.row_slice hown
      rw [List.length_reverse] at hab
      have HW5 := Lib.hid (HB.out.trans (hbel.mono HB.out.size))
      have HT5 := Lib.hid (HT.out.below hbel)
      have HA5 := Lib.hid (HBA.out.below hbel)
      have HPB5 := Lib.hid (HPB.out wr bt bm _ HW5.out HT5.out HSR.out)
      rw [hab] at HPB5 ⊢
      clear hown hbel hab hz hn HOWN
      go_wp2_with fail
      refine HPB5.out.mono ?_
      rintro e w6 ⟨hb6, hq⟩
      rw [HREV.out] at hq
      have HB6 := Lib.hid (HW5.out.trans (hb6.mono HW5.out.size))
      have HT6 := Lib.hid (HT5.out.below hb6)
      have HA6 := Lib.hid (HA5.out.below hb6)
      clear hb6
      rcases hq with ⟨h0, -⟩ | ⟨-, v2, R2, rfl, hat2, hR2⟩
      · exact absurd rfl h0
      have HSB := Lib.hid (refSameB_any R R2 hR2.symm _ _ w6 HA6.out (own_boxes hat2))
      obtain ⟨a7, c7, rfl⟩ := Ord.row_slice hat2.own
      have HR1 := Lib.hid (fun W (hW : Below w6.heap.size w6 W) => right_any t R l bt bm (.slice aR R.length cR) (.slice av l.length cv) W (HAP.out _ (HB6.out.trans (hW.mono HB6.out.size))) (HA6.out.below hW) HPD.out.1 (HSL.out.below (HB6.out.trans (hW.mono HB6.out.size)) (Nat.le_refl _)) (by have := HFEW.out.2.1; omega) HFEW.out.2.2.cnt (HT6.out.below hW) HOK.out.2.1 HOK.out.1)
      have HR2 := Lib.hid (fun W (hW : Below w6.heap.size w6 W) => refBoxes_any t R l vt (.slice aR R.length cR) (.slice av l.length cv) W (HS.out.below (HB6.out.trans (hW.mono HB6.out.size)) (Nat.le_refl _)) (HA6.out.below hW) HPD.out.2.1 HPD.out.1 (HSL.out.below (HB6.out.trans (hW.mono HB6.out.size)) (Nat.le_refl _)) (by have := HFEW.out.2.1; omega) HFEW.out.2.2.cnt HOK.out.1)
      have HCO := Lib.hid (fun W (hW : Below w6.heap.size w6 W) => content_any R (.slice aR R.length cR) W (HA6.out.below hW) HPD.out.1)
      have HJN := Lib.hid (fun W (hW : Below w6.heap.size w6 W) => refJoin_any l (.slice av l.length cv) W (HSL.out.below (HB6.out.trans (hW.mono HB6.out.size)) (Nat.le_refl _)) (by have := HFEW.out.2.1; omega) HFEW.out.2.2.cnt)
      rw [HRR.out] at HR1 HR2
      rw [HJE.out] at HCO
      obtain ⟨J, hJ⟩ : ∃ J, J = joinL l := ⟨_, rfl⟩
      rw [← hJ] at HCO HJN
      clear hJ
      clear hat2 hR2
      go_wp2_with (first
        | ((with_reducible refine HSB.out.mono ?_); rintro e w8 ⟨rfl, hb8⟩; have HB8 := Lib.hid hb8; clear hb8)
        | ((with_reducible refine (HR2.out _ HB8.out).mono ?_); rintro e w9 ⟨rfl, hb9⟩; have HB9 := Lib.hid (HB8.out.trans (hb9.mono HB8.out.size)); clear hb9)
        | ((with_reducible refine (HR1.out _ HB9.out).mono ?_); rintro e w10 ⟨rfl, hb10⟩; have HB10 := Lib.hid (HB9.out.trans (hb10.mono HB9.out.size)); clear hb10)
        | ((with_reducible refine (HCO.out _ HB10.out).mono ?_); rintro e w11 ⟨v11, rfl, ho11, hb11⟩; have HS11 := Lib.hid (own_lots ho11 rfl); have HB11 := Lib.hid (HB10.out.trans (hb11.mono HB10.out.size)); clear ho11 hb11)
        | ((with_reducible refine (HJN.out _ HB11.out).mono ?_); rintro e w12 ⟨v12, rfl, ho12, hb12⟩; have HS11 := Lib.hid (HS11.out.below hb12 (Nat.le_refl _)); have HS12 := Lib.hid (own_lots ho12 rfl); have HB12 := Lib.hid (HB11.out.trans (hb12.mono HB11.out.size)); clear ho12 hb12)
        | ((with_reducible refine (refSameL_any _ _ _ _ _ HS11.out HS12.out).mono ?_); rintro e w13 ⟨rfl, hb13⟩; have HB13 := Lib.hid (HB12.out.trans (hb13.mono HB12.out.size)); clear hb13)
        | fail)
      go_ret
      exact ⟨rfl, HB6.out.trans (HB13.out.mono HB6.out.size)⟩
    · have tz : decide (0 ≤ z) = true := decide_eq_true (by omega)
      obtain rfl : z = (m : Int) := by omega
      have hml : m < l.length := by omega
      obtain ⟨b, off, rfl, -, hbk, hc⟩ := (HSL.out.below (HB.out.trans (hbel.mono HB.out.size)) (Nat.le_refl _)).at (i := m) (by simpa using hml)
      have d0 : wr.cell? ⟨b, off + m * 2, none⟩ = some (.string l[m].good) := hc m l[m].row (by simp [hml]) 0 _ rfl
      have d1 : wr.cell? ⟨b, off + m * 2 + 1, none⟩ = some (.int .i64 l[m].cnt) := hc m l[m].row (by simp [hml]) 1 _ rfl
      have HNX : Hid ((l.drop m).reverse = (l.drop (m + 1)).reverse ++ [l[m]]) := Lib.hid (by rw [List.drop_eq_getElem_cons hml, List.reverse_cons])
      have hlr : (l.drop (m + 1)).reverse.length ≤ 12 := by rw [List.length_reverse, List.length_drop]; omega
      have tm : ((m : Nat) : Int) < (l.length : Int) := by omega
      have e1 : wrap64 ((m : Int) - 1) = (m : Int) - 1 := IntWalk.wrap64_in _ (by omega)
      generalize (l.drop (m + 1)).reverse = Q at *
      generalize l[m] = x at *
      obtain ⟨xn, xc⟩ := x
      simp only at d0 d1
      have HL : Hid (Q.length + 1 ≤ maxLen ∧ (Q.length + 1) * 24 ≤ 140737488355328 ∧ w4.heap.size ≤ wr.heap.size) := Lib.hid (by have := hbel.size; simp only [maxLen]; omega)
      clear hown hbel hbk hc hz hlr
      go_wp2_with (first
        | (((with_reducible refine Any.wpl_push ?_ ?_ ?_ Tryz.underlying23 HI.out.1 HI.out.2.1 HI.out.2.2.1 HI.out.2.2.2 ?_ (by decide) ?_ ((lt_one xn xc)) (HOWN.out) HL.out.1 HL.out.2.1 HL.out.2.2 ?_); rfl; rfl; rfl; rfl; rfl; intro v3 w3 hown3 hgrow3 hwho3); have HO3 := Lib.hid hown3; have HB3 := Lib.hid (HBEL.out.grown hgrow3 HBEL.out.size (fun k hk => (HOWN.out.lt k hk).1)); clear hown3 hgrow3 hwho3)
        | fail)
      go_roundw
      case rel => exact ⟨m, _, by omega, rfl, rfl, by
        have := HO3.out
        rw [HNX.out, ltCells_append, List.length_append]
        exact this, HB3.out⟩
      case measure => (simp [intOf]) <;> omega
theorem lifted (os : Os) (started : os.Started) (H : Type) (enc : TypeId × Value → H) :
    ReturnsInHanded {} Tryz.checked os 4 .any (fun w args => (Rows.packWholeSpec.pre enc Tryz.prog Tryz.f4 [] false w args ∧ laidMetH Tryz.prog laidA w) ∧ sizedMet enc Tryz.prog Tryz.f4 (OpenSpec.ofChange Rows.packWholeSpec) false w args) (Rows.packWholeSpec.post enc Tryz.prog Tryz.f4 false true false false) := by
  refine law_liftedD os started (by kernel_rfl) Tryz.func4
    (ChangeSpec.witness_shaped (enc := enc) (C := Tryz.checked) (os := os) (X := fun w _ => laidMetH Tryz.prog laidA w) false (World.doorLaid Tryz.prog 400 os) #[.slice none 0 0, .int .i64 0, .string ⟨#[]⟩, .slice none 0 0] 8 rfl (World.shaped_of_RefB (by kernel_rfl) (by kernel_rfl)) (by kernel_rfl) (by kernel_rfl) (by kernel_rfl) (door_met os _))
    (by kernel_rfl) rfl rfl ?_ ?_
  · intro vs ds W p hA
    rw [Tryz.params4] at hA
    obtain ⟨v0, vs0, d0, ds0, p0, q0, rfl, rfl, rfl, h0, r0⟩ := trodAll_cons hA
    obtain ⟨v1, vs1, d1, ds1, p1, q1, rfl, rfl, rfl, h1, r1⟩ := trodAll_cons r0
    obtain ⟨v2, vs2, d2, ds2, p2, q2, rfl, rfl, rfl, h2, r2⟩ := trodAll_cons r1
    obtain ⟨v3, vs3, d3, ds3, p3, q3, rfl, rfl, rfl, h3, r3⟩ := trodAll_cons r2
    obtain ⟨rfl, rfl, rfl⟩ := trodAll_nil r3
    rfl
  · intro W base args ds p hap hval hA
    rw [Tryz.params4] at hA hval
    obtain ⟨v0, vs0, d0, ds0, p0, q0, hargs, rfl, rfl, h0, r0⟩ := trodAll_cons hA
    obtain ⟨v1, vs1, d1, ds1, p1, q1, rfl, rfl, rfl, h1, r1⟩ := trodAll_cons r0
    obtain ⟨v2, vs2, d2, ds2, p2, q2, rfl, rfl, rfl, h2, r2⟩ := trodAll_cons r1
    obtain ⟨v3, vs3, d3, ds3, p3, q3, rfl, rfl, rfl, h3, r3⟩ := trodAll_cons r2
    obtain ⟨rfl, rfl, rfl⟩ := trodAll_nil r3
    obtain rfl : args = #[v0, v1, v2, v3] := by cases args; simp_all
    obtain ⟨l0, hs0, hf0⟩ := open_goods (hval 0 22 v0 rfl rfl) h0
    obtain ⟨a1, rfl, rfl, rfl, w1⟩ := open_int Tryz.underlying3 (hval 1 3 v1 rfl rfl) h1
    obtain ⟨a2, rfl, rfl, rfl, w2⟩ := Go.ChangeMaps.open_string Tryz.underlying9 (hval 2 9 v2 rfl rfl) h2
    obtain ⟨l3, hs3, hf3⟩ := open_lots (hval 3 23 v3 rfl rfl) h3
    exact walk W hap l0 v0 hs0 hf0 a1 w1 a2 w2 l3 v3 hs3 hf3

theorem over : Rows.packWholeRow.holds Tryz.pinned (OpenSpec.ofChange Rows.packWholeSpec) :=
  OpenClaim.holds_of_wide 4 Tryz.f4 rfl rfl rfl rfl rfl rfl rfl ⟨rfl, rfl, rfl, rfl, rfl⟩ rfl rfl rfl rfl rfl (by kernel_rfl) Tryz.func4 (by kernel_rfl)
    (of_decide_eq_true (by kernel_rfl)) (by unfold Func.isWrapper; rw [if_neg (by decide +kernel)]; exact ⟨rfl, rfl⟩)
    (fun os started H enc _ => lifted os started H enc)

/-- The statement. -/
theorem proved : Rows.PackWholeCardSaid :=
  Claim7.holds_tied_plain_at .later [] [.data, .data, .data, .data] true _ false
    over (fun _ h => by cases h) (by kernel_rfl) (fun _ h => by cases h) packWhole_row_tie rfl ⟨rfl, rfl⟩ (by kernel_rfl) rfl
    (fun f fn hf hfn => by
      obtain rfl : f = 4 := Option.some.inj (hf.symm.trans (by kernel_rfl))
      obtain rfl : fn = Tryz.f4 := (Option.some.inj (Tryz.func4.symm.trans hfn)).symm
      exact ⟨by kernel_rfl, fun j t ht => by
        have hall : (Tryz.f4.params.toList.all fun u => !Tryz.prog.wantsStandIn u) = true := by kernel_rfl
        have hm : t ∈ Tryz.f4.params.toList := by simpa using Array.mem_of_getElem? ht
        exact (show Tryz.prog.wantsStandIn t = false by simpa using List.all_eq_true.1 hall t hm)⟩)
    (by kernel_rfl)
#print axioms proved
end Go.Proofs.YtgnfdplphpejaaaGreatDoor.packWhole
