/- PackPacks: of any goods any lots are packed as the document says, or what is wrong is told. -/
import Derived.Test.YtgnfdplphpejaaaGreatDoorRefPack12
import Derived.Test.YtgnfdplphpejaaaGreatDoorRefSame12
import Derived.Test.YtgnfdplphpejaaaGreatDoorAwPk12
import Derived.Test.YtgnfdplphpejaaaGreatDoorRefNew11
namespace Go.Proofs.YtgnfdplphpejaaaGreatDoor.packPacks
open Go.ChangeShapes Go.WideShapes Go.ChangeAt Go.RowKit Go Sc
set_option maxRecDepth 100000

theorem boxes_none (w : World) : BoxesAt w (.slice none 0 0) [] := ⟨.inl ⟨rfl, none, 0, rfl, fun _ => rfl⟩, by simp⟩
/-- Behind Pack: the code, and boxes that read as these. -/
theorem pack_seen {w : World} {q : Int × List Bx} {e : Ending} {w' : World} (h : PackP w q e w') : ∃ v R, e = .returned (.tuple #[v, .int .i64 q.1]) ∧ BoxesAt w' v R ∧ R.map Bv.b = (if q.1 = 0 then q.2 else []) ∧ Below w.heap.size w w' := by
  obtain ⟨hb, ⟨h0, rfl⟩ | ⟨h0, v, R, rfl, hat, hR⟩⟩ := h
  · exact ⟨_, [], rfl, boxes_none _, by rw [if_neg h0]; rfl, hb⟩
  · exact ⟨v, R, by rw [h0], own_boxes hat, by rw [if_pos h0, hR], hb⟩
set_option maxHeartbeats 8000000 in
theorem walk (w : World) (hap : Lw w) (t : List Gd) (vt : Value) (hst : Sl w 4 vt (t.map Gd.row)) (hft : ∀ g ∈ t, g.fit) (first : Int) (_ : (Lit.int .i64 first).wf = true) (own : ByteArray) (_ : own.size ≤ maxLen) (l : List Lt) (vl : Value) (hsl : Sl w 2 vl (l.map Lt.row)) (hlf : ∀ x ∈ l, x.fit) :
    Calls Tryz.prog 3 #[vt, .int .i64 first, .string own, vl] w (RetB w true) := by
  have HAW := Lib.hid (awake12_any w hap)
  have HAW2 := Lib.hid (fun W (hW : Below w.heap.size w W) => awake12_any W (hap.below hW))
  have HFT := Lib.hid (fun W (hW : Below w.heap.size w W) => few12_any t l vt vl W (hst.below hW (Nat.le_refl _)) (hsl.below hW (Nat.le_refl _)))
  have HAP := Lib.hid (fun W (hW : Below w.heap.size w W) => hap.below hW)
  have HS := Lib.hid hst
  have HSL := Lib.hid hsl
  have HF := Lib.hid hft
  have HLF := Lib.hid hlf
  clear hap hst hsl hft hlf
  go_enter Tryz.func3, Tryz.ntmps3
  go_wp2_with (first
    | ((with_reducible refine HAW.out.mono ?_); rintro e w1 ⟨rfl, hb1⟩; have HB := Lib.hid hb1; clear hb1)
    | fail)
  refine (HFT.out _ HB.out).mono ?_
  rintro e w2 ⟨b, rfl, hb, hb2⟩
  have HB := Lib.hid (HB.out.trans (hb2.mono HB.out.size))
  clear hb2
  cases b with
  | false =>
    clear hb
    go_wp2_with (first
      | ((with_reducible refine (HAW2.out _ HB.out).mono ?_); rintro e w1 ⟨rfl, hb1⟩; have HB := Lib.hid (HB.out.trans (hb1.mono HB.out.size)); clear hb1)
      | fail)
    go_ret
    exact ⟨rfl, HB.out⟩
  | true =>
  have HFEW := Lib.hid (hb rfl)
  clear hb
  have HT := Lib.hid (table_any t vt w2 (HS.out.below HB.out (Nat.le_refl _)) (by have := HFEW.out.1; omega) HF.out)
  have HNEW := Lib.hid (fun W (hW : Below w.heap.size w W) => refNewG_any t vt W (HS.out.below hW (Nat.le_refl _)) (by have := HFEW.out.1; omega) HF.out)
  by_cases h0 : tabC t = 0
  rotate_left
  · have HTN := Lib.hid (HT.out.mono fun e w' h => table_no h h0)
    have t0 : (tabC t != 0) = true := by simp [h0]
    generalize tabC t = q at *
    clear h0 HT
    go_wp2_with (first
      | ((with_reducible refine HTN.out.mono ?_); rintro e w3 ⟨rfl, hb3⟩; have HB := Lib.hid (HB.out.trans (hb3.mono HB.out.size)); clear hb3)
      | ((with_reducible refine (HNEW.out _ HB.out).mono ?_); rintro e w4 ⟨rfl, hb4⟩; have HB4 := Lib.hid (HB.out.trans (hb4.mono HB.out.size)); clear hb4)
      | fail)
    go_ret
    exact ⟨rfl, HB4.out⟩
  have HTN := Lib.hid (HT.out.mono fun e w' h => table_ok h h0)
  have hok := tabC_ok h0
  have HOK := Lib.hid hok
  obtain ⟨i0, hi, hz, hsz, hby⟩ := info_parts infoLt
  have HI := Lib.hid (And.intro hi (And.intro hz (And.intro hsz hby)))
  have HLE : Hid (0 + l.length ≤ maxLen ∧ (0 + l.length) * 24 ≤ 140737488355328) := Lib.hid (by have := HFEW.out.2.1; simp only [maxLen]; omega)
  have HEMP := Lib.hid (fun (W : World) (B : Nat) (h : B ≤ W.heap.size) => (own_empty h : (W.alloc (.cells #[] 38)).ownsRow B 38 2 (.slice (some ⟨W.heap.size, 0, none⟩) 0 0) 0 []))
  have HPK := Lib.hid (fun W bt bm vl' (hW : Below w.heap.size w W) (ht : Tab W bt bm t) (hs : Sl W 2 vl' (l.map Lt.row)) => (pack_any t l first own bt bm vl' W (HAP.out W hW).1 (HAP.out W hW).2 hs (by have := HFEW.out.2.1; omega) ht hok.2.1 hok.1).mono fun e w' h => pack_seen h)
  have HPR := Lib.hid (fun W (hW : Below w.heap.size w W) => (refPack_any t l first own vt vl W (HS.out.below hW (Nat.le_refl _)) (HSL.out.below hW (Nat.le_refl _)) HLF.out (by have := HFEW.out.2.1; omega) hok.1).mono fun e w' h => pack_seen h)
  obtain ⟨av, cv, rfl⟩ : ∃ a c, vl = .slice a l.length c := by simpa using HSL.out.shape
  generalize packR t first own l = q at *
  clear h0 HT hok HNEW hi hz hsz hby
  go_wp2_with (first
    | ((with_reducible refine HTN.out.mono ?_); rintro e w3 ⟨bt, bm, rfl, ht, hb3⟩; have HT := Lib.hid ht; have HB := Lib.hid (HB.out.trans (hb3.mono HB.out.size)); have HBA := Lib.hid (HB.out.trans ((one_below w3 (.cells #[] 38)).mono HB.out.size)); have HO0 := Lib.hid (HEMP.out w3 w3.heap.size (Nat.le_refl _)); have HSRC := Lib.hid (src_lots (HSL.out.below HBA.out (Nat.le_refl _))); have HSZ := Lib.hid (show w3.heap.size ≤ (w3.alloc (.cells #[] 38)).heap.size from (one_below w3 _).size); clear ht hb3)
    | ((with_reducible refine Any.wpl_cat ?_ ?_ ?_ Tryz.underlying23 HI.out.1 HI.out.2.1 HI.out.2.2.1 HI.out.2.2.2 ?_ (by decide) HO0.out HSRC.out (ltCells_one _) HLE.out.1 HLE.out.2 HSZ.out ?_); rfl; rfl; rfl; rfl; intro v4 w4 hown4 hgrow4 hwho4; rw [List.nil_append, Nat.zero_add] at hown4; have HO4 := Lib.hid hown4; have HB4 := Lib.hid (((one_below w3 (.cells #[] 38)).grown hgrow4 HSZ.out (fun k hk => (HO0.out.lt k hk).1))); have HT4 := Lib.hid (HT.out.below HB4.out); have HBW4 := Lib.hid (HB.out.trans (HB4.out.mono HB.out.size)); have HS4 := Lib.hid (own_lots hown4 rfl); clear hown4 hgrow4 hwho4)
    | fail)
  obtain ⟨a4, c4, rfl⟩ := Ord.row_slice HO4.out
  refine (HPK.out _ _ _ _ HBW4.out HT4.out HS4.out).mono ?_
  rintro e w5 ⟨v5, R5, rfl, hR5, hq5, hb5⟩
  have HR5 := Lib.hid hR5
  have HQ5 := Lib.hid hq5
  have HS5 := Lib.hid (HS4.out.below hb5 (Nat.le_refl _))
  have HB5 := Lib.hid (HBW4.out.trans (hb5.mono HBW4.out.size))
  obtain ⟨a5, c5, rfl⟩ : ∃ a c, v5 = .slice a R5.length c := by simpa using hR5.1.shape
  clear hR5 hq5 hb5
  go_wp2_with fail
  refine (HPR.out _ HB5.out).mono ?_
  rintro e w6 ⟨v6, R6, rfl, hR6, hq6, hb6⟩
  have HR56 := Lib.hid (HR5.out.below hb6)
  have HR6 := Lib.hid hR6
  have HQ6 := Lib.hid (HQ5.out.trans hq6.symm)
  have HS6 := Lib.hid (HS5.out.below hb6 (Nat.le_refl _))
  have HB6 := Lib.hid (HB5.out.trans (hb6.mono HB5.out.size))
  obtain ⟨a6, c6, rfl⟩ : ∃ a c, v6 = .slice a R6.length c := by simpa using hR6.1.shape
  have HSB := Lib.hid (refSameB_any R5 R6 HQ6.out _ _ w6 HR56.out HR6.out)
  have HSAL : Hid (∀ W, Below w6.heap.size w6 W → Calls Tryz.prog 15 #[.slice a4 l.length c4, .slice av l.length cv] W (RetB W true)) := Lib.hid (fun W hW => by
    have := refSameL_any l l _ _ W (HS6.out.below hW (Nat.le_refl _)) (HSL.out.below (HB6.out.trans (hW.mono HB6.out.size)) (Nat.le_refl _))
    rwa [decide_eq_true rfl] at this)
  generalize q.1 = q1 at *
  have tq : (q1 == q1) = true := by simp
  clear hR6 hq6 hb6
  go_wp2_with (first
    | ((with_reducible refine HSB.out.mono ?_); rintro e w7 ⟨rfl, hb7⟩; have HB7 := Lib.hid hb7; clear hb7)
    | ((with_reducible refine (HSAL.out _ HB7.out).mono ?_); rintro e w8 ⟨rfl, hb8⟩; have HB8 := Lib.hid (HB7.out.trans (hb8.mono HB7.out.size)); clear hb8)
    | fail)
  go_ret
  exact ⟨rfl, HB6.out.trans (HB8.out.mono HB6.out.size)⟩
theorem lifted (os : Os) (started : os.Started) (H : Type) (enc : TypeId × Value → H) :
    ReturnsInHanded {} Tryz.checked os 3 .any (fun w args => (Rows.packPacksSpec.pre enc Tryz.prog Tryz.f3 [] false w args ∧ laidMetH Tryz.prog laidA w) ∧ sizedMet enc Tryz.prog Tryz.f3 (OpenSpec.ofChange Rows.packPacksSpec) false w args) (Rows.packPacksSpec.post enc Tryz.prog Tryz.f3 false true false false) := by
  refine law_liftedD os started (by kernel_rfl) Tryz.func3
    (ChangeSpec.witness_shaped (enc := enc) (C := Tryz.checked) (os := os) (X := fun w _ => laidMetH Tryz.prog laidA w) false (World.doorLaid Tryz.prog 400 os) #[.slice none 0 0, .int .i64 0, .string ⟨#[]⟩, .slice none 0 0] 8 rfl (World.shaped_of_RefB (by kernel_rfl) (by kernel_rfl)) (by kernel_rfl) (by kernel_rfl) (by kernel_rfl) (door_met os _))
    (by kernel_rfl) rfl rfl ?_ ?_
  · intro vs ds W p hA
    rw [Tryz.params3] at hA
    obtain ⟨v0, vs0, d0, ds0, p0, q0, rfl, rfl, rfl, h0, r0⟩ := trodAll_cons hA
    obtain ⟨v1, vs1, d1, ds1, p1, q1, rfl, rfl, rfl, h1, r1⟩ := trodAll_cons r0
    obtain ⟨v2, vs2, d2, ds2, p2, q2, rfl, rfl, rfl, h2, r2⟩ := trodAll_cons r1
    obtain ⟨v3, vs3, d3, ds3, p3, q3, rfl, rfl, rfl, h3, r3⟩ := trodAll_cons r2
    obtain ⟨rfl, rfl, rfl⟩ := trodAll_nil r3
    rfl
  · intro W base args ds p hap hval hA
    rw [Tryz.params3] at hA hval
    obtain ⟨v0, vs0, d0, ds0, p0, q0, hargs, rfl, rfl, h0, r0⟩ := trodAll_cons hA
    obtain ⟨v1, vs1, d1, ds1, p1, q1, rfl, rfl, rfl, h1, r1⟩ := trodAll_cons r0
    obtain ⟨v2, vs2, d2, ds2, p2, q2, rfl, rfl, rfl, h2, r2⟩ := trodAll_cons r1
    obtain ⟨v3, vs3, d3, ds3, p3, q3, rfl, rfl, rfl, h3, r3⟩ := trodAll_cons r2
    obtain ⟨rfl, rfl, rfl⟩ := trodAll_nil r3
    obtain rfl : args = #[v0, v1, v2, v3] := by cases args; simp_all
    obtain ⟨l0, hs0, hf0⟩ := open_goods (hval 0 22 v0 rfl rfl) h0
    obtain ⟨a1, rfl, rfl, rfl, w1⟩ := open_int Tryz.underlying3 (hval 1 3 v1 rfl rfl) h1
    obtain ⟨a2, rfl, rfl, rfl, w2⟩ := Go.ChangeMaps.open_string Tryz.underlying9 (hval 2 9 v2 rfl rfl) h2
    obtain ⟨l3, hs3, hf3⟩ := open_lots (hval 3 23 v3 rfl rfl) h3
    exact walk W hap l0 v0 hs0 hf0 a1 w1 a2 w2 l3 v3 hs3 hf3

theorem over : Rows.packPacksRow.holds Tryz.pinned (OpenSpec.ofChange Rows.packPacksSpec) :=
  OpenClaim.holds_of_wide 3 Tryz.f3 rfl rfl rfl rfl rfl rfl rfl ⟨rfl, rfl, rfl, rfl, rfl⟩ rfl rfl rfl rfl rfl (by kernel_rfl) Tryz.func3 (by kernel_rfl)
    (of_decide_eq_true (by kernel_rfl)) (by unfold Func.isWrapper; rw [if_neg (by decide +kernel)]; exact ⟨rfl, rfl⟩)
    (fun os started H enc _ => lifted os started H enc)

/-- The statement. -/
theorem proved : Rows.PackPacksCardSaid :=
  Claim7.holds_tied_plain_at .later [] [.data, .data, .data, .data] true _ false
    over (fun _ h => by cases h) (by kernel_rfl) (fun _ h => by cases h) packPacks_row_tie rfl ⟨rfl, rfl⟩ (by kernel_rfl) rfl
    (fun f fn hf hfn => by
      obtain rfl : f = 3 := Option.some.inj (hf.symm.trans (by kernel_rfl))
      obtain rfl : fn = Tryz.f3 := (Option.some.inj (Tryz.func3.symm.trans hfn)).symm
      exact ⟨by kernel_rfl, fun j t ht => by
        have hall : (Tryz.f3.params.toList.all fun u => !Tryz.prog.wantsStandIn u) = true := by kernel_rfl
        have hm : t ∈ Tryz.f3.params.toList := by simpa using Array.mem_of_getElem? ht
        exact (show Tryz.prog.wantsStandIn t = false by simpa using List.all_eq_true.1 hall t hm)⟩)
    (by kernel_rfl)
#print axioms proved
end Go.Proofs.YtgnfdplphpejaaaGreatDoor.packPacks
