/- What is taken, and what is left, joined, is what there was; from both together either can be taken, and the other one is left. No condition. -/
import Derived.Test.YtogkggmaibeboaaDoorAwake11
import Derived.Test.YtogkggmaibeboaaDoorFew11
import Derived.Test.YtogkggmaibeboaaDoorJoinB11
import Derived.Test.YtogkggmaibeboaaDoorEq11
import Derived.Test.YtogkggmaibeboaaDoorLawD11
namespace Go.Proofs.YtogkggmaibeboaaDoor.goodsTaken
open Go.ChangeShapes Go.WideShapes Go.ChangeAt Go.RowKit Go Sc
set_option maxRecDepth 100000

theorem ltCells_one (l : List Lt) : ∀ u ∈ ltCells l, u.oneCell' = true := by
  intro u hu
  obtain ⟨x, _, h⟩ := List.mem_flatMap.1 hu
  simp [Lt.row] at h
  rcases h with rfl | rfl <;> rfl
theorem lt_rows' (l : List Lt) : ∀ r ∈ l.map Lt.row, r.length = 2 := by
  intro r hr
  obtain ⟨d, _, rfl⟩ := List.mem_map.1 hr
  rfl
theorem src_lots {w : World} {v : Value} {l : List Lt} (h : Sl w 2 v (l.map Lt.row)) : Src w 2 v l.length (ltCells l) := by
  have := h.src (lt_rows' l) (by decide)
  rw [ltCells_flat]
  simpa using this
theorem tot_small {l : List Lt} (h : LtFew l) (n : ByteArray) : posTot l n ≤ 1099511627776 * 41 := by
  have h1 := posTot_le h.cnt n
  have h2 := h.len
  omega
def GotP (w : World) (J : List Lt) (e : Ending) (w' : World) : Prop := ∃ v, e = .returned (.tuple #[v, .bool true]) ∧ w'.ownsRow w.heap.size 38 2 v J.length (ltCells J) ∧ Below w.heap.size w w'
theorem take_got {w : World} {l m : List Lt} {e : Ending} {w' : World} (h : TakeP w l m e w') (hc : canTake l m) : GotP w (leftL l m) e w' := by
  rcases h with ⟨_, h⟩ | ⟨h, _⟩
  · exact h
  · exact absurd hc h
set_option maxHeartbeats 16000000 in
theorem walk (w : World) (hap : ApT w) (l : List Lt) (vl : Value) (hsl : Sl w 2 vl (l.map Lt.row)) (_ : ∀ x ∈ l, x.fit) (m : List Lt) (vm : Value) (hsm : Sl w 2 vm (m.map Lt.row)) (_ : ∀ x ∈ m, x.fit) :
    Calls Tryd.prog 7 #[vl, vm] w (RetB w true) := by
  have HAW := Lib.hid (awake_any w hap)
  have HFL := Lib.hid (fun W (hW : Below w.heap.size w W) => refFew_any l vl W (hsl.below hW (Nat.le_refl _)))
  have HFM := Lib.hid (fun W (hW : Below w.heap.size w W) => refFew_any m vm W (hsm.below hW (Nat.le_refl _)))
  have HSL := Lib.hid hsl
  have HSM := Lib.hid hsm
  clear hap hsl hsm
  go_enter Tryd.func7, Tryd.ntmps7
  go_wp2_with (first
    | ((with_reducible refine HAW.out.mono ?_); rintro e w1 ⟨rfl, hb1⟩; have HB := Lib.hid hb1; clear hb1)
    | fail)
  refine (HFL.out _ HB.out).mono ?_
  rintro e w2 ⟨b, rfl, hb, hb2⟩
  have HB := Lib.hid (HB.out.trans (hb2.mono HB.out.size))
  clear hb2
  cases b with
  | false =>
    clear hb
    go_wp2_with fail
    go_ret
    exact ⟨rfl, HB.out⟩
  | true =>
  have HFW := Lib.hid (hb rfl)
  clear hb
  go_wp2_with fail
  refine (HFM.out _ HB.out).mono ?_
  rintro e w3 ⟨b, rfl, hb, hb3⟩
  have HB := Lib.hid (HB.out.trans (hb3.mono HB.out.size))
  clear hb3
  cases b with
  | false =>
    clear hb
    go_wp2_with fail
    go_ret
    exact ⟨rfl, HB.out⟩
  | true =>
  have HFX := Lib.hid (hb rfl)
  clear hb
  have h1 := HFW.out.len
  have h2 := HFX.out.len
  obtain ⟨i0, hi, hz, hsz, hby⟩ := info_parts infoLt
  have HI := Lib.hid (And.intro hi (And.intro hz (And.intro hsz hby)))
  have HTK := Lib.hid (fun W v (hs : Sl W 2 v ((l ++ m).map Lt.row)) (hW : Below w.heap.size w W) => (take_any (l ++ m) m v vm W hs (HSM.out.below hW (Nat.le_refl _)) (by rw [List.length_append]; omega) (by omega)
    (fun x hx => (List.mem_append.1 hx).elim (HFW.out.cnt x) (HFX.out.cnt x)) HFX.out.cnt).mono fun e w' h => (take_got h (can_both l m)))
  rw [left_both] at HTK
  have HTS := Lib.hid (fun W (hW : Below w.heap.size w W) => (take_any l l vl vl W (HSL.out.below hW (Nat.le_refl _)) (HSL.out.below hW (Nat.le_refl _)) (by omega) (by omega) HFW.out.cnt HFW.out.cnt).mono fun e w' h => (take_got h (can_self l)))
  rw [left_self] at HTS
  have HJ1 := Lib.hid (fun W (hW : Below w.heap.size w W) => join_any l vl W (HSL.out.below hW (Nat.le_refl _)) (by omega) HFW.out.cnt)
  have HJ3 := Lib.hid (fun W v (hs : Sl W 2 v ((l ++ m).map Lt.row)) => join_any (l ++ m) v W hs (by rw [List.length_append]; omega) (fun x hx => (List.mem_append.1 hx).elim (HFW.out.cnt x) (HFX.out.cnt x)))
  have HJ2 := Lib.hid (fun W v (hs : Sl W 2 v ((joinL l ++ m).map Lt.row)) => join_all (joinL l ++ m) v W hs (by have := joinL_length l; rw [List.length_append]; omega) (fun n => by
    have e1 := tot_small HFW.out n
    have e2 := tot_small HFX.out n
    rw [posTot_append, joinL_tot]
    omega))
  rw [join_both] at HJ2
  have HJL : Hid ((joinL l).length ≤ 41) := Lib.hid (Nat.le_trans (joinL_length l) h1)
  generalize joinL (l ++ m) = K at *
  generalize joinL l = J at *
  clear hi hz hsz hby
  go_wp2_with (first
    | ((with_reducible refine Any.wpl_cat (vx := .slice (some ⟨w3.heap.size, 0, none⟩) 0 0) (vy := vl) (base := w3.heap.size) (n := 0) (m := l.length) (xs := []) (news := ltCells l) ?_ ?_ ?_ Tryd.underlying25 HI.out.1 HI.out.2.1 HI.out.2.2.1 HI.out.2.2.2 rfl (by decide) (own_empty (Nat.le_refl _)) (src_lots (HSL.out.below (HB.out.trans ((one_below _ _).mono HB.out.size)) (Nat.le_refl _))) (ltCells_one l) (by simp only [maxLen]; omega) (by omega) (by rw [size_al]; omega) ?_); rfl; rfl; rfl; intro v4 w4 ho4 hg4 hw4; rw [Nat.zero_add, List.nil_append] at ho4; have HO4 := Lib.hid ho4; have HB4 : Hid (Below w3.heap.size w3 w4) := Lib.hid ((one_below _ _).grown hg4 (by rw [size_al]; omega) (fun k hk => Nat.le_of_eq (Option.some.inj hk))); clear ho4 hg4 hw4; go_frame)
    | ((with_reducible refine Any.wpl_cat (vx := v4) (vy := vm) (base := w3.heap.size) (n := l.length) (m := m.length) (xs := ltCells l) (news := ltCells m) ?_ ?_ ?_ Tryd.underlying25 HI.out.1 HI.out.2.1 HI.out.2.2.1 HI.out.2.2.2 rfl (by decide) HO4.out (src_lots (HSM.out.below (HB.out.trans (HB4.out.mono HB.out.size)) (Nat.le_refl _))) (ltCells_one m) (by simp only [maxLen]; omega) (by omega) HB4.out.size ?_); rfl; rfl; rfl; intro v5 w5 ho5 hg5 hw5; rw [← ltCells_append] at ho5; have HS5 := Lib.hid (own_lots ho5 (by rw [List.length_append])); have HSB5 := HS5; have HB := Lib.hid (HB.out.trans ((HB4.out.grown hg5 HB4.out.size (fun k hk => (HO4.out.lt k hk).1)).mono HB.out.size)); have HZ5 := Lib.hid HB.out.size; clear ho5 hg5 hw5; go_frame)
    | ((with_reducible refine (HTK.out _ _ HS5.out HB.out).mono ?_); rintro e w6 ⟨v6, rfl, ho6, hb6⟩; have HO6 := Lib.hid ho6; have HX6 := Lib.hid (own_lots ho6 rfl); have HS5 := Lib.hid (HS5.out.below hb6 (Nat.le_refl _)); have HB := Lib.hid (HB.out.trans (hb6.mono HB.out.size)); have HB6 := Lib.hid hb6; clear ho6 hb6)
    | ((with_reducible refine (HJ1.out _ HB.out).mono ?_); rintro e w7 ⟨v7, rfl, ho7, hb7⟩; have HX7 := Lib.hid (own_lots ho7 rfl); have HO6 := Lib.hid (ownsRow_below HO6.out hb7); have HX6 := Lib.hid (HX6.out.below hb7 (Nat.le_refl _)); have HB7 := Lib.hid hb7; clear ho7 hb7)
    | ((with_reducible refine (refSameL_any _ _ _ _ _ HX6.out HX7.out).mono ?_); rintro e w8 ⟨rfl, hb8⟩; rw [decide_eq_true rfl]; have HO6 := Lib.hid (ownsRow_below HO6.out hb8); have HB8 := Lib.hid (HB7.out.trans (hb8.mono HB7.out.size)); clear hb8)
    | ((with_reducible refine Any.wpl_cat (vx := v6) (vy := vm) (base := w5.heap.size) (n := J.length) (m := m.length) (xs := ltCells J) (news := ltCells m) ?_ ?_ ?_ Tryd.underlying25 HI.out.1 HI.out.2.1 HI.out.2.2.1 HI.out.2.2.2 rfl (by decide) HO6.out (src_lots (HSM.out.below (HB.out.trans (HB8.out.mono HB.out.size)) (Nat.le_refl _))) (ltCells_one m) (by have := HJL.out; simp only [maxLen]; omega) (by have := HJL.out; omega) (Nat.le_trans HB6.out.size HB8.out.size) ?_); rfl; rfl; rfl; intro v9 w9 ho9 hg9 hw9; rw [← ltCells_append] at ho9; have HX9 := Lib.hid (own_lots ho9 (by rw [List.length_append])); have HB9 : Hid (Below w5.heap.size w5 w9) := Lib.hid ((HB6.out.trans (HB8.out.mono HB6.out.size)).grown hg9 (Nat.le_trans HB6.out.size HB8.out.size) (fun k hk => (HO6.out.lt k hk).1)); have HBW := Lib.hid ((HB.out.trans (HB8.out.mono HB.out.size)).grown hg9 (Nat.le_trans HB.out.size HB8.out.size) (fun k hk => Nat.le_trans HZ5.out (HO6.out.lt k hk).1)); have HSC := Lib.hid (HSB5.out.below HB9.out (Nat.le_refl _)); clear ho9 hg9 hw9; go_frame)
    | ((with_reducible refine (HJ2.out _ _ HX9.out).mono ?_); rintro e wA ⟨vA, rfl, hoA, hbA⟩; have HXA := Lib.hid (own_lots hoA rfl); have HSC := Lib.hid (HSC.out.below hbA (Nat.le_refl _)); have HBW := Lib.hid (HBW.out.trans (hbA.mono HBW.out.size)); clear hoA hbA)
    | ((with_reducible refine (HJ3.out _ _ HSC.out).mono ?_); rintro e wE ⟨vE, rfl, hoE, hbE⟩; have HXE := Lib.hid (own_lots hoE rfl); have HXA := Lib.hid (HXA.out.below hbE (Nat.le_refl _)); have HBW := Lib.hid (HBW.out.trans (hbE.mono HBW.out.size)); clear hoE hbE)
    | ((with_reducible refine (refSameL_any _ _ _ _ _ HXA.out HXE.out).mono ?_); rintro e wF ⟨rfl, hbF⟩; rw [decide_eq_true rfl]; have HBW := Lib.hid (HBW.out.trans (hbF.mono HBW.out.size)); clear hbF)
    | ((with_reducible refine (HTS.out _ HBW.out).mono ?_); rintro e wG ⟨vG, rfl, hoG, hbG⟩; obtain ⟨aG, cG, rfl⟩ : ∃ a c, vG = .slice a 0 c := (by simpa using (own_lots hoG rfl).shape); have HBW := Lib.hid (HBW.out.trans (hbG.mono HBW.out.size)); clear hoG hbG)
    | fail)
  go_ret
  exact ⟨rfl, HBW.out⟩

theorem lifted (os : Os) (started : os.Started) (H : Type) (enc : TypeId × Value → H) :
    ReturnsInHanded {} Tryd.checked os 7 .any (fun w args => (Rows.goodsTakenSpec.pre enc Tryd.prog Tryd.f7 [] false w args ∧ laidMetH Tryd.prog laidA w) ∧ sizedMet enc Tryd.prog Tryd.f7 (OpenSpec.ofChange Rows.goodsTakenSpec) false w args) (Rows.goodsTakenSpec.post enc Tryd.prog Tryd.f7 false true false false) := by
  refine law_liftedD os started (by kernel_rfl) Tryd.func7
    (ChangeSpec.witness_shaped (enc := enc) (C := Tryd.checked) (os := os) (X := fun w _ => laidMetH Tryd.prog laidA w) false (World.doorLaid Tryd.prog 400 os) #[.slice none 0 0, .slice none 0 0] 8 rfl (World.shaped_of_RefB (by kernel_rfl) (by kernel_rfl)) (by kernel_rfl) (by kernel_rfl) (by kernel_rfl) (door_met os _))
    (by kernel_rfl) rfl rfl ?_ ?_
  · intro vs ds W p hA
    rw [Tryd.params7] at hA
    obtain ⟨v0, vs0, d0, ds0, p0, q0, rfl, rfl, rfl, h0, r0⟩ := trodAll_cons hA
    obtain ⟨v1, vs1, d1, ds1, p1, q1, rfl, rfl, rfl, h1, r1⟩ := trodAll_cons r0
    obtain ⟨rfl, rfl, rfl⟩ := trodAll_nil r1
    rfl
  · intro W base args ds p hap hval hA
    rw [Tryd.params7] at hA hval
    obtain ⟨v0, vs0, d0, ds0, p0, q0, hargs, rfl, rfl, h0, r0⟩ := trodAll_cons hA
    obtain ⟨v1, vs1, d1, ds1, p1, q1, rfl, rfl, rfl, h1, r1⟩ := trodAll_cons r0
    obtain ⟨rfl, rfl, rfl⟩ := trodAll_nil r1
    obtain rfl : args = #[v0, v1] := by cases args; simp_all
    obtain ⟨l0, hs0, hf0⟩ := open_lots (hval 0 25 v0 rfl rfl) h0
    obtain ⟨l1, hs1, hf1⟩ := open_lots (hval 1 25 v1 rfl rfl) h1
    exact walk W hap l0 v0 hs0 hf0 l1 v1 hs1 hf1

theorem over : Rows.goodsTakenRow.holds Tryd.pinned (OpenSpec.ofChange Rows.goodsTakenSpec) :=
  OpenClaim.holds_of_wide 7 Tryd.f7 rfl rfl rfl rfl rfl rfl rfl ⟨rfl, rfl, rfl, rfl, rfl⟩ rfl rfl rfl rfl rfl (by kernel_rfl) Tryd.func7 (by kernel_rfl)
    (of_decide_eq_true (by kernel_rfl)) (by unfold Func.isWrapper; rw [if_neg (by decide +kernel)]; exact ⟨rfl, rfl⟩)
    (fun os started H enc _ => lifted os started H enc)

/-- The statement. -/
theorem proved : Rows.GoodsTakenCardSaid :=
  Claim7.holds_tied_plain_at .later [] [.data] true _ false
    over (fun _ h => by cases h) (by kernel_rfl) (fun _ h => by cases h) goodsTaken_row_tie rfl ⟨rfl, rfl⟩ (by kernel_rfl) rfl
    (fun f fn hf hfn => by
      obtain rfl : f = 7 := Option.some.inj (hf.symm.trans (by kernel_rfl))
      obtain rfl : fn = Tryd.f7 := (Option.some.inj (Tryd.func7.symm.trans hfn)).symm
      exact ⟨by kernel_rfl, fun j t ht => by
        have hall : (Tryd.f7.params.toList.all fun u => !Tryd.prog.wantsStandIn u) = true := by kernel_rfl
        have hm : t ∈ Tryd.f7.params.toList := by simpa using Array.mem_of_getElem? ht
        exact (show Tryd.prog.wantsStandIn t = false by simpa using List.all_eq_true.1 hall t hm)⟩)
    (by kernel_rfl)
#print axioms proved
end Go.Proofs.YtogkggmaibeboaaDoor.goodsTaken
