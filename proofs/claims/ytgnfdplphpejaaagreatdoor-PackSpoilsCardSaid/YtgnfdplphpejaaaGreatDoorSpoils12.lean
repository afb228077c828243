/- PackSpoils: a packing of which a piece is left out, or doubled, or a box is there twice, is none. -/
import Derived.Test.YtgnfdplphpejaaaGreatDoorPkd12
import Derived.Test.YtgnfdplphpejaaaGreatDoorRefRig12
namespace Go.Proofs.YtgnfdplphpejaaaGreatDoor.packSpoils
open Go.ChangeShapes Go.WideShapes Go.ChangeAt Go.RowKit Go Sc
set_option maxRecDepth 100000
set_option maxHeartbeats 16000000 in
theorem walk (w : World) (hap : Lw w) (t : List Gd) (vt : Value) (hst : Sl w 4 vt (t.map Gd.row)) (hft : ∀ g ∈ t, g.fit) (own : ByteArray) (_ : own.size ≤ maxLen) (l : List Lt) (vl : Value) (hsl : Sl w 2 vl (l.map Lt.row)) (_ : ∀ x ∈ l, x.fit)
    (at' : Int) (hat8 : (Lit.int .u8 at').wf = true) (how : Int) (hhow : (Lit.int .u8 how).wf = true) :
    Calls Tryz.prog 6 #[vt, .string own, vl, .int .u8 at', .int .u8 how] w (RetB w true) := by
  have hat9 : 0 ≤ at' ∧ at' ≤ 255 := by
    simp only [Lit.wf, Bool.and_eq_true, decide_eq_true_eq] at hat8
    exact hat8
  have how9 : 0 ≤ how ∧ how ≤ 255 := by
    simp only [Lit.wf, Bool.and_eq_true, decide_eq_true_eq] at hhow
    exact hhow
  have HAT9 := Lib.hid hat9
  have HHOW := Lib.hid how9
  have HAW := Lib.hid (awake12_any w hap)
  have HAW2 := Lib.hid (fun W (hW : Below w.heap.size w W) => awake12_any W (hap.below hW))
  have HFT := Lib.hid (fun W (hW : Below w.heap.size w W) => few12_any t l vt vl W (hst.below hW (Nat.le_refl _)) (hsl.below hW (Nat.le_refl _)))
  have HAP := Lib.hid (fun W (hW : Below w.heap.size w W) => hap.below hW)
  have HS := Lib.hid hst
  have HSL := Lib.hid hsl
  have HF := Lib.hid hft
  clear hap hst hsl hft hat8 hhow hat9 how9
  go_enter Tryz.func6, Tryz.ntmps6
  go_wp2_with (first
    | ((with_reducible refine HAW.out.mono ?_); rintro e w1 ⟨rfl, hb1⟩; have HB := Lib.hid hb1; clear hb1)
    | fail)
  refine (HFT.out _ HB.out).mono ?_
  rintro e w2 ⟨b, rfl, hb, hb2⟩
  have HB := Lib.hid (HB.out.trans (hb2.mono HB.out.size))
  clear hb2
  cases b with
  | false =>
    clear hb
    go_wp2_with (first
      | ((with_reducible refine (HAW2.out _ HB.out).mono ?_); rintro e w1 ⟨rfl, hb1⟩; have HB := Lib.hid (HB.out.trans (hb1.mono HB.out.size)); clear hb1)
      | fail)
    go_ret
    exact ⟨rfl, HB.out⟩
  | true =>
  have HFEW := Lib.hid (hb rfl)
  clear hb
  have HT := Lib.hid (table_any t vt w2 (HS.out.below HB.out (Nat.le_refl _)) (by have := HFEW.out.1; omega) HF.out)
  by_cases h0 : tabC t = 0
  rotate_left
  · have HTN := Lib.hid (HT.out.mono fun e w' h => table_no h h0)
    clear h0 HT
    go_wp2_with (first
      | ((with_reducible refine HTN.out.mono ?_); rintro e w3 ⟨rfl, hb3⟩; have HB := Lib.hid (HB.out.trans (hb3.mono HB.out.size)); clear hb3)
      | fail)
    go_ret
    exact ⟨rfl, HB.out⟩
  have HTN := Lib.hid (HT.out.mono fun e w' h => table_ok h h0)
  have hok := tabC_ok h0
  have HPK := Lib.hid (fun W bt bm (hW : Below w.heap.size w W) (ht : Tab W bt bm t) => pack_any t l 1 own bt bm vl W (HAP.out W hW).1 (HAP.out W hW).2 (HSL.out.below hW (Nat.le_refl _)) (by have := HFEW.out.2.1; omega) ht hok.2.1 hok.1)
  have HOK := Lib.hid hok
  obtain ⟨av, cv, rfl⟩ : ∃ a c, vl = .slice a l.length c := by simpa using HSL.out.shape
  obtain ⟨i0, hi, hz, hsz, hby⟩ := info_parts infoBx
  have HI := Lib.hid (And.intro hi (And.intro hz (And.intro hsz hby)))
  clear h0 HT hok hi hz hsz hby
  go_wp2_with (first
    | ((with_reducible refine HTN.out.mono ?_); rintro e w3 ⟨bt, bm, rfl, ht, hb3⟩; have HT := Lib.hid ht; have HB := Lib.hid (HB.out.trans (hb3.mono HB.out.size)); clear ht hb3)
    | fail)
  refine (HPK.out _ _ _ HB.out HT.out).mono ?_
  rintro e w4 ⟨hb4, hq⟩
  have HB34 := Lib.hid hb4
  clear hb4
  rcases hq with ⟨h0, rfl⟩ | ⟨h0, v, R, rfl, hat, hR⟩
  · have t0 : ((packR t 1 own l).1 != 0) = true := by simp [h0]
    clear HPK
    generalize (packR t 1 own l).1 = q at *
    clear h0
    go_wp2_with fail
    go_ret
    exact ⟨rfl, HB.out.trans (HB34.out.mono HB.out.size)⟩
  have hpk : packR t 1 own l = (0, R.map Bv.b) := by rw [hR, ← h0]
  have HPD := Lib.hid (packed_few (packR_packed HOK.out.1 hpk) HFEW.out.1 HF.out)
  have HRR := Lib.hid (packR_packed HOK.out.1 hpk).right
  have hR64 : R.length ≤ 64 := by have := (packR_packed HOK.out.1 hpk).len; rwa [List.length_map] at this
  clear HPK h0 hR hpk
  obtain ⟨aR, cR, rfl⟩ := Ord.row_slice hat.own
  have HAT := Lib.hid hat
  clear hat
  by_cases hR0 : R.length = 0
  · obtain rfl := List.length_eq_zero_iff.1 hR0
    clear hR0
    go_wp2_with fail
    go_ret
    exact ⟨rfl, HB.out.trans (HB34.out.mono HB.out.size)⟩
  -- which box
  obtain ⟨q, hqe⟩ : ∃ q : Nat, q = at'.toNat % R.length := ⟨_, rfl⟩
  have hq : q < R.length := by rw [hqe]; exact Nat.mod_lt _ (by omega)
  have e1 : Int.tmod at' (R.length : Int) = (q : Int) := by
    have h1 := HAT9.out.1
    rw [Int.tmod_eq_emod_of_nonneg h1, hqe, Int.natCast_emod, Int.toNat_of_nonneg h1]
  obtain ⟨j, hj⟩ : ∃ j : Int, Int.tmod how 3 = j := ⟨_, rfl⟩
  have hj3 : j = 0 ∨ j = 1 ∨ j = 2 := by
    have h1 := HHOW.out.1
    rw [Int.tmod_eq_emod_of_nonneg h1] at hj
    omega
  obtain ⟨bb, cap, cur, hv, hcur, -, -, m0, m1, m2⟩ := HAT.out.at hq
  obtain ⟨rfl, rfl⟩ : aR = some ⟨bb, 0, none⟩ ∧ cR = cap := by
    simp only [Value.slice.injEq, true_and] at hv
    exact hv
  obtain ⟨x, r, hx⟩ : ∃ x r, R[q].b.lots = x :: r := by
    have := (HPD.out.2.2 _ (List.getElem_mem hq)).1
    cases h : R[q].b.lots with
    | nil => exact absurd h this
    | cons x r => exact ⟨x, r, rfl⟩
  have hlot := HAT.out.lots _ (List.getElem_mem hq)
  obtain ⟨g2, cap2, cur2, hv2, hcur2, k1⟩ : ∃ g2 cap2 cur2, R[q].v = .slice (some ⟨g2, 0, none⟩) (r.length + 1) cap2 ∧ w4.heap[g2]? = some (.cells cur2 38 (0, 0)) ∧ cur2[1]? = some (.int .i64 x.cnt) := by
    rw [hx] at hlot
    rcases hlot.2 with ⟨-, h0⟩ | ⟨g, cp, cu, h1, -, h3, -, -, -, h7⟩
    · exact absurd h0 (by simp)
    · refine ⟨g, cp, cu, h1, h3, ?_⟩
      rw [← Array.getElem?_toList]
      have h8 := congrArg (fun l : List Value => l[1]?) h7
      rw [List.getElem?_take, if_pos (by simp only [List.length_cons]; omega)] at h8
      exact h8
  have hcx := (HPD.out.2.2 _ (List.getElem_mem hq)).2.2 x (by rw [hx]; exact List.mem_cons_self)
  have hg2 : w3.heap.size ≤ g2 := (hlot.lt g2 (by rw [hv2]; rfl)).1
  have c2 : w4.cell? ⟨bb, q * 3 + 2, none⟩ = some (.slice (some ⟨g2, 0, none⟩) (r.length + 1) cap2) := by rw [← hv2]; exact (cell_blk hcur _).trans m2
  have y1 : w4.cell? ⟨g2, 1, none⟩ = some (.int .i64 x.cnt) := (cell_blk hcur2 _).trans k1
  have z1 : w4.frozen? ⟨g2, 1, none⟩ = false := free_blk hcur2 1
  have HRT := Lib.hid (fun (W : World) (hW : Below w3.heap.size w3 W) (R' : List Bv) (v' : Value) (hb : BoxesAt W v' R') (hf : BxFew R' ∧ ∀ y ∈ R', y.fit) (hn : rightP t (R'.map Bv.b) l = false) V (hV : Below W.heap.size W V) =>
    (show Calls Tryz.prog 17 #[.pointer (some ⟨bt, 0, none⟩), v', .slice av l.length cv] V (RetB V false) ∧ Calls Tryz.prog 16 #[vt, v', .slice av l.length cv] V (RetB V false) from by
      have hWV : Below w3.heap.size w3 V := hW.trans (hV.mono hW.size)
      have hwV : Below w.heap.size w V := HB.out.trans (hWV.mono HB.out.size)
      have h1 := right_any t R' l bt bm v' (.slice av l.length cv) V (HAP.out V hwV) (hb.below hV) hf.1 (HSL.out.below hwV (Nat.le_refl _)) (by have := HFEW.out.2.1; omega) HFEW.out.2.2.cnt (HT.out.below hWV) HOK.out.2.1 HOK.out.1
      have h2 := refBoxes_any t R' l vt v' (.slice av l.length cv) V (HS.out.below hwV (Nat.le_refl _)) (hb.below hV) hf.2 hf.1 (HSL.out.below hwV (Nat.le_refl _)) (by have := HFEW.out.2.1; omega) HFEW.out.2.2.cnt HOK.out.1
      rw [hn] at h1 h2
      exact ⟨h1, h2⟩))
  have HSPC : Hid (∀ c : Int, c ≠ x.cnt → c ≤ 1099511627776 → ∀ V, Below w4.heap.size (w4.setCell ⟨g2, 1, none⟩ (.int .i64 c)) V → Calls Tryz.prog 17 #[.pointer (some ⟨bt, 0, none⟩), .slice (some ⟨bb, 0, none⟩) R.length cR, .slice av l.length cv] V (RetB V false) ∧ Calls Tryz.prog 16 #[vt, .slice (some ⟨bb, 0, none⟩) R.length cR, .slice av l.length cv] V (RetB V false)) := Lib.hid (fun c hc hc2 V hV => by
    obtain ⟨s1, s2⟩ := set_split hq ⟨{ R[q].b with lots := ⟨x.good, c⟩ :: r }, R[q].v⟩
    refine HRT.out (w4.setCell ⟨g2, 1, none⟩ (.int .i64 c)) ?_ (R.set q ⟨{ R[q].b with lots := ⟨x.good, c⟩ :: r }, R[q].v⟩) _ (own_boxes (HAT.out.setCnt hq (by rw [hv2]; rfl) hx c)) (few_set hq hx hc2 HPD.out.1 HPD.out.2.1) ?_ V (by rw [show (w4.setCell ⟨g2, 1, none⟩ (.int .i64 c)).heap.size = w4.heap.size by simp [World.setCell]]; exact hV)
    · exact HB34.out.trans ⟨rfl, rfl, rfl, by simp [World.setCell], fun j hj => Below.heap_setCell w4 _ _ j (fun e => by have e : j = g2 := e; omega)⟩
    · rw [s2]
      have h1 := HRR.out
      rw [s1] at h1
      exact spoil_cnt h1 hx hc)
  have HB5 : Hid (∀ c : Int, Below w.heap.size w (w4.setCell ⟨g2, 1, none⟩ (.int .i64 c))) := Lib.hid (fun c => by
    have h5 : Below w3.heap.size w4 (w4.setCell ⟨g2, 1, none⟩ (.int .i64 c)) := ⟨rfl, rfl, rfl, by simp [World.setCell], fun j hj => Below.heap_setCell w4 _ _ j (fun e => by have e : j = g2 := e; omega)⟩
    exact HB.out.trans ((HB34.out.trans h5).mono HB.out.size))
  have HC1 : Hid (x.cnt - 1 ≠ x.cnt ∧ x.cnt - 1 ≤ 1099511627776 ∧ x.cnt + 1 ≠ x.cnt ∧ x.cnt + 1 ≤ 1099511627776) := Lib.hid (by omega)
  have w1 : wrap64 (x.cnt - 1) = x.cnt - 1 := IntWalk.wrap64_in _ (by omega)
  have w2' : wrap64 (x.cnt + 1) = x.cnt + 1 := IntWalk.wrap64_in _ (by omega)
  have ew : wrap64 at' = at' := IntWalk.wrap64_in _ (by have := HAT9.out; omega)
  have tq : ((q : Nat) : Int) < (R.length : Int) := by omega
  have tR : ((R.length : Int) == 0) = false := by rw [beq_eq_false_iff_ne]; omega
  have tR' : (R.length == 0) = false := by simp [hR0]
  have HBX := Lib.hid (fun (W : World) (v' : Value) (ho : W.ownsRow w3.heap.size 45 3 v' (R.length + 1) (bvCells R ++ R[q].cells)) (hg : w4.grownBy W (Value.slice (some ⟨bb, 0, none⟩) R.length cR).ownBlock) => boxes_twice HAT.out (List.getElem_mem hq) ho hg)
  have HBW : Hid (∀ (c : Int) V, Below w4.heap.size (w4.setCell ⟨g2, 1, none⟩ (.int .i64 c)) V → Below w.heap.size w V) := Lib.hid (fun c V hV => (HB5.out c).trans (hV.mono (Nat.le_trans HB.out.size HB34.out.size)))
  have HSD : Hid (rightP t ((R ++ [R[q]]).map Bv.b) l = false) := Lib.hid (by
    have h1 := spoil_dup (t := t) (bs := R.map Bv.b) (lots := l) (k := q) (by simpa using hq)
    rw [List.map_append, List.map_cons, List.map_nil]
    rwa [List.getElem_map] at h1)
  have HFA := Lib.hid (few_app (List.getElem_mem hq) HPD.out.1 hR64 HPD.out.2.1)
  have HOWN := Lib.hid HAT.out.own
  have HLA : Hid (R.length + 1 ≤ maxLen ∧ (R.length + 1) * 48 ≤ 140737488355328 ∧ w3.heap.size ≤ w4.heap.size) := Lib.hid (by have := HB34.out.size; simp only [maxLen]; omega)
  have c0 : w4.cell? ⟨bb, q * 3, none⟩ = some (.string R[q].b.mark) := (cell_blk hcur _).trans m0
  have c1 : w4.cell? ⟨bb, q * 3 + 1, none⟩ = some (.int .i64 R[q].b.kind) := (cell_blk hcur _).trans m1
  have hcells : R[q].cells = [.string R[q].b.mark, .int .i64 R[q].b.kind, .slice (some ⟨g2, 0, none⟩) (r.length + 1) cap2] := by rw [Bv.cells, hv2]
  rw [hcells] at HBX
  have tr : ((0 : Int) < ((r.length + 1 : Nat) : Int)) := by omega
  obtain ⟨mk, kd, hmk, hkd⟩ : ∃ mk kd, mk = R[q].b.mark ∧ kd = R[q].b.kind := ⟨_, _, rfl, rfl⟩
  rw [← hmk, ← hkd] at HBX
  rw [← hmk] at c0
  rw [← hkd] at c1
  obtain ⟨xn, xc⟩ := x
  simp only at HC1 HSPC w1 w2' y1
  obtain ⟨Rq, hRq⟩ : ∃ Rq, Rq = R[q] := ⟨_, rfl⟩
  rw [← hRq] at HBX HSD HFA
  have hlR : r.length ≤ 100 := by
    have := (HPD.out.2.2 _ (List.getElem_mem hq)).2.1
    rw [hx, List.length_cons] at this
    omega
  clear hR0 hqe hv hcur m0 m1 m2 hx hlot hv2 hcur2 k1 hcx hg2 hcells hmk hkd hRq hq hR64
  rcases hj3 with rfl | rfl | rfl
  · have HR := Lib.hid (HSPC.out (xc - 1) HC1.out.1 HC1.out.2.1)
    have HSZ : Hid (w4.heap.size ≤ (w4.setCell ⟨g2, 1, none⟩ (.int .i64 (xc - 1))).heap.size) := Lib.hid (by simp [World.setCell])
    go_wp2_with (first | ((with_reducible refine (HR.out _ (Below.refl _ _)).1.mono ?_); rintro e w8 ⟨rfl, hb8⟩; have HB8 := Lib.hid (hb8.mono HSZ.out); clear hb8) | ((with_reducible refine (HR.out _ HB8.out).2.mono ?_); rintro e w9 ⟨rfl, hb9⟩; have HB9 := Lib.hid (HB8.out.trans (hb9.mono (Nat.le_trans HSZ.out HB8.out.size))); clear hb9) | ((with_reducible refine (HR.out _ HB9.out).1.mono ?_); rintro e w10 ⟨rfl, hb10⟩; have HB10 := Lib.hid (HB9.out.trans (hb10.mono (Nat.le_trans HSZ.out HB9.out.size))); clear hb10) | fail)
    go_ret
    exact ⟨rfl, HBW.out _ _ HB10.out⟩
  · have HR := Lib.hid (HSPC.out (xc + 1) HC1.out.2.2.1 HC1.out.2.2.2)
    have HSZ : Hid (w4.heap.size ≤ (w4.setCell ⟨g2, 1, none⟩ (.int .i64 (xc + 1))).heap.size) := Lib.hid (by simp [World.setCell])
    go_wp2_with (first | ((with_reducible refine (HR.out _ (Below.refl _ _)).1.mono ?_); rintro e w8 ⟨rfl, hb8⟩; have HB8 := Lib.hid (hb8.mono HSZ.out); clear hb8) | ((with_reducible refine (HR.out _ HB8.out).2.mono ?_); rintro e w9 ⟨rfl, hb9⟩; have HB9 := Lib.hid (HB8.out.trans (hb9.mono (Nat.le_trans HSZ.out HB8.out.size))); clear hb9) | ((with_reducible refine (HR.out _ HB9.out).1.mono ?_); rintro e w10 ⟨rfl, hb10⟩; have HB10 := Lib.hid (HB9.out.trans (hb10.mono (Nat.le_trans HSZ.out HB9.out.size))); clear hb10) | fail)
    go_ret
    exact ⟨rfl, HBW.out _ _ HB10.out⟩
  · go_wp2_with (first
      | (((with_reducible refine Any.wpl_push ?_ ?_ ?_ Tryz.underlying30 HI.out.1 HI.out.2.1 HI.out.2.2.1 HI.out.2.2.2 ?_ (by decide) ?_ ((by intro x hx; simp at hx; rcases hx with rfl | rfl | rfl <;> simp [Value.oneCell'])) (HOWN.out) HLA.out.1 HLA.out.2.1 HLA.out.2.2 ?_); rfl; rfl; rfl; rfl; rfl; intro v7 w7 hown7 hgrow7 hwho7); have HB47 := Lib.hid (HB34.out.trans (show Below w3.heap.size w4 w7 from (Below.refl _ _).grown hgrow7 HB34.out.size (fun k hk => (HOWN.out.lt k hk).1))); have HR0 := Lib.hid (HRT.out w7 HB47.out _ _ (HBX.out w7 v7 hown7 hgrow7) HFA.out HSD.out); obtain ⟨a7, c7, h7⟩ := Ord.row_slice hown7; rw [h7] at HR0; have HR := HR0; clear HR0; subst h7; have HSZ := Lib.hid (Nat.le_refl w7.heap.size); clear hown7 hgrow7 hwho7)
      | ((with_reducible refine (HR.out _ (Below.refl _ _)).1.mono ?_); rintro e w8 ⟨rfl, hb8⟩; have HB8 := Lib.hid (hb8.mono HSZ.out); clear hb8) | ((with_reducible refine (HR.out _ HB8.out).2.mono ?_); rintro e w9 ⟨rfl, hb9⟩; have HB9 := Lib.hid (HB8.out.trans (hb9.mono (Nat.le_trans HSZ.out HB8.out.size))); clear hb9) | ((with_reducible refine (HR.out _ HB9.out).1.mono ?_); rintro e w10 ⟨rfl, hb10⟩; have HB10 := Lib.hid (HB9.out.trans (hb10.mono (Nat.le_trans HSZ.out HB9.out.size))); clear hb10) | fail)
    go_ret
    exact ⟨rfl, HB.out.trans ((HB47.out.trans (HB10.out.mono HB47.out.size)).mono HB.out.size)⟩
theorem lifted (os : Os) (started : os.Started) (H : Type) (enc : TypeId × Value → H) :
    ReturnsInHanded {} Tryz.checked os 6 .any (fun w args => (Rows.packSpoilsSpec.pre enc Tryz.prog Tryz.f6 [] false w args ∧ laidMetH Tryz.prog laidA w) ∧ sizedMet enc Tryz.prog Tryz.f6 (OpenSpec.ofChange Rows.packSpoilsSpec) false w args) (Rows.packSpoilsSpec.post enc Tryz.prog Tryz.f6 false true false false) := by
  refine law_liftedD os started (by kernel_rfl) Tryz.func6
    (ChangeSpec.witness_shaped (enc := enc) (C := Tryz.checked) (os := os) (X := fun w _ => laidMetH Tryz.prog laidA w) false (World.doorLaid Tryz.prog 400 os) #[.slice none 0 0, .string ⟨#[]⟩, .slice none 0 0, .int .u8 0, .int .u8 0] 8 rfl (World.shaped_of_RefB (by kernel_rfl) (by kernel_rfl)) (by kernel_rfl) (by kernel_rfl) (by kernel_rfl) (door_met os _))
    (by kernel_rfl) rfl rfl ?_ ?_
  · intro vs ds W p hA
    rw [Tryz.params6] at hA
    obtain ⟨v0, vs0, d0, ds0, p0, q0, rfl, rfl, rfl, h0, r0⟩ := trodAll_cons hA
    obtain ⟨v1, vs1, d1, ds1, p1, q1, rfl, rfl, rfl, h1, r1⟩ := trodAll_cons r0
    obtain ⟨v2, vs2, d2, ds2, p2, q2, rfl, rfl, rfl, h2, r2⟩ := trodAll_cons r1
    obtain ⟨v3, vs3, d3, ds3, p3, q3, rfl, rfl, rfl, h3, r3⟩ := trodAll_cons r2
    obtain ⟨v4, vs4, d4, ds4, p4, q4, rfl, rfl, rfl, h4, r4⟩ := trodAll_cons r3
    obtain ⟨rfl, rfl, rfl⟩ := trodAll_nil r4
    rfl
  · intro W base args ds p hap hval hA
    rw [Tryz.params6] at hA hval
    obtain ⟨v0, vs0, d0, ds0, p0, q0, hargs, rfl, rfl, h0, r0⟩ := trodAll_cons hA
    obtain ⟨v1, vs1, d1, ds1, p1, q1, rfl, rfl, rfl, h1, r1⟩ := trodAll_cons r0
    obtain ⟨v2, vs2, d2, ds2, p2, q2, rfl, rfl, rfl, h2, r2⟩ := trodAll_cons r1
    obtain ⟨v3, vs3, d3, ds3, p3, q3, rfl, rfl, rfl, h3, r3⟩ := trodAll_cons r2
    obtain ⟨v4, vs4, d4, ds4, p4, q4, rfl, rfl, rfl, h4, r4⟩ := trodAll_cons r3
    obtain ⟨rfl, rfl, rfl⟩ := trodAll_nil r4
    obtain rfl : args = #[v0, v1, v2, v3, v4] := by cases args; simp_all
    obtain ⟨l0, hs0, hf0⟩ := open_goods (hval 0 22 v0 rfl rfl) h0
    obtain ⟨a1, rfl, rfl, rfl, w1⟩ := Go.ChangeMaps.open_string Tryz.underlying9 (hval 1 9 v1 rfl rfl) h1
    obtain ⟨l2, hs2, hf2⟩ := open_lots (hval 2 23 v2 rfl rfl) h2
    obtain ⟨a3, rfl, rfl, rfl, w3⟩ := open_int Tryz.underlying5 (hval 3 5 v3 rfl rfl) h3
    obtain ⟨a4, rfl, rfl, rfl, w4⟩ := open_int Tryz.underlying5 (hval 4 5 v4 rfl rfl) h4
    exact walk W hap l0 v0 hs0 hf0 a1 w1 l2 v2 hs2 hf2 a3 w3 a4 w4

theorem over : Rows.packSpoilsRow.holds Tryz.pinned (OpenSpec.ofChange Rows.packSpoilsSpec) :=
  OpenClaim.holds_of_wide 6 Tryz.f6 rfl rfl rfl rfl rfl rfl rfl ⟨rfl, rfl, rfl, rfl, rfl⟩ rfl rfl rfl rfl rfl (by kernel_rfl) Tryz.func6 (by kernel_rfl)
    (of_decide_eq_true (by kernel_rfl)) (by unfold Func.isWrapper; rw [if_neg (by decide +kernel)]; exact ⟨rfl, rfl⟩)
    (fun os started H enc _ => lifted os started H enc)

/-- The statement. -/
theorem proved : Rows.PackSpoilsCardSaid :=
  Claim7.holds_tied_plain_at .later [] [.data, .data, .data, .data] true _ false
    over (fun _ h => by cases h) (by kernel_rfl) (fun _ h => by cases h) packSpoils_row_tie rfl ⟨rfl, rfl⟩ (by kernel_rfl) rfl
    (fun f fn hf hfn => by
      obtain rfl : f = 6 := Option.some.inj (hf.symm.trans (by kernel_rfl))
      obtain rfl : fn = Tryz.f6 := (Option.some.inj (Tryz.func6.symm.trans hfn)).symm
      exact ⟨by kernel_rfl, fun j t ht => by
        have hall : (Tryz.f6.params.toList.all fun u => !Tryz.prog.wantsStandIn u) = true := by kernel_rfl
        have hm : t ∈ Tryz.f6.params.toList := by simpa using Array.mem_of_getElem? ht
        exact (show Tryz.prog.wantsStandIn t = false by simpa using List.all_eq_true.1 hall t hm)⟩)
    (by kernel_rfl)
#print axioms proved
end Go.Proofs.YtgnfdplphpejaaaGreatDoor.packSpoils
