/- Lots that go out, by the document. -/
import Derived.Test.YticnmmfiadpbbaaGreatRfS25
namespace Go.Proofs.YticnmmfiadpbbaaGreat.Sc
open Go Go.RowKit Go.ChangeShapes Go.WideShapes Go.ChangeAt
set_option maxRecDepth 100000

theorem Two.off {w wr w' : World} {a b : Array Value} {q : Nat} (t : Two w wr a b) (k : Keep (fun k => k = q) wr w') (hq : w.heap.size + 1 < q) : Two w w' a b :=
  ⟨k.behind t.bel t.bel.size (fun i hi e => by omega), k.blk t.bx (fun e => by omega), k.blk t.br (fun e => by omega)⟩
theorem set_five {w : World} {b : Nat} {x0 x1 x2 x3 x4 u : Value} {T : TypeId} (h : w.heap[b]? = some (.cells #[x0, x1, x2, x3, x4] T (0, 0))) : (w.setCell ⟨b, 3, none⟩ u).heap[b]? = some (.cells #[x0, x1, x2, u, x4] T (0, 0)) := by
  simp [World.setCell, Array.getElem?_modify, h]
theorem outRes : (Tryz.f57).results = #[.cell 8 29, .tmp 9] := by kernel_rfl
theorem out_ways (h : Hs) (n b : ByteArray) (l : List Lt) : (ownC h n b ≠ 0 ∧ outC h n b l = ownC h n b) ∨ (ownC h n b = 0 ∧ ∃ r, rfind h.L n = some r ∧
    ((lotsOk l = false ∧ outC h n b l = 1) ∨ (lotsOk l = true ∧ 64 < l.length ∧ outC h n b l = 7) ∨ (lotsOk l = true ∧ ¬ 64 < l.length ∧ ((leB r.lots l = false ∧ outC h n b l = 10) ∨ (leB r.lots l = true ∧ outC h n b l = 0))))) := by
  unfold ownC outC
  cases hr : rfind h.L n with
  | none => exact .inl ⟨(show (4 : Int) ≠ 0 by decide), rfl⟩
  | some r =>
    simp only
    by_cases hb : r.hold = b
    · rw [if_pos hb, if_pos hb]
      refine .inr ⟨rfl, r, rfl, ?_⟩
      unfold outR
      cases h1 : lotsOk l
      · exact .inl ⟨rfl, rfl⟩
      by_cases h2 : 64 < l.length
      · exact .inr (.inl ⟨rfl, h2, by rw [decide_eq_true h2]; rfl⟩)
      refine .inr (.inr ⟨rfl, h2, ?_⟩)
      rw [decide_eq_false h2]
      cases h3 : leB r.lots l
      · exact .inl ⟨rfl, rfl⟩
      · exact .inr ⟨rfl, rfl⟩
    · rw [if_neg hb, if_neg hb]
      exact .inl ⟨(show (8 : Int) ≠ 0 by decide), rfl⟩
def outL (h : Hs) (n : ByteArray) (r : Rc) (l : List Lt) : List Rc := if (leftL r.lots l).length = 0 then rdel h.L n else rput (rdel h.L n) ⟨r.num, r.house, r.hold, leftL r.lots l, r.day⟩
set_option maxHeartbeats 16000000 in
theorem refOut_any {h : Hs} {k : Nat} (x : Value) (n b : ByteArray) (l : List Lt) (vl : Value) (w : World) (r : RefH w x h) (hk : HsOk k h) (hs : Sl w 2 vl (l.map Lt.row)) (hf : ∀ x ∈ l, x.fit) (hlen : h.L.length ≤ 900000) :
    Calls Tryz.prog 57 #[x, .string n, .string b, vl] w (HouseP w (outH h n b l) (outC h n b l)) := by
  have HOW := Lib.hid (fun W (hW : Below w.heap.size w W) => refOwn_any x n b W (r.below hW))
  have HLO := Lib.hid (fun W (hW : Below w.heap.size w W) => refLots_any l vl W (hs.below hW (Nat.le_refl _)) hf)
  obtain ⟨M, vL, vU, rfl, h1, h2, h3, h4⟩ := r
  obtain ⟨nm, hnm⟩ : ∃ nm, nm = h.name := ⟨_, rfl⟩
  rw [← hnm] at HOW ⊢
  have HGE := Lib.hid (fun W (hW : Below w.heap.size w W) => refGet_any M nm n vL vU W (h2.below hW (Nat.le_refl _)) (fun y hy => Sl.below (h3 y hy) hW (Nat.le_refl _)))
  obtain ⟨aL, cL, rfl⟩ : ∃ a c, vL = .slice a M.length c := by simpa using h2.shape
  obtain ⟨aU, cU, rfl⟩ : ∃ a c, vU = .slice a h.used.length c := by simpa using h4.shape
  obtain ⟨al, cl, rfl⟩ : ∃ a c, vl = .slice a l.length c := by simpa using hs.shape
  have HSAME := Lib.hid (fun (w' : World) (c c' : Int) (h' : Hs) (hb : Below w.heap.size w w') (hc : c = c') (hh : h' = h) => HouseP.same hb hnm h1 h2 h3 h4 hc hh)
  obtain ⟨uL, huL⟩ : ∃ u, u = h.used.length := ⟨_, rfl⟩
  rw [← huL] at HGE HSAME HOW ⊢
  have HT0 := Lib.hid (Two.start w #[.string nm, .slice aL M.length cL, .slice aU uL cU])
  unfold zeroHs at HT0
  have hways := out_ways h n b l
  have HPH : Hid (outC h n b l ≠ 0 → outH h n b l = h) := Lib.hid (fun h0 => if_neg h0)
  have HPS : Hid (∀ r, outC h n b l = 0 → rfind h.L n = some r → outH h n b l = ⟨h.name, outL h n r l, h.used⟩) := Lib.hid (fun r h0 hr => by rw [outH, if_pos h0, hr]; rfl)
  generalize outH h n b l = PH at *
  generalize outC h n b l = PC at *
  generalize hC : ownC h n b = C at *
  have HSL := Lib.hid hs
  have HEQ := Lib.hid h1
  have HS2 := Lib.hid h2
  have HS3 := Lib.hid h3
  have HS4 : Hid (Sl w 1 (.slice aU uL cU) (h.used.map stRow)) := Lib.hid (by rw [huL]; exact h4)
  have HNN := Lib.hid hnm
  have HUU := Lib.hid huL
  have HLN := Lib.hid hlen
  have HOK := Lib.hid hk
  have hll : l.length ≤ 9223372036854775807 := by have := hs.len_le; simp only [List.length_map, maxLen] at this; omega
  generalize hLB : lotsOk l = LB at *
  have HLB := Lib.hid hLB
  clear hLB h1 h2 h3 h4 hnm huL hlen hs hf hk hC
  rcases hways with ⟨hC0, rfl⟩ | ⟨rfl, rc, hrc, hways⟩
  · have t1 : (PC != 0) = true := by simp [hC0]
    have HQ : Hid (PH = h) := Lib.hid (HPH.out hC0)
    clear hC0
    go_enter Tryz.func57, Tryz.ntmps57
    go_wp2_with fail
    refine (HOW.out _ HT0.out.bel).mono ?_
    rintro e w1 ⟨rfl, hb1⟩
    have HT1 := Lib.hid (HT0.out.below hb1)
    obtain ⟨c0, c1, c2⟩ := HT1.out.cells
    clear hb1
    go_wp2_with (first
      | (refine wpList_store_row (P := Tryz.prog) rfl 29 (.tmp 8) (.tmp 21) rfl (w.heap.size + 1) #[.string nm, .slice aL M.length cL, .slice aU uL cU] rfl rfl _ _ HT1.out.br (by kernel_rfl) rfl house_one ?_)
      | fail)
    have HTR := Lib.hid (HT1.out.row (c := #[.string nm, .slice aL M.length cL, .slice aU uL cU]))
    ((try simp only [Exit.inBlock, Exit.then]); refine bodyPost_ret (results_row_tmp outRes _ _ (w.heap.size + 1) _ _ (0, 0) _ (.int .i64 PC) rfl rfl HTR.out.br Tryz.underlying29 rfl (by kernel_rfl)) rfl ?_)
    exact HSAME.out _ _ _ _ HTR.out.bel (rfl) (HQ.out)
  have HRC := Lib.hid hrc
  have t1 : ((0 : Int) != 0) = false := rfl
  clear hrc
  rcases hways with ⟨rfl, rfl⟩ | ⟨rfl, g1, rfl⟩ | ⟨rfl, g1, hways⟩
  · have HQ : Hid (PH = h) := Lib.hid (HPH.out (by decide))
    go_enter Tryz.func57, Tryz.ntmps57
    go_wp2_with fail
    refine (HOW.out _ HT0.out.bel).mono ?_
    rintro e w1 ⟨rfl, hb1⟩
    have HT1 := Lib.hid (HT0.out.below hb1)
    obtain ⟨c0, c1, c2⟩ := HT1.out.cells
    clear hb1
    go_wp2_with (first
      | ((with_reducible refine (HLO.out _ HT1.out.bel).mono ?_); rintro e w2 ⟨rfl, hb2⟩; have HT2 := Lib.hid (HT1.out.below hb2); (try clear c0 c1 c2); obtain ⟨c0, c1, c2⟩ := HT2.out.cells; clear hb2)
      | (refine wpList_store_row (P := Tryz.prog) rfl 29 (.tmp 8) (.tmp 26) rfl (w.heap.size + 1) #[.string nm, .slice aL M.length cL, .slice aU uL cU] rfl rfl _ _ HT2.out.br (by kernel_rfl) rfl house_one ?_)
      | fail)
    have HTR := Lib.hid (HT2.out.row (c := #[.string nm, .slice aL M.length cL, .slice aU uL cU]))
    ((try simp only [Exit.inBlock, Exit.then]); refine bodyPost_ret (results_row_tmp outRes _ _ (w.heap.size + 1) _ _ (0, 0) _ (.int .i64 1) rfl rfl HTR.out.br Tryz.underlying29 rfl (by kernel_rfl)) rfl ?_)
    exact HSAME.out _ _ _ _ HTR.out.bel (rfl) (HQ.out)
  · have HQ : Hid (PH = h) := Lib.hid (HPH.out (by decide))
    have t2 : decide ((64 : Int) < (l.length : Int)) = true := decide_eq_true (by omega)
    clear g1
    go_enter Tryz.func57, Tryz.ntmps57
    go_wp2_with fail
    refine (HOW.out _ HT0.out.bel).mono ?_
    rintro e w1 ⟨rfl, hb1⟩
    have HT1 := Lib.hid (HT0.out.below hb1)
    obtain ⟨c0, c1, c2⟩ := HT1.out.cells
    clear hb1
    go_wp2_with (first
      | ((with_reducible refine (HLO.out _ HT1.out.bel).mono ?_); rintro e w2 ⟨rfl, hb2⟩; have HT2 := Lib.hid (HT1.out.below hb2); (try clear c0 c1 c2); obtain ⟨c0, c1, c2⟩ := HT2.out.cells; clear hb2)
      | (refine wpList_store_row (P := Tryz.prog) rfl 29 (.tmp 8) (.tmp 30) rfl (w.heap.size + 1) #[.string nm, .slice aL M.length cL, .slice aU uL cU] rfl rfl _ _ HT2.out.br (by kernel_rfl) rfl house_one ?_)
      | fail)
    have HTR := Lib.hid (HT2.out.row (c := #[.string nm, .slice aL M.length cL, .slice aU uL cU]))
    ((try simp only [Exit.inBlock, Exit.then]); refine bodyPost_ret (results_row_tmp outRes _ _ (w.heap.size + 1) _ _ (0, 0) _ (.int .i64 7) rfl rfl HTR.out.br Tryz.underlying29 rfl (by kernel_rfl)) rfl ?_)
    exact HSAME.out _ _ _ _ HTR.out.bel (rfl) (HQ.out)
  have t2 : decide ((64 : Int) < (l.length : Int)) = false := decide_eq_false (by omega)
  have HL64 : Hid (l.length ≤ 64) := Lib.hid (by omega)
  have HWY := Lib.hid hways
  clear g1 hways
  have HLP : Hid (∀ x ∈ l, 0 < x.cnt) := Lib.hid (lotsOk_pos HLB.out)
  have HLM : Hid (∀ g, posTot l g ≤ 4611686018427387904) := Lib.hid (fun g => by
    have h1 := posTot_totC HLP.out g
    have h2 := lotsOk_max HLB.out
    have h3 := HL64.out
    omega)
  obtain ⟨L1, hL1⟩ : ∃ L, L = rdelV M n := ⟨_, rfl⟩
  have HR1 : Hid (∀ y ∈ L1, RvOk w y) := Lib.hid (fun y hy => by rw [hL1] at hy; exact HS3.out y (List.mem_filter.1 hy).1)
  have HM1 : Hid (rcsOf L1 = rdel h.L n) := Lib.hid (by rw [hL1, rdelV_of, HEQ.out])
  have HML : Hid (M.length ≤ 900000 ∧ L1.length ≤ 900000) := Lib.hid (by
    have h1 := congrArg List.length HEQ.out
    have h2 : L1.length ≤ M.length := by rw [hL1]; exact List.length_filter_le _ _
    simp only [rcsOf, List.length_map] at h1
    have := HLN.out
    omega)
  have HWO : Hid (∀ W, Below w.heap.size w W → Calls Tryz.prog 78 #[.slice aL M.length cL, .string n] W (RetRow W 34 5 L1.length (rvCells L1))) := Lib.hid (fun W hW => by
    rw [hL1]
    exact refWithout_any M n _ W (HS2.out.below hW (Nat.le_refl _)) (fun y hy => Sl.below (HS3.out y hy) hW (Nat.le_refl _)) (by have := HML.out.1; omega))
  clear hL1
  go_enter Tryz.func57, Tryz.ntmps57
  go_wp2_with fail
  refine (HOW.out _ HT0.out.bel).mono ?_
  rintro e w1 ⟨rfl, hb1⟩
  have HT1 := Lib.hid (HT0.out.below hb1)
  obtain ⟨c0, c1, c2⟩ := HT1.out.cells
  clear hb1
  go_wp2_with (first
    | ((with_reducible refine (HLO.out _ HT1.out.bel).mono ?_); rintro e w2 ⟨rfl, hb2⟩; have HT2 := Lib.hid (HT1.out.below hb2); clear c0 c1 c2; obtain ⟨c0, c1, c2⟩ := HT2.out.cells; clear hb2)
    | fail)
  refine (HGE.out _ HT2.out.bel).mono ?_
  rintro e w3 ⟨hb3, hcase⟩
  have HT3 := Lib.hid (HT2.out.below hb3)
  clear hb3 c0 c1 c2
  rcases hcase with ⟨hf, rfl⟩ | ⟨⟨⟨xn, xh, xo, xl, xd⟩, xv⟩, hmem, hf, rfl⟩
  · exfalso
    rw [HEQ.out, HRC.out] at hf
    cases hf
  rw [HEQ.out, HRC.out] at hf
  obtain rfl := Option.some.inj hf
  obtain ⟨ax, cx, hxv⟩ := (HS3.out _ hmem).shape
  simp only [List.length_map] at hxv
  subst hxv
  have HXS : Hid (Sl w 2 (.slice ax xl.length cx) (xl.map Lt.row)) := Lib.hid (HS3.out _ hmem)
  have HXK : Hid (RcOk ⟨xn, xh, xo, xl, xd⟩) := Lib.hid (HOK.out.all _ (rfind_some HRC.out).1)
  have HTK : Hid (∀ W, Below w.heap.size w W → Calls Tryz.prog 80 #[.slice ax xl.length cx, .slice al l.length cl] W (TakeR W xl l)) := Lib.hid (fun W hW =>
    refTake_any xl l _ _ W (HXS.out.below hW (Nat.le_refl _)) (HSL.out.below hW (Nat.le_refl _)) (by have := HXK.out.len; simp only at this; omega) (by have := HL64.out; omega) HXK.out.norm.pos HLP.out
      (fun g => by have h1 := posTot_totC HXK.out.norm.pos g; have h2 := HXK.out.cnt; simp only at h1 h2; omega) HLM.out)
  simp only [Rv.cells]
  simp only at HWY
  clear hf hmem
  have HB4 := Lib.hid (one_below w3 (.cells #[.string xn, .string xh, .string xo, .slice ax xl.length cx, .int .i64 xd] 34))
  have HT4 := Lib.hid (HT3.out.below HB4.out)
  have HY4 := Lib.hid (heap_alloc_new w3 (.cells #[.string xn, .string xh, .string xo, .slice ax xl.length cx, .int .i64 xd] 34))
  have HBQ : Hid (w.heap.size + 1 < w3.heap.size) := Lib.hid HT3.out.lt
  go_wp2_with fail
  refine (HTK.out _ HT4.out.bel).mono ?_
  rintro e w5 ⟨hb5, hcase⟩
  have HT5 := Lib.hid (HT4.out.below hb5)
  have HY5 := Lib.hid (blk hb5 (lt_blk HY4.out) HY4.out)
  obtain ⟨c0, c1, c2⟩ := HT5.out.cells
  have HB45 := Lib.hid hb5
  clear hb5
  rcases hcase with ⟨hle, v5, rfl, hv5⟩ | ⟨hle, v5, rfl⟩
  rotate_left
  · have hpc : PC = 10 := by
      rcases HWY.out with ⟨-, e⟩ | ⟨e, -⟩
      · exact e
      · rw [hle] at e; cases e
    subst hpc
    have HQ : Hid (PH = h) := Lib.hid (HPH.out (by decide))
    clear hle
    all_goals
      go_wp2_with (first
        | (refine wpList_store_row (P := Tryz.prog) rfl 29 (.tmp 8) (.tmp 46) rfl (w.heap.size + 1) #[.string nm, .slice aL M.length cL, .slice aU uL cU] rfl rfl _ _ HT5.out.br (by kernel_rfl) rfl house_one ?_)
        | fail)
      have HTR := Lib.hid (HT5.out.row (c := #[.string nm, .slice aL M.length cL, .slice aU uL cU]))
      ((try simp only [Exit.inBlock, Exit.then]); refine bodyPost_ret (results_row_tmp outRes _ _ (w.heap.size + 1) _ _ (0, 0) _ (.int .i64 10) rfl rfl HTR.out.br Tryz.underlying29 rfl (by kernel_rfl)) rfl ?_)
      exact HSAME.out _ _ _ _ HTR.out.bel (rfl) (HQ.out)
  have hpc : PC = 0 := by
    rcases HWY.out with ⟨e, -⟩ | ⟨-, e⟩
    · rw [hle] at e; cases e
    · exact e
  subst hpc
  obtain ⟨J, hJ⟩ : ∃ J, J = leftL xl l := ⟨_, rfl⟩
  have hq := HPS.out _ rfl HRC.out
  unfold outL at hq
  simp only at hq
  rw [← hJ] at hv5 hq
  have HV5 := Lib.hid hv5
  have HCT := Lib.hid ((leB_iff _ _).1 hle)
  have HJL : Hid (J.length ≤ 64) := Lib.hid (by rw [hJ]; exact (left_rc HXK.out HCT.out).2.1)
  have HB5 := Lib.hid (HB4.out.trans (HB45.out.mono HB4.out.size))
  obtain ⟨a5, c5, e5⟩ := row_shape hv5
  subst e5
  clear hJ hle hv5 HPH HPS HWY
  have hJ9 : J.length ≤ 9223372036854775807 := by have := HJL.out; omega
  by_cases h0 : J.length = 0
  · rw [if_pos h0] at hq
    have HQ := Lib.hid hq
    have t3 : decide ((0 : Int) < (J.length : Int)) = false := decide_eq_false (by omega)
    have t4 : decide (0 < J.length) = false := decide_eq_false (by omega)
    clear h0 hq
    all_goals
        go_wp2_with (first
          | ((with_reducible refine (HWO.out _ HT5.out.bel).mono ?_); rintro e w6 ⟨v6, rfl, ho6, hb6⟩; obtain ⟨a6, c6, e6⟩ := row_shape ho6; subst e6; have HO6 := Lib.hid ho6; have HT6 := Lib.hid (HT5.out.below hb6); have HY6 := Lib.hid (blk hb6 (lt_blk HY5.out) HY5.out); have HV6 := Lib.hid (ownsRow_below HV5.out hb6); have HB6 := Lib.hid (HB5.out.trans (hb6.mono HB5.out.size)); clear c0 c1 c2 ho6 hb6; obtain ⟨c0, c1, c2⟩ := HT6.out.cells; have zf := free_blk HT6.out.bx 1; have HT7 := Lib.hid (HT6.out.set1 (u := .slice a6 L1.length c6)))
          | (refine wpList_store_row (P := Tryz.prog) rfl 29 (.tmp 8) (.tmp 62) rfl (w.heap.size + 1) #[.string nm, .slice a6 L1.length c6, .slice aU uL cU] rfl rfl _ _ HT7.out.br (by kernel_rfl) rfl house_one ?_)
          | fail)
        have HTR := Lib.hid (HT7.out.row (c := #[.string nm, .slice a6 L1.length c6, .slice aU uL cU]))
        ((try simp only [Exit.inBlock, Exit.then]); refine bodyPost_ret (results_row_tmp outRes _ _ (w.heap.size + 1) _ _ (0, 0) _ (.int .i64 0) rfl rfl HTR.out.br Tryz.underlying29 rfl (by kernel_rfl)) rfl ?_)
        refine ⟨HTR.out.bel, _, rfl, ?_⟩
        rw [HQ.out]
        have HK6 : Keep (fun b => b = w.heap.size ∨ b = w.heap.size + 1) w6 ((w6.setCell ⟨w.heap.size, 1, none⟩ (.slice a6 L1.length c6)).setRow (w.heap.size + 1) #[.string nm, .slice a6 L1.length c6, .slice aU uL cU]) :=
          ((set_keep _ _ _ _).mono fun _ _ e => .inl e).trans ((setRow_keep _ _ _).mono fun _ _ e => .inr e) fun _ _ e => e
        refine ⟨L1, _, _, by rw [← HNN.out], HM1.out, own_two HO6.out rfl (by have := HT5.out.lt; omega) HK6, fun y hy => Sl.below (HR1.out y hy) HTR.out.bel (Nat.le_refl _), HS4.out.below HTR.out.bel (Nat.le_refl _)⟩
  · rw [if_neg h0] at hq
    have HQ := Lib.hid hq
    have t3 : decide ((0 : Int) < (J.length : Int)) = true := decide_eq_true (by omega)
    have t4 : decide (0 < J.length) = true := decide_eq_true (by omega)
    obtain ⟨Y, hY⟩ : ∃ Y : Rv, Y = ⟨⟨xn, xh, xo, J, xd⟩, .slice a5 J.length c5⟩ := ⟨_, rfl⟩
    obtain ⟨L2, hL2⟩ : ∃ L, L = rputV L1 Y := ⟨_, rfl⟩
    have HM2 : Hid (rcsOf L2 = rput (rdel h.L n) ⟨xn, xh, xo, J, xd⟩) := Lib.hid (by rw [hL2, rputV_of, HM1.out, hY])
    have HR2 : Hid (∀ W, Below w.heap.size w W → Sl W 2 (.slice a5 J.length c5) (J.map Lt.row) → ∀ y ∈ L2, RvOk W y) := Lib.hid (fun W hW hss y hy => by
      rw [hL2] at hy
      rcases mem_rputV hy with e | e
      · rw [e, hY]; exact hss
      · exact Sl.below (HR1.out y e) hW (Nat.le_refl _))
    have HPU : Hid (∀ W (a : Option Addr) (c : Nat), Below w.heap.size w W → Sl W 5 (.slice a L1.length c) (L1.map Rv.row) → Sl W 2 (.slice a5 J.length c5) (J.map Lt.row) → Calls Tryz.prog 75 #[.slice a L1.length c, .agg #[.string xn, .string xh, .string xo, .slice a5 J.length c5, .int .i64 xd]] W (RetRow W 34 5 L2.length (rvCells L2))) := Lib.hid (fun W a c hW h1 h2 => by
      have := refPut_rc L1 Y _ W h1 (fun y hy => Sl.below (HR1.out y hy) hW (Nat.le_refl _)) (by rw [hY]; exact h2) (by have := HML.out.2; omega)
      rw [← hL2, hY] at this
      exact this)
    clear h0 hq hY hL2
    all_goals
      go_wp2_with (first
        | ((with_reducible refine (HWO.out _ HT5.out.bel).mono ?_); rintro e w6 ⟨v6, rfl, ho6, hb6⟩; obtain ⟨a6, c6, e6⟩ := row_shape ho6; subst e6; have HO6 := Lib.hid ho6; have HT6 := Lib.hid (HT5.out.below hb6); have HY6 := Lib.hid (blk hb6 (lt_blk HY5.out) HY5.out); have HV6 := Lib.hid (ownsRow_below HV5.out hb6); have HB6 := Lib.hid (HB5.out.trans (hb6.mono HB5.out.size)); clear c0 c1 c2 ho6 hb6; obtain ⟨c0, c1, c2⟩ := HT6.out.cells; have zf := free_blk HT6.out.bx 1; have HT7 := Lib.hid (HT6.out.set1 (u := .slice a6 L1.length c6)); have HK7 := Lib.hid (set_keep w6 w.heap.size 1 (.slice a6 L1.length c6)); have HK8 := Lib.hid (set_keep (w6.setCell ⟨w.heap.size, 1, none⟩ (.slice a6 L1.length c6)) w3.heap.size 3 (.slice a5 J.length c5)); have HY7 := Lib.hid (HK7.out.blk HY6.out (fun e => by have := HBQ.out; omega)); have HY8 := Lib.hid (set_five (u := .slice a5 J.length c5) HY7.out); have HT8 := Lib.hid (HT7.out.off HK8.out HBQ.out); have yy := cell_blk HY7.out 3; have yf := free_blk HY7.out 3; obtain ⟨g0, g1, g2⟩ := HT8.out.cells; have e0 := cell_blk HY8.out 0; have e1 := cell_blk HY8.out 1; have e2 := cell_blk HY8.out 2; have e3 := cell_blk HY8.out 3; have e4 := cell_blk HY8.out 4; simp only [List.getElem?_toArray, List.getElem?_cons_succ, List.getElem?_cons_zero] at yy e0 e1 e2 e3 e4; have HO8 := Lib.hid (ownsRow_keep (ownsRow_keep HO6.out HK7.out (fun b hb e => by have := (HO6.out.lt b hb).1; have := HT5.out.lt; omega)) HK8.out (fun b hb e => by have := (HO6.out.lt b hb).1; have := HB45.out.size; have := lt_blk HY4.out; omega)); have HV8 := Lib.hid (ownsRow_keep (ownsRow_keep HV6.out HK7.out (fun b hb e => by have := (HV6.out.lt b hb).1; have := HT4.out.lt; omega)) HK8.out (fun b hb e => by have := (HV6.out.lt b hb).1; have := lt_blk HY4.out; omega)))
        | ((with_reducible refine (HPU.out _ a6 c6 HT8.out.bel (own_rvs HO8.out rfl) (own_lots HV8.out rfl)).mono ?_); rintro e w9 ⟨v9, rfl, ho9, hb9⟩; obtain ⟨a9, c9, e9⟩ := row_shape ho9; subst e9; have HO9 := Lib.hid ho9; have HT9 := Lib.hid (HT8.out.below hb9); have HV9 := Lib.hid (ownsRow_below HV8.out hb9); clear c0 c1 c2 zf g0 g1 g2 e0 e1 e2 e3 e4 yy yf ho9 hb9; obtain ⟨c0, c1, c2⟩ := HT9.out.cells; have zf := free_blk HT9.out.bx 1; have HT10 := Lib.hid (HT9.out.set1 (u := .slice a9 L2.length c9)))
        | (refine wpList_store_row (P := Tryz.prog) rfl 29 (.tmp 8) (.tmp 62) rfl (w.heap.size + 1) #[.string nm, .slice a9 L2.length c9, .slice aU uL cU] rfl rfl _ _ HT10.out.br (by kernel_rfl) rfl house_one ?_)
        | fail)
      have HTR := Lib.hid (HT10.out.row (c := #[.string nm, .slice a9 L2.length c9, .slice aU uL cU]))
      ((try simp only [Exit.inBlock, Exit.then]); refine bodyPost_ret (results_row_tmp outRes _ _ (w.heap.size + 1) _ _ (0, 0) _ (.int .i64 0) rfl rfl HTR.out.br Tryz.underlying29 rfl (by kernel_rfl)) rfl ?_)
      refine ⟨HTR.out.bel, _, rfl, ?_⟩
      rw [HQ.out]
      have HK10 : Keep (fun b => b = w.heap.size ∨ b = w.heap.size + 1) w9 ((w9.setCell ⟨w.heap.size, 1, none⟩ (.slice a9 L2.length c9)).setRow (w.heap.size + 1) #[.string nm, .slice a9 L2.length c9, .slice aU uL cU]) :=
        ((set_keep _ _ _ _).mono fun _ _ e => .inl e).trans ((setRow_keep _ _ _).mono fun _ _ e => .inr e) fun _ _ e => e
      refine ⟨L2, _, _, by rw [← HNN.out], HM2.out, own_two HO9.out rfl HT8.out.lt HK10, HR2.out _ HTR.out.bel (own_lots (ownsRow_keep HV9.out HK10 (fun b hb e => by have := (HV9.out.lt b hb).1; have := HT4.out.lt; omega)) rfl), HS4.out.below HTR.out.bel (Nat.le_refl _)⟩
end Go.Proofs.YticnmmfiadpbbaaGreat.Sc
