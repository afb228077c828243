/- A receipt passed on, by the document. -/
import Derived.Test.YticnmmfiadpbbaaGreatRfH25
namespace Go.Proofs.YticnmmfiadpbbaaGreat.Sc
open Go Go.RowKit Go.ChangeShapes Go.WideShapes Go.ChangeAt
set_option maxRecDepth 100000

theorem passRes : (Tryz.f54).results = #[.cell 8 29, .tmp 9] := by kernel_rfl
set_option maxHeartbeats 600000 in
theorem refPass_any {h : Hs} (x : Value) (n b to' : ByteArray) (w : World) (r : RefH w x h) (hto : to'.size ≤ 9223372036854775807) (hlen : h.L.length ≤ 900000) :
    Calls Tryz.prog 54 #[x, .string n, .string b, .string to'] w (HouseP w (passH h n b to') (passC h n b to')) := by
  have HOW := Lib.hid (fun W (hW : Below w.heap.size w W) => refOwn_any x n b W (r.below hW))
  have HNM := Lib.hid (fun W => refName25_any to' W hto)
  obtain ⟨M, vL, vU, rfl, h1, h2, h3, h4⟩ := r
  obtain ⟨nm, hnm⟩ : ∃ nm, nm = h.name := ⟨_, rfl⟩
  rw [← hnm] at HOW ⊢
  have HGE := Lib.hid (fun W (hW : Below w.heap.size w W) => refGet_any M nm n vL vU W (h2.below hW (Nat.le_refl _)) (fun y hy => Sl.below (h3 y hy) hW (Nat.le_refl _)))
  obtain ⟨aL, cL, rfl⟩ : ∃ a c, vL = .slice a M.length c := by simpa using h2.shape
  obtain ⟨aU, cU, rfl⟩ : ∃ a c, vU = .slice a h.used.length c := by simpa using h4.shape
  have HSAME := Lib.hid (fun (w' : World) (c c' : Int) (h' : Hs) (hb : Below w.heap.size w w') (hc : c = c') (hh : h' = h) => HouseP.same hb hnm h1 h2 h3 h4 hc hh)
  obtain ⟨uL, huL⟩ : ∃ u, u = h.used.length := ⟨_, rfl⟩
  rw [← huL] at HGE HSAME HOW ⊢
  have HT0 := Lib.hid (Two.start w #[.string nm, .slice aL M.length cL, .slice aU uL cU])
  unfold zeroHs at HT0
  have HPC : Hid (passC h n b to' = if ownC h n b = 0 then (if (!nameOk to' || decide (to' = b)) = true then 1 else 0) else ownC h n b) := Lib.hid rfl
  have HPH : Hid (passC h n b to' ≠ 0 → passH h n b to' = h) := Lib.hid (fun h0 => if_neg h0)
  have HPS : Hid (∀ r, passC h n b to' = 0 → rfind h.L n = some r → passH h n b to' = ⟨h.name, rput (rdel h.L n) ⟨r.num, r.house, to', r.lots, r.day⟩, h.used⟩) := Lib.hid (fun r h0 hr => by rw [passH, if_pos h0, hr])
  have HOC := Lib.hid (fun (h0 : ownC h n b = 0) => ownC_cases h0)
  have HEQ := Lib.hid h1
  have HS2 := Lib.hid h2
  have HS3 := Lib.hid h3
  have HS4 : Hid (Sl w 1 (.slice aU uL cU) (h.used.map stRow)) := Lib.hid (by rw [huL]; exact h4)
  have HNN := Lib.hid hnm
  have HUU := Lib.hid huL
  have HLN := Lib.hid hlen
  generalize hPC : passC h n b to' = PC at *
  generalize hPH : passH h n b to' = PH at *
  generalize hC : ownC h n b = C at *
  clear hPC hPH hC h1 h2 h3 h4 hnm huL hlen
  go_enter Tryz.func54, Tryz.ntmps54
  go_wp2_with fail
  refine (HOW.out _ HT0.out.bel).mono ?_
  rintro e w1 ⟨rfl, hb1⟩
  have HT1 := Lib.hid (HT0.out.below hb1)
  obtain ⟨c0, c1, c2⟩ := HT1.out.cells
  clear hb1
  by_cases hC0 : C = 0
  rotate_left
  · have t1 : (C != 0) = true := by simp [hC0]
    have HQ : Hid (PC = C ∧ PH = h) := Lib.hid (by have e : PC = C := by rw [HPC.out, if_neg hC0]
                                                   exact ⟨e, HPH.out (by rw [e]; exact hC0)⟩)
    clear hC0
    go_wp2_with (first
      | (refine wpList_store_row (P := Tryz.prog) rfl 29 (.tmp 8) (.tmp 19) rfl (w.heap.size + 1) #[.string nm, .slice aL M.length cL, .slice aU uL cU] rfl rfl _ _ HT1.out.br (by kernel_rfl) rfl house_one ?_)
      | fail)
    have HTR := Lib.hid (HT1.out.row (c := #[.string nm, .slice aL M.length cL, .slice aU uL cU]))
    ((try simp only [Exit.inBlock, Exit.then]); refine bodyPost_ret (results_row_tmp passRes _ _ (w.heap.size + 1) _ _ (0, 0) _ (.int .i64 C) rfl rfl HTR.out.br Tryz.underlying29 rfl (by kernel_rfl)) rfl ?_)
    exact HSAME.out _ _ _ _ HTR.out.bel (HQ.out.1) (HQ.out.2)
  subst hC0
  rw [if_pos rfl] at HPC
  have t1 : ((0 : Int) != 0) = false := rfl
  obtain ⟨rc, hrc, hrb⟩ := HOC.out rfl
  have HRC := Lib.hid hrc
  clear hrc hrb
  by_cases ha : (!nameOk to' || decide (to' = b)) = true
  · have HQ : Hid (PC = 1 ∧ PH = h) := Lib.hid (by have e : PC = 1 := by rw [HPC.out, if_pos ha]
                                                   exact ⟨e, HPH.out (by rw [e]; decide)⟩)
    have HAC : Hid (nameOk to' = false ∨ (nameOk to' = true ∧ to' = b)) := Lib.hid (by
      cases hn : nameOk to'
      · exact .inl rfl
      · exact .inr ⟨rfl, by simpa [hn] using ha⟩)
    generalize nameOk to' = B at *
    clear ha
    rcases HAC.out with rfl | ⟨rfl, he⟩
    ·
      go_wp2_with (first
        | ((with_reducible refine (HNM.out _).mono ?_); rintro e w2 ⟨rfl, hb2⟩; have HT2 := Lib.hid (HT1.out.below hb2); clear c0 c1 c2; obtain ⟨c0, c1, c2⟩ := HT2.out.cells; clear hb2)
        | (refine wpList_store_row (P := Tryz.prog) rfl 29 (.tmp 8) (.tmp 29) rfl (w.heap.size + 1) #[.string nm, .slice aL M.length cL, .slice aU uL cU] rfl rfl _ _ HT2.out.br (by kernel_rfl) rfl house_one ?_)
        | fail)
      have HTR := Lib.hid (HT2.out.row (c := #[.string nm, .slice aL M.length cL, .slice aU uL cU]))
      ((try simp only [Exit.inBlock, Exit.then]); refine bodyPost_ret (results_row_tmp passRes _ _ (w.heap.size + 1) _ _ (0, 0) _ (.int .i64 1) rfl rfl HTR.out.br Tryz.underlying29 rfl (by kernel_rfl)) rfl ?_)
      exact HSAME.out _ _ _ _ HTR.out.bel (HQ.out.1) (HQ.out.2)
    · have t2 := str_yes he
      clear he
      go_wp2_with (first
        | ((with_reducible refine (HNM.out _).mono ?_); rintro e w2 ⟨rfl, hb2⟩; have HT2 := Lib.hid (HT1.out.below hb2); clear c0 c1 c2; obtain ⟨c0, c1, c2⟩ := HT2.out.cells; clear hb2)
        | (refine wpList_store_row (P := Tryz.prog) rfl 29 (.tmp 8) (.tmp 29) rfl (w.heap.size + 1) #[.string nm, .slice aL M.length cL, .slice aU uL cU] rfl rfl _ _ HT2.out.br (by kernel_rfl) rfl house_one ?_)
        | fail)
      have HTR := Lib.hid (HT2.out.row (c := #[.string nm, .slice aL M.length cL, .slice aU uL cU]))
      ((try simp only [Exit.inBlock, Exit.then]); refine bodyPost_ret (results_row_tmp passRes _ _ (w.heap.size + 1) _ _ (0, 0) _ (.int .i64 1) rfl rfl HTR.out.br Tryz.underlying29 rfl (by kernel_rfl)) rfl ?_)
      exact HSAME.out _ _ _ _ HTR.out.bel (HQ.out.1) (HQ.out.2)
  · have hnB : nameOk to' = true := by cases hn : nameOk to' <;> simp [hn] at ha ⊢
    have hne : ¬ to' = b := by simpa [hnB] using ha
    have HQ : Hid (PC = 0 ∧ PH = ⟨h.name, rput (rdel h.L n) ⟨rc.num, rc.house, to', rc.lots, rc.day⟩, h.used⟩) := Lib.hid (by
      have e : PC = 0 := by rw [HPC.out, if_neg ha]
      exact ⟨e, HPS.out rc e HRC.out⟩)
    rw [hnB] at HNM
    have t2 := str_no hne
    clear ha hnB hne HPC HPH HPS HOC
    go_wp2_with (first
      | ((with_reducible refine (HNM.out _).mono ?_); rintro e w2 ⟨rfl, hb2⟩; have HT2 := Lib.hid (HT1.out.below hb2); clear c0 c1 c2; obtain ⟨c0, c1, c2⟩ := HT2.out.cells; clear hb2)
      | fail)
    refine (HGE.out _ HT2.out.bel).mono ?_
    rintro e w3 ⟨hb3, hcase⟩
    have HT3 := Lib.hid (HT2.out.below hb3)
    clear hb3 c0 c1 c2
    rcases hcase with ⟨hf, rfl⟩ | ⟨⟨⟨xn, xh, xo, xl, xd⟩, xv⟩, hmem, hf, rfl⟩
    · exfalso
      rw [HEQ.out, HRC.out] at hf
      cases hf
    · rw [HEQ.out, HRC.out] at hf
      obtain rfl := Option.some.inj hf
      obtain ⟨ax, cx, hxv⟩ := (HS3.out _ hmem).shape
      simp only [List.length_map] at hxv
      subst hxv
      have HYOK : Hid (RvOk w ⟨⟨xn, xh, to', xl, xd⟩, .slice ax xl.length cx⟩) := Lib.hid (show RvOk w ⟨⟨xn, xh, xo, xl, xd⟩, .slice ax xl.length cx⟩ from HS3.out _ hmem)
      simp only [Rv.cells]
      simp only at HQ
      clear hf hmem
      go_wp2_with fail
      obtain ⟨Y, hY⟩ : ∃ Y : Rv, Y = ⟨⟨xn, xh, to', xl, xd⟩, .slice ax xl.length cx⟩ := ⟨_, rfl⟩
      have HYE := Lib.hid hY
      have HB4 := Lib.hid (one_below w3 (.cells #[.string xn, .string xh, .string to', .slice ax xl.length cx, .int .i64 xd] 34))
      have HY4 : Hid ((w3.alloc (.cells #[.string xn, .string xh, .string to', .slice ax xl.length cx, .int .i64 xd] 34)).heap[w3.heap.size]? = some (.cells Y.cells 34 (0, 0))) := Lib.hid (by rw [hY]; exact heap_alloc_new _ _)
      have HT4 := Lib.hid (HT3.out.below HB4.out)
      obtain ⟨w4, hw4⟩ : ∃ W, W = w3.alloc (.cells #[.string xn, .string xh, .string to', .slice ax xl.length cx, .int .i64 xd] 34) := ⟨_, rfl⟩
      obtain ⟨bq, hbq⟩ : ∃ b, b = w3.heap.size := ⟨_, rfl⟩
      rw [← hw4] at HB4 HY4 HT4 ⊢
      rw [← hbq] at HY4 ⊢
      obtain ⟨L1, hL1⟩ : ∃ L, L = rdelV M n := ⟨_, rfl⟩
      obtain ⟨L2, hL2⟩ : ∃ L, L = rputV L1 Y := ⟨_, rfl⟩
      have HR1 : Hid (∀ y ∈ L1, RvOk w y) := Lib.hid (fun y hy => by rw [hL1] at hy; exact HS3.out y (List.mem_filter.1 hy).1)
      have HR2 : Hid (∀ y ∈ L2, RvOk w y) := Lib.hid (fun y hy => by
        rw [hL2] at hy
        rcases mem_rputV hy with e | e
        · rw [e, hY]; exact HYOK.out
        · exact HR1.out y e)
      have HM2 : Hid (rcsOf L2 = rput (rdel h.L n) ⟨xn, xh, to', xl, xd⟩) := Lib.hid (by rw [hL2, rputV_of, hL1, rdelV_of, HEQ.out, hY])
      have hM : M.length ≤ 900000 := by have := congrArg List.length HEQ.out; simp only [rcsOf, List.length_map] at this; have := HLN.out; omega
      have HWO : Hid (∀ W, Below w4.heap.size w4 W → Calls Tryz.prog 78 #[.slice aL M.length cL, .string n] W (RetRow W 34 5 L1.length (rvCells L1))) := Lib.hid (fun W hW => by
        have hb := HT4.out.bel.trans (hW.mono HT4.out.bel.size)
        rw [hL1]
        exact refWithout_any M n _ W (HS2.out.below hb (Nat.le_refl _)) (fun y hy => Sl.below (HS3.out y hy) hb (Nat.le_refl _)) (by omega))
      have HPU : Hid (∀ W, Below w4.heap.size w4 W → ∀ v, Sl W 5 v (L1.map Rv.row) → Calls Tryz.prog 75 #[v, .agg #[.string xn, .string xh, .string to', .slice ax xl.length cx, .int .i64 xd]] W (RetRow W 34 5 L2.length (rvCells L2))) := Lib.hid (fun W hW v hv => by
        have hb := HT4.out.bel.trans (hW.mono HT4.out.bel.size)
        have hl : L1.length ≤ M.length := by rw [hL1]; exact List.length_filter_le _ _
        have := refPut_rc L1 Y v W hv (fun y hy => Sl.below (HR1.out y hy) hb (Nat.le_refl _)) (by rw [hY]; exact Sl.below HYOK.out hb (Nat.le_refl _)) (by omega)
        rw [← hL2] at this
        rw [hY] at this
        exact this)
      obtain ⟨B9, hB9⟩ : ∃ B, B = w4.heap.size := ⟨_, rfl⟩
      have HB9 : Hid (B9 ≤ w4.heap.size) := Lib.hid (Nat.le_of_eq hB9)
      have HBX : Hid (w.heap.size + 1 < B9) := Lib.hid (by have := HT4.out.lt; omega)
      clear hw4 hbq hL1 hL2 hY hM hB9
      refine Any.region_litL (fun
        | 0 => Any.val (.pointer (some ⟨w.heap.size, 1, none⟩))
        | 1 => Any.val (.slice aL M.length cL)
        | 2 => Any.val (.string n)
        | 3 => Any.row B9 34 5 (L1.length) (rvCells L1) []
        | 4 => Any.val (.agg #[.string xn, .string xh, .string to', .slice ax xl.length cx, .int .i64 xd])
        | 5 => Any.row B9 34 5 (L2.length) (rvCells L2) []
        | 6 => Any.val (.pointer (some ⟨w.heap.size, 1, none⟩))
        | _ => Any.idle) 7 _ (by kernel_rfl) rfl rfl rfl (by kernel_rfl) (by kernel_rfl) (by kernel_rfl) ?_ ?_ ?_
      · intro i _
        match i with
        | 0 => exact Any.lasts_val _
        | 1 => exact Any.lasts_val _
        | 2 => exact Any.lasts_val _
        | 3 => exact Any.lasts_row _ _ _ _ _ _
        | 4 => exact Any.lasts_val _
        | 5 => exact Any.lasts_row _ _ _ _ _ _
        | 6 => exact Any.lasts_val _
        | n + 7 => exact Any.lasts_idle
      · simp only [List.take_succ_cons, List.take_zero]
        refine ⟨?_, ?_, ?_, ?_, ?_, ?_, ?_, trivial⟩
        · refine Any.owes_plain rfl fun ρ wo hs' hb hc' => ?_
          have h4 : ρ (.tmp 4) = .pointer (some ⟨w.heap.size, 0, none⟩) := hs'.old' 4 (by kernel_rfl)
          go_simp
          exact Any.post_val hb rfl rfl
        · refine Any.owes_plain rfl fun ρ wo hs' hb hc' => ?_
          have h38 : ρ (.tmp 38) = .pointer (some ⟨w.heap.size, 1, none⟩) := hs'.new' 38 0 (by kernel_rfl)
          obtain ⟨-, c1, -⟩ := (HT4.out.below (below_undrew hb)).cells
          go_simp
          exact Any.post_val hb rfl rfl
        · refine Any.owes_plain rfl fun ρ wo hs' hb hc' => ?_
          have h1 : ρ (.tmp 1) = .string n := hs'.old' 1 (by kernel_rfl)
          exact Any.ok_move (Any.post_val hb rfl h1)
        · refine Any.owes_plain rfl fun ρ wo hs' hb hc' => ?_
          have h39 : ρ (.tmp 39) = .slice aL M.length cL := hs'.new' 39 1 (by kernel_rfl)
          have h40 : ρ (.tmp 40) = .string n := hs'.new' 40 2 (by kernel_rfl)
          have hf := hs'.func 78
          go_simp
          exact (HWO.out wo (below_undrew hb)).mono fun e w' ⟨v, he, ho, hb'⟩ => ⟨v, he, Any.post_new hb (ownsRow_base ho (Nat.le_trans HB9.out hb.size)) hb' (fun b h => (ho.lt b h).1)⟩
        · refine Any.owes_plain rfl fun ρ wo hs' hb hc' => ?_
          have h11 : ρ (.tmp 11) = .pointer (some ⟨bq, 0, none⟩) := hs'.old' 11 (by kernel_rfl)
          obtain ⟨y0, y1, y2, y3, y4⟩ := cells5_blk (x := Y) (blk (below_undrew hb) (lt_blk HY4.out) HY4.out)
          rw [HYE.out] at y0 y1 y2 y3 y4
          go_simp
          exact Any.post_val hb rfl rfl
        · refine Any.owes_plain rfl fun ρ wo hs' hb hc' => ?_
          have h42 : ρ (.tmp 42) = .agg #[.string xn, .string xh, .string to', .slice ax xl.length cx, .int .i64 xd] := hs'.new' 42 4 (by kernel_rfl)
          have hf := hs'.func 75
          have h41 : wo.ownsRow B9 34 5 (ρ (.tmp 41)) L1.length (rvCells L1) := hs'.new' 41 3 (by kernel_rfl)
          go_simp
          exact (HPU.out wo (below_undrew hb) _ (own_rvs h41 rfl)).mono fun e w' ⟨v, he, ho, hb'⟩ => ⟨v, he, Any.post_new hb (ownsRow_base ho (Nat.le_trans HB9.out hb.size)) hb' (fun b h => (ho.lt b h).1)⟩
        · refine Any.owes_plain rfl fun ρ wo hs' hb hc' => ?_
          have h4 : ρ (.tmp 4) = .pointer (some ⟨w.heap.size, 0, none⟩) := hs'.old' 4 (by kernel_rfl)
          go_simp
          exact Any.post_val hb rfl rfl
      intro vals w5 hb hk
      have h5 : w5.ownsRow B9 34 5 (vals 5) L2.length (rvCells L2) := hk 5 (by kernel_rfl)
      have h6 : vals 6 = .pointer (some ⟨w.heap.size, 1, none⟩) := hk 6 (by kernel_rfl)
      have HT5 := Lib.hid (HT4.out.below hb)
      have HB45 := Lib.hid hb
      clear hk hb
      simp only [List.take_succ_cons, List.take_zero, Any.putAll]
      go_frame
      simp only [Nat.zero_add, Nat.reduceAdd]
      rw [h6]
      clear h6
      obtain ⟨aV, cV, hv⟩ := row_shape h5
      rw [hv] at h5 ⊢
      have HO5 := Lib.hid h5
      clear h5 hv
      obtain ⟨c0, c1, c2⟩ := HT5.out.cells
      have z1 := free_blk HT5.out.bx 1
      go_simp
      have HT6 := Lib.hid (HT5.out.set1 (u := .slice aV L2.length cV))
      have HK6 := Lib.hid (set_keep w5 w.heap.size 1 (.slice aV L2.length cV))
      obtain ⟨w6, hw6⟩ : ∃ W, W = w5.setCell ⟨w.heap.size, 1, none⟩ (.slice aV L2.length cV) := ⟨_, rfl⟩
      rw [← hw6] at HT6 HK6 ⊢
      clear hw6 c0 c1 c2 z1
      obtain ⟨c0, c1, c2⟩ := HT6.out.cells
      go_wp2_with (first
        | (refine wpList_store_row (P := Tryz.prog) rfl 29 (.tmp 8) (.tmp 45) rfl (w.heap.size + 1) #[.string nm, .slice aV L2.length cV, .slice aU uL cU] rfl rfl _ _ HT6.out.br (by kernel_rfl) rfl house_one ?_)
        | fail)
      have HTR := Lib.hid (HT6.out.row (c := #[.string nm, .slice aV L2.length cV, .slice aU uL cU]))
      ((try simp only [Exit.inBlock, Exit.then]); refine bodyPost_ret (results_row_tmp passRes _ _ (w.heap.size + 1) _ _ (0, 0) _ (.int .i64 0) rfl rfl HTR.out.br Tryz.underlying29 rfl (by kernel_rfl)) rfl ?_)
      refine ⟨HTR.out.bel, _, by rw [HQ.out.1], ?_⟩
      rw [HQ.out.2]
      refine ⟨L2, _, _, by rw [← HNN.out], HM2.out, own_two HO5.out rfl HBX.out ((HK6.out.mono fun _ _ e => .inl e).trans ((setRow_keep w6 _ _).mono fun _ _ e => .inr e) fun _ _ e => e), fun y hy => ?_, ?_⟩
      · exact Sl.below (HR2.out y hy) HTR.out.bel (Nat.le_refl _)
      · exact HS4.out.below HTR.out.bel (Nat.le_refl _)
end Go.Proofs.YticnmmfiadpbbaaGreat.Sc
