/- A deed at both: paid; another kind; done. -/
import Derived.Test.YtnlfhncbnfmccaaDoneA26
namespace Go.Proofs.Ytnlfhncbnfmccaa.Sc
open Go Go.RowKit Go.ChangeShapes Go.WideShapes Go.ChangeAt
set_option maxRecDepth 100000

theorem doneP_stay {w w2 : World} {F O : Nat → Prop} {bk bm : Nat} {l : List Pg} {v : Value} (hb : Below w.heap.size w w2) (h : Lx w F bk bm l) (hs : Sl w 6 v (l.map Pg.row)) (ho : Off F v ∨ l = []) (hq : Off O v ∨ l = []) : DoneP w F bk bm O l (.returned (.tuple #[v, .bool true])) w2 :=
  ⟨F, v, rfl, h.below hb, sl_keepP hs (Keep.of_below hb) ho, ho, hq, fun _ h => .inl h, Keep.of_below hb⟩
set_option maxHeartbeats 4000000
theorem donePB (p : Pg) (sm : Int) {w : World} {F O : Nat → Prop} {bk bm : Nat} {l : List Pg} {v : Value} (h : Lx w F bk bm l) (hs : Sl w 6 v (l.map Pg.row)) (hoff : Off F v ∨ l = []) (hoO : Off O v ∨ l = []) (hltO : ∀ k, O k → k < w.heap.size) (hb : badS sm = true) :
    Calls Try.prog 22 #[.pointer (some ⟨bk, 0, none⟩), v, .agg (Dd.mk 4 p sm).cells] w (DoneP w F bk bm O l) := by
  obtain ⟨w1, hw1⟩ : ∃ x, x = w.alloc (.cells (Dd.mk 4 p sm).cells 40) := ⟨_, rfl⟩
  have HB1 : Hid (Below w.heap.size w w1) := Lib.hid (by rw [hw1]; exact one_below _ _)
  have HBX : Hid (DdBox w1 w.heap.size (Dd.mk 4 p sm)) := Lib.hid (by rw [hw1]; exact ddBox_of (heap_alloc_new _ _))
  have HLT : Hid (w.heap.size < w1.heap.size) := Lib.hid (by rw [hw1]; simp)
  have hk0 : Keep F w w1 := Keep.of_below HB1.out
  have HX1 := Lib.hid (h.below HB1.out)
  have HFL := Lib.hid h.lt
  have HOO := Lib.hid (And.intro hoO hltO)
  clear hltO
  have HS1 := Lib.hid (And.intro (sl_keepP hs hk0 hoff) (And.intro hoff (fun k hk => Nat.lt_of_lt_of_le (h.lt k hk) HB1.out.size : ∀ k, F k → k < w1.heap.size)))
  have HST := Lib.hid (fun w2 hb => doneP_stay (w2 := w2) hb h hs hoff hoO)
  have HPB := Lib.hid (payBad_any bk p.thing sm w1 hb)
  have y := HBX.out
  obtain ⟨pt, pd, pc, py, pa, ph⟩ := p
  obtain ⟨y0, y1, y2, y3, y4, y5, y6, y7⟩ := y
  simp only [Dd.cells] at *
  clear h hs hoff hoO hk0
  by_cases h0 : sm < 0
  · have t1 : decide (sm < 0) = true := decide_eq_true h0
    clear h0 hb
    go_enter Try.func22, Try.ntmps22
    go_upto_region 1 with fail
    rw [← hw1]
    clear hw1
    go_wp2_with (first
      | ((with_reducible refine HPB.out.mono ?_); rintro e w2 ⟨rfl, hb2⟩; have HB2 := Lib.hid hb2; have HBX2 := Lib.hid (HBX.out.below HLT.out hb2); clear hb2
         obtain ⟨z0, z1, z2, z3, z4, z5, z6, z7⟩ := HBX2.out
         dsimp only at z0 z1 z2 z3 z4 z5 z6 z7)
      | fail)
    go_ret2
    exact HST.out _ (HB1.out.trans (HB2.out.mono HB1.out.size))
  · have t1 : decide (sm < 0) = false := decide_eq_false h0
    have t2 : decide (1099511627776 < sm) = true := by rw [badS, t1, Bool.false_or] at hb; exact hb
    clear h0 hb
    go_enter Try.func22, Try.ntmps22
    go_upto_region 1 with fail
    rw [← hw1]
    clear hw1
    go_wp2_with (first
      | ((with_reducible refine HPB.out.mono ?_); rintro e w2 ⟨rfl, hb2⟩; have HB2 := Lib.hid hb2; have HBX2 := Lib.hid (HBX.out.below HLT.out hb2); clear hb2
         obtain ⟨z0, z1, z2, z3, z4, z5, z6, z7⟩ := HBX2.out
         dsimp only at z0 z1 z2 z3 z4 z5 z6 z7)
      | fail)
    go_ret2
    exact HST.out _ (HB1.out.trans (HB2.out.mono HB1.out.size))
theorem donePN (p : Pg) (sm : Int) {w : World} {F O : Nat → Prop} {bk bm : Nat} {l : List Pg} {v : Value} (h : Lx w F bk bm l) (hs : Sl w 6 v (l.map Pg.row)) (hoff : Off F v ∨ l = []) (hoO : Off O v ∨ l = []) (hltO : ∀ k, O k → k < w.heap.size) (hok : LnOk l) (hl : l.length ≤ 39) (hb : badS sm = false) (hn : ofT l p.thing = []) :
    Calls Try.prog 22 #[.pointer (some ⟨bk, 0, none⟩), v, .agg (Dd.mk 4 p sm).cells] w (DoneP w F bk bm O l) := by
  obtain ⟨w1, hw1⟩ : ∃ x, x = w.alloc (.cells (Dd.mk 4 p sm).cells 40) := ⟨_, rfl⟩
  have HB1 : Hid (Below w.heap.size w w1) := Lib.hid (by rw [hw1]; exact one_below _ _)
  have HBX : Hid (DdBox w1 w.heap.size (Dd.mk 4 p sm)) := Lib.hid (by rw [hw1]; exact ddBox_of (heap_alloc_new _ _))
  have HLT : Hid (w.heap.size < w1.heap.size) := Lib.hid (by rw [hw1]; simp)
  have hk0 : Keep F w w1 := Keep.of_below HB1.out
  have HX1 := Lib.hid (h.below HB1.out)
  have HFL := Lib.hid h.lt
  have HOO := Lib.hid (And.intro hoO hltO)
  clear hltO
  have HS1 := Lib.hid (And.intro (sl_keepP hs hk0 hoff) (And.intro hoff (fun k hk => Nat.lt_of_lt_of_le (h.lt k hk) HB1.out.size : ∀ k, F k → k < w1.heap.size)))
  have HST := Lib.hid (fun w2 hb => doneP_stay (w2 := w2) hb h hs hoff hoO)
  have HPN := Lib.hid (payNone_any HX1.out p.thing sm hb hn)
  have HOK := Lib.hid hok
  have HHL := Lib.hid hl
  have HN := Lib.hid hn
  have y := HBX.out
  obtain ⟨pt, pd, pc, py, pa, ph⟩ := p
  obtain ⟨y0, y1, y2, y3, y4, y5, y6, y7⟩ := y
  simp only [Dd.cells] at *
  have hs' := badS_no hb
  have t1 : decide (sm < 0) = false := decide_eq_false (by omega)
  have t2 : decide (1099511627776 < sm) = false := decide_eq_false (by omega)
  have tn : (rankOf (ofT l pt)).length = 0 := by rw [HN.out]; rfl
  clear h hs hoff hoO hk0 hok hl hb hn hs'
  go_enter Try.func22, Try.ntmps22
  go_upto_region 1 with fail
  rw [← hw1]
  clear hw1
  go_wp2_with (first
    | ((with_reducible refine HPN.out.mono ?_); rintro e w2 ⟨rfl, hb2⟩; have HB2 := Lib.hid hb2; have HK12 := Lib.hid (Keep.of_below (F := F) hb2); have HBX2 := Lib.hid (HBX.out.below HLT.out hb2); clear hb2
       obtain ⟨z0, z1, z2, z3, z4, z5, z6, z7⟩ := HBX2.out
       dsimp only at z0 z1 z2 z3 z4 z5 z6 z7
       have HRK := Lib.hid (refRank_any l pt v w2 (sl_keepP HS1.out.1 HK12.out HS1.out.2.1) (by have := HHL.out; omega) ((HOK.out.helds.sublist (List.filter_sublist (p := fun x => decide (x.thing = pt)))).imp_of_mem fun {x y} hx hy hxy => hxy ((ofT_mem.1 hx).2.trans (ofT_mem.1 hy).2.symm))))
    | ((with_reducible refine HRK.out.mono ?_); rintro e w3 ⟨vr, rfl, hown3, hb3⟩
       obtain ⟨ar, cr, rfl⟩ : ∃ a c, vr = .slice a (rankOf (ofT l pt)).length c := by simpa using (own_pgs hown3 rfl).shape
       have HB3 := Lib.hid hb3; have HBX3 := Lib.hid (HBX2.out.below (Nat.lt_of_lt_of_le HLT.out HK12.out.size) hb3); clear hown3 hb3
       obtain ⟨x0, x1, x2, x3, x4, x5, x6, x7⟩ := HBX3.out
       dsimp only at x0 x1 x2 x3 x4 x5 x6 x7; rw [tn])
    | fail)
  go_ret2
  exact HST.out _ (HB1.out.trans ((HB2.out.trans (HB3.out.mono HB2.out.size)).mono HB1.out.size))
theorem donePP (p : Pg) (sm : Int) {w : World} {F O : Nat → Prop} {bk bm : Nat} {l : List Pg} {v : Value} (h : Lx w F bk bm l) (hs : Sl w 6 v (l.map Pg.row)) (hoff : Off F v ∨ l = []) (hoO : Off O v ∨ l = []) (hltO : ∀ k, O k → k < w.heap.size) (hok : LnOk l) (hl : l.length ≤ 39) (hb : badS sm = false) (hn : ¬ ofT l p.thing = []) :
    Calls Try.prog 22 #[.pointer (some ⟨bk, 0, none⟩), v, .agg (Dd.mk 4 p sm).cells] w (DoneP w F bk bm O (paidL l p.thing (payE (rankOf (ofT l p.thing)) sm))) := by
  obtain ⟨w1, hw1⟩ : ∃ x, x = w.alloc (.cells (Dd.mk 4 p sm).cells 40) := ⟨_, rfl⟩
  have HB1 : Hid (Below w.heap.size w w1) := Lib.hid (by rw [hw1]; exact one_below _ _)
  have HBX : Hid (DdBox w1 w.heap.size (Dd.mk 4 p sm)) := Lib.hid (by rw [hw1]; exact ddBox_of (heap_alloc_new _ _))
  have HLT : Hid (w.heap.size < w1.heap.size) := Lib.hid (by rw [hw1]; simp)
  have hk0 : Keep F w w1 := Keep.of_below HB1.out
  have HX1 := Lib.hid (h.below HB1.out)
  have HFL := Lib.hid h.lt
  have HOO := Lib.hid (And.intro hoO hltO)
  clear hltO
  have HS1 := Lib.hid (And.intro (sl_keepP hs hk0 hoff) (And.intro hoff (fun k hk => Nat.lt_of_lt_of_le (h.lt k hk) HB1.out.size : ∀ k, F k → k < w1.heap.size)))
  have HPP := Lib.hid (payX_any HX1.out hok p.thing sm hb hl hn)
  have HOK := Lib.hid hok
  have HHL := Lib.hid hl
  have HN := Lib.hid hn
  have y := HBX.out
  obtain ⟨pt, pd, pc, py, pa, ph⟩ := p
  obtain ⟨y0, y1, y2, y3, y4, y5, y6, y7⟩ := y
  simp only [Dd.cells] at *
  have hs' := badS_no hb
  have HSS := Lib.hid hs'
  have t1 : decide (sm < 0) = false := decide_eq_false (by omega)
  have t2 : decide (1099511627776 < sm) = false := decide_eq_false (by omega)
  have h3 : ¬ (rankOf (ofT l pt)).length = 0 := by
    rw [(rankOf_perm _).length_eq]
    exact fun h => HN.out (List.eq_nil_of_length_eq_zero h)
  have t3 : (((rankOf (ofT l pt)).length : Int) == 0) = false := by revert h3; generalize (rankOf (ofT l pt)).length = n; intro h3; simp; exact h3
  have t4 : ((rankOf (ofT l pt)).length == 0) = false := by revert h3; generalize (rankOf (ofT l pt)).length = n; intro h3; simp; exact h3
  obtain ⟨E, hE⟩ : ∃ E, E = payE (rankOf (ofT l pt)) sm := ⟨_, rfl⟩
  obtain ⟨S, hS⟩ : ∃ S, S = payS (rankOf (ofT l pt)) sm := ⟨_, rfl⟩
  have HES := Lib.hid (And.intro hE hS)
  rw [← hE]
  clear h hs hoff hoO hk0 hok hl hb hn hs' h3 hE hS
  go_enter Try.func22, Try.ntmps22
  go_upto_region 1 with fail
  rw [← hw1]
  clear hw1
  go_wp2_with (first
    | ((with_reducible refine HPP.out.mono ?_); rintro e w2 ⟨F', vx, rfl, hx2, hf2, hk2, hsx⟩
       rw [← HES.out.1] at hx2 hsx
       rw [← HES.out.2]
       obtain ⟨axx, cxx, rfl⟩ : ∃ a c, vx = .slice a E.length c := by simpa using hsx.shape
       have HX2 := Lib.hid (And.intro hx2 (And.intro hf2 hsx)); have HK12 := Lib.hid hk2; have HBX2 := Lib.hid (HBX.out.keep HLT.out hk2 (fun hF => Nat.lt_irrefl _ (HFL.out _ hF))); clear hx2 hf2 hk2 hsx
       obtain ⟨z0, z1, z2, z3, z4, z5, z6, z7⟩ := HBX2.out
       dsimp only at z0 z1 z2 z3 z4 z5 z6 z7
       have HRK := Lib.hid (refRank_any l pt v w2 (sl_keepP HS1.out.1 HK12.out HS1.out.2.1) (by have := HHL.out; omega) ((HOK.out.helds.sublist (List.filter_sublist (p := fun x => decide (x.thing = pt)))).imp_of_mem fun {x y} hx hy hxy => hxy ((ofT_mem.1 hx).2.trans (ofT_mem.1 hy).2.symm))))
    | ((with_reducible refine HRK.out.mono ?_); rintro e w3 ⟨vr, rfl, hown3, hb3⟩
       obtain ⟨ar, cr, rfl⟩ : ∃ a c, vr = .slice a (rankOf (ofT l pt)).length c := by simpa using (own_pgs hown3 rfl).shape
       have HB3 := Lib.hid hb3; have HBX3 := Lib.hid (HBX2.out.below (Nat.lt_of_lt_of_le HLT.out HK12.out.size) hb3); clear hown3 hb3
       obtain ⟨x0, x1, x2, x3, x4, x5, x6, x7⟩ := HBX3.out
       dsimp only at x0 x1 x2 x3 x4 x5 x6 x7
       have HSL3 := Lib.hid (sl_keepP (sl_keepP HS1.out.1 HK12.out HS1.out.2.1) (Keep.of_below HB3.out) HS1.out.2.1)
       have HSX3 := Lib.hid (HX2.out.2.2.below HB3.out (Nat.le_refl _))
       have HPA := Lib.hid (refPay_any l pt sm v w3 (fun k => F' k ∨ O k) HSL3.out (off_or (off_more HS1.out.1 HS1.out.2.1 HX2.out.2.1) HOO.out.1) (fun k hk => Nat.lt_of_lt_of_le (hk.elim (HX2.out.1.lt k) (fun h => Nat.lt_of_lt_of_le (HOO.out.2 k h) (Nat.le_trans HB1.out.size HK12.out.size))) HB3.out.size) (by have := HHL.out; omega) HSS.out HOK.out))
    | ((with_reducible refine HPA.out.mono ?_); rintro e w4 ⟨v1, v2, rfl, hs4, hm4, ho4, hb4⟩
       rw [← HES.out.1] at hs4 hm4 ho4
       rw [← HES.out.2]
       have HB4 := Lib.hid hb4; have HM4 := Lib.hid (And.intro hm4 ho4)
       have HEE := Lib.hid (refEntries_any E E _ v1 w4 (HSX3.out.below hb4 (Nat.le_refl _)) hs4)
       rw [decide_eq_true (rfl : E = E)] at HEE
       clear hs4 hm4 ho4 hb4)
    | ((with_reducible refine HEE.out.mono ?_); rintro e w5 ⟨rfl, hb5⟩; have HB5 := Lib.hid hb5; clear hb5)
    | fail)
  go_ret2
  have hb25 : Below w2.heap.size w2 w5 := HB3.out.trans ((HB4.out.trans (HB5.out.mono HB4.out.size)).mono HB3.out.size)
  have hk25 : Keep F' w2 w5 := Keep.of_below hb25
  refine ⟨F', v2, rfl, HX2.out.1.below hb25, HM4.out.1.below HB5.out (Nat.le_refl _), off_l HM4.out.2, off_r HM4.out.2, fun k hk => (HX2.out.2.1 k hk).imp id (fun h => Nat.le_trans HB1.out.size h), ((Keep.of_below HB1.out).trans HK12.out (fun _ _ h => h)).trans hk25 ?_⟩
  exact fun i hi hF => (HX2.out.2.1 i hF).elim id (fun h => absurd (Nat.lt_of_lt_of_le hi HB1.out.size) (by omega))
theorem doneZ (kd : Int) (p : Pg) (sm : Int) {w : World} {F O : Nat → Prop} {bk bm : Nat} {l : List Pg} {v : Value} (h : Lx w F bk bm l) (hs : Sl w 6 v (l.map Pg.row)) (hoff : Off F v ∨ l = []) (hoO : Off O v ∨ l = []) (hltO : ∀ k, O k → k < w.heap.size) (h0 : ¬ kd = 0) (h1 : ¬ kd = 1) (h2 : ¬ kd = 2) (h3 : ¬ kd = 3) (h4 : ¬ kd = 4) :
    Calls Try.prog 22 #[.pointer (some ⟨bk, 0, none⟩), v, .agg (Dd.mk kd p sm).cells] w (DoneP w F bk bm O l) := by
  obtain ⟨w1, hw1⟩ : ∃ x, x = w.alloc (.cells (Dd.mk kd p sm).cells 40) := ⟨_, rfl⟩
  have HB1 : Hid (Below w.heap.size w w1) := Lib.hid (by rw [hw1]; exact one_below _ _)
  have HBX : Hid (DdBox w1 w.heap.size (Dd.mk kd p sm)) := Lib.hid (by rw [hw1]; exact ddBox_of (heap_alloc_new _ _))
  have HLT : Hid (w.heap.size < w1.heap.size) := Lib.hid (by rw [hw1]; simp)
  have hk0 : Keep F w w1 := Keep.of_below HB1.out
  have HX1 := Lib.hid (h.below HB1.out)
  have HOO := Lib.hid (And.intro hoO hltO)
  clear hltO
  have HS1 := Lib.hid (And.intro (sl_keepP hs hk0 hoff) (And.intro hoff (fun k hk => Nat.lt_of_lt_of_le (h.lt k hk) HB1.out.size : ∀ k, F k → k < w1.heap.size)))
  have HST := Lib.hid (fun w2 hb => doneP_stay (w2 := w2) hb h hs hoff hoO)
  have y := HBX.out
  obtain ⟨pt, pd, pc, py, pa, ph⟩ := p
  obtain ⟨y0, y1, y2, y3, y4, y5, y6, y7⟩ := y
  simp only [Dd.cells] at *
  have t0 : (kd == 0) = false := by simpa using h0
  have t1 : (kd == 1) = false := by simpa using h1
  have t2 : (kd == 2) = false := by simpa using h2
  have t3 : (kd == 3) = false := by simpa using h3
  have t4 : (kd == 4) = false := by simpa using h4
  clear h hs hoff hoO hk0 h0 h1 h2 h3 h4
  go_enter Try.func22, Try.ntmps22
  go_upto_region 1 with fail
  rw [← hw1]
  clear hw1
  go_wp2_with fail
  go_ret2
  exact HST.out _ HB1.out
theorem done_any (d : Dd) {w : World} {F O : Nat → Prop} {bk bm : Nat} {l : List Pg} {v : Value} (h : Lx w F bk bm l) (hs : Sl w 6 v (l.map Pg.row)) (hoff : Off F v ∨ l = []) (hoO : Off O v ∨ l = []) (hltO : ∀ k, O k → k < w.heap.size) (hok : LnOk l) (hl : l.length ≤ 39) (hm1 : d.p.thing.size ≤ 9223372036854775807) (hm2 : d.p.debtor.size ≤ 9223372036854775807) (hm3 : d.p.cred.size ≤ 9223372036854775807) :
    Calls Try.prog 22 #[.pointer (some ⟨bk, 0, none⟩), v, .agg d.cells] w (DoneP w F bk bm O (dstep l d)) := by
  have hl' : l.length ≤ 4000 := by omega
  obtain ⟨kd, p, sm⟩ := d
  by_cases h0 : kd = 0
  · subst h0; simpa only [dstep, true_or, if_true] using doneA0 p sm h hs hoff hoO hltO hl' hm1 hm2 hm3
  by_cases h1 : kd = 1
  · subst h1; simpa only [dstep, true_or, or_true, if_true] using doneA1 p sm h hs hoff hoO hltO hl' hm1 hm2 hm3
  by_cases h2 : kd = 2
  · subst h2; simpa only [dstep, or_true, if_true] using doneA2 p sm h hs hoff hoO hltO hl' hm1 hm2 hm3
  have h012 : ¬ (kd = 0 ∨ kd = 1 ∨ kd = 2) := by simp [h0, h1, h2]
  by_cases h3 : kd = 3
  · have := doneB p sm h hs hoff hoO hltO hl' hm1 hm2 hm3
    rw [dstep, if_neg h012, if_pos h3]; rw [h3]; exact this
  by_cases h4 : kd = 4
  · rw [dstep, if_neg h012, if_neg h3, if_pos h4]; rw [h4]
    by_cases hb : badS sm = true
    · rw [if_pos hb]; exact donePB p sm h hs hoff hoO hltO hb
    · have hb' : badS sm = false := by simpa using hb
      rw [if_neg hb]
      by_cases hn : ofT l p.thing = []
      · rw [if_pos hn]; exact donePN p sm h hs hoff hoO hltO hok hl hb' hn
      · rw [if_neg hn]; exact donePP p sm h hs hoff hoO hltO hok hl hb' hn
  · rw [dstep, if_neg h012, if_neg h3, if_neg h4]; exact doneZ kd p sm h hs hoff hoO hltO h0 h1 h2 h3 h4
end Go.Proofs.Ytnlfhncbnfmccaa.Sc
