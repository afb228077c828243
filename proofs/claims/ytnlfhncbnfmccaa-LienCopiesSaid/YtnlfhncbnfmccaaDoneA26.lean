/- A deed at both: pledged, released. -/
import Derived.Test.YtnlfhncbnfmccaaDone26
namespace Go.Proofs.Ytnlfhncbnfmccaa.Sc
open Go Go.RowKit Go.ChangeShapes Go.WideShapes Go.ChangeAt
set_option maxRecDepth 100000

theorem DdBox.keep {w w' : World} {b : Nat} {d : Dd} {G : Nat → Prop} (h : DdBox w b d) (hb : b < w.heap.size) (k : Keep G w w') (hG : ¬ G b) : DdBox w' b d := by
  have hc : ∀ i, w'.cell? ⟨b, i, none⟩ = w.cell? ⟨b, i, none⟩ := fun i => k.cell hb hG
  obtain ⟨h0, h1, h2, h3, h4, h5, h6, h7⟩ := h
  exact ⟨(hc 0).trans h0, (hc 1).trans h1, (hc 2).trans h2, (hc 3).trans h3, (hc 4).trans h4, (hc 5).trans h5, (hc 6).trans h6, (hc 7).trans h7⟩
theorem DdBox.below {w w' : World} {b : Nat} {d : Dd} (h : DdBox w b d) (hb : b < w.heap.size) (k : Below w.heap.size w w') : DdBox w' b d := h.keep hb (Keep.of_below (F := fun _ => False) k) (fun h => h)
theorem doneP_of {w w2 w3 : World} {F F' O : Nat → Prop} {bk bm : Nat} {l : List Pg} {v : Value} (hb : Below w.heap.size w w2) (hx : Lx w3 F' bk bm l) (hf : ∀ k, F' k → F k ∨ w2.heap.size ≤ k) (hk : Keep F w2 w3) (hs : Sl w2 6 v (l.map Pg.row)) (ho : Off F v ∨ l = []) (hq : Off O v ∨ l = []) : DoneP w F bk bm O l (.returned (.tuple #[v, .bool true])) w3 :=
  ⟨F', v, rfl, hx, sl_keepP hs hk ho, off_more hs ho hf, hq, fun k h => (hf k h).imp id (fun h => Nat.le_trans hb.size h), (Keep.of_below hb).trans hk (fun _ _ h => h)⟩
set_option maxHeartbeats 2000000
theorem doneA0 (p : Pg) (sm : Int) {w : World} {F O : Nat → Prop} {bk bm : Nat} {l : List Pg} {v : Value} (h : Lx w F bk bm l) (hs : Sl w 6 v (l.map Pg.row)) (hoff : Off F v ∨ l = []) (hoO : Off O v ∨ l = []) (hltO : ∀ k, O k → k < w.heap.size) (hl : l.length ≤ 4000) (hm1 : p.thing.size ≤ 9223372036854775807) (hm2 : p.debtor.size ≤ 9223372036854775807) (hm3 : p.cred.size ≤ 9223372036854775807) :
    Calls Try.prog 22 #[.pointer (some ⟨bk, 0, none⟩), v, .agg (Dd.mk 0 p sm).cells] w (DoneP w F bk bm O (pledgeL l p)) := by
  obtain ⟨w1, hw1⟩ : ∃ x, x = w.alloc (.cells (Dd.mk 0 p sm).cells 40) := ⟨_, rfl⟩
  have HB1 : Hid (Below w.heap.size w w1) := Lib.hid (by rw [hw1]; exact one_below _ _)
  have HBX : Hid (DdBox w1 w.heap.size (Dd.mk 0 p sm)) := Lib.hid (by rw [hw1]; exact ddBox_of (heap_alloc_new _ _))
  have HLT : Hid (w.heap.size < w1.heap.size) := Lib.hid (by rw [hw1]; simp)
  have hk0 : Keep F w w1 := Keep.of_below HB1.out
  have HX1 := Lib.hid (h.below HB1.out)
  have HREF := Lib.hid (refPledge_any l p v w1 (fun k => F k ∨ O k) (sl_keepP hs hk0 hoff) (off_or hoff hoO) (fun k hk => Nat.lt_of_lt_of_le (hk.elim (h.lt k) (hltO k)) HB1.out.size) hl hm1 hm2 hm3)
  have HL := Lib.hid hl
  have y := HBX.out
  obtain ⟨pt, pd, pc, py, pa, ph⟩ := p
  obtain ⟨y0, y1, y2, y3, y4, y5, y6, y7⟩ := y
  simp only [Dd.cells, Pg.cells] at *
  obtain ⟨q, hq⟩ : ∃ q, q = pledgeC l ⟨pt, pd, pc, py, pa, ph⟩ := ⟨_, rfl⟩
  obtain ⟨l', hl'⟩ : ∃ q, q = (pledgeL l ⟨pt, pd, pc, py, pa, ph⟩) := ⟨_, rfl⟩
  rw [← hq, ← hl'] at HREF
  rw [← hl']
  have HQ := Lib.hid (And.intro hq hl')
  clear hl hs hoff hoO hltO hm1 hm2 hm3 h hk0 hq hl'
  go_enter Try.func22, Try.ntmps22
  go_upto_region 1 with fail
  rw [← hw1]
  clear hw1
  go_wp2_with (first
    | ((with_reducible refine HREF.out.mono ?_); rintro e w2 ⟨v2, rfl, hs2, ho2, hb2⟩; have HB2 := Lib.hid hb2; have HS2 := Lib.hid (And.intro hs2 ho2); have HX2 := Lib.hid (HX1.out.below hb2); have HBX2 := Lib.hid (HBX.out.below HLT.out hb2); clear hs2 ho2 hb2
       obtain ⟨z0, z1, z2, z3, z4, z5, z6, z7⟩ := HBX2.out
       have HPR := Lib.hid (pledgeX_any HX2.out ⟨pt, pd, pc, py, pa, ph⟩ HL.out)
       simp only [Pg.cells] at HPR z0 z1 z2 z3 z4 z5 z6 z7
       rw [← HQ.out.1, ← HQ.out.2] at HPR)
    | ((with_reducible refine HPR.out.mono ?_); rintro e w3 ⟨F', rfl, hx3, hf3, hk3⟩; have H3 := Lib.hid (And.intro hx3 (And.intro hf3 hk3)); clear hx3 hf3 hk3)
    | fail)
  go_ret2
  exact doneP_of (HB1.out.trans (HB2.out.mono HB1.out.size)) H3.out.1 H3.out.2.1 H3.out.2.2 HS2.out.1 (off_l HS2.out.2) (off_r HS2.out.2)

theorem doneA1 (p : Pg) (sm : Int) {w : World} {F O : Nat → Prop} {bk bm : Nat} {l : List Pg} {v : Value} (h : Lx w F bk bm l) (hs : Sl w 6 v (l.map Pg.row)) (hoff : Off F v ∨ l = []) (hoO : Off O v ∨ l = []) (hltO : ∀ k, O k → k < w.heap.size) (hl : l.length ≤ 4000) (hm1 : p.thing.size ≤ 9223372036854775807) (hm2 : p.debtor.size ≤ 9223372036854775807) (hm3 : p.cred.size ≤ 9223372036854775807) :
    Calls Try.prog 22 #[.pointer (some ⟨bk, 0, none⟩), v, .agg (Dd.mk 1 p sm).cells] w (DoneP w F bk bm O (pledgeL l p)) := by
  obtain ⟨w1, hw1⟩ : ∃ x, x = w.alloc (.cells (Dd.mk 1 p sm).cells 40) := ⟨_, rfl⟩
  have HB1 : Hid (Below w.heap.size w w1) := Lib.hid (by rw [hw1]; exact one_below _ _)
  have HBX : Hid (DdBox w1 w.heap.size (Dd.mk 1 p sm)) := Lib.hid (by rw [hw1]; exact ddBox_of (heap_alloc_new _ _))
  have HLT : Hid (w.heap.size < w1.heap.size) := Lib.hid (by rw [hw1]; simp)
  have hk0 : Keep F w w1 := Keep.of_below HB1.out
  have HX1 := Lib.hid (h.below HB1.out)
  have HREF := Lib.hid (refPledge_any l p v w1 (fun k => F k ∨ O k) (sl_keepP hs hk0 hoff) (off_or hoff hoO) (fun k hk => Nat.lt_of_lt_of_le (hk.elim (h.lt k) (hltO k)) HB1.out.size) hl hm1 hm2 hm3)
  have HL := Lib.hid hl
  have y := HBX.out
  obtain ⟨pt, pd, pc, py, pa, ph⟩ := p
  obtain ⟨y0, y1, y2, y3, y4, y5, y6, y7⟩ := y
  simp only [Dd.cells, Pg.cells] at *
  obtain ⟨q, hq⟩ : ∃ q, q = pledgeC l ⟨pt, pd, pc, py, pa, ph⟩ := ⟨_, rfl⟩
  obtain ⟨l', hl'⟩ : ∃ q, q = (pledgeL l ⟨pt, pd, pc, py, pa, ph⟩) := ⟨_, rfl⟩
  rw [← hq, ← hl'] at HREF
  rw [← hl']
  have HQ := Lib.hid (And.intro hq hl')
  clear hl hs hoff hoO hltO hm1 hm2 hm3 h hk0 hq hl'
  go_enter Try.func22, Try.ntmps22
  go_upto_region 1 with fail
  rw [← hw1]
  clear hw1
  go_wp2_with (first
    | ((with_reducible refine HREF.out.mono ?_); rintro e w2 ⟨v2, rfl, hs2, ho2, hb2⟩; have HB2 := Lib.hid hb2; have HS2 := Lib.hid (And.intro hs2 ho2); have HX2 := Lib.hid (HX1.out.below hb2); have HBX2 := Lib.hid (HBX.out.below HLT.out hb2); clear hs2 ho2 hb2
       obtain ⟨z0, z1, z2, z3, z4, z5, z6, z7⟩ := HBX2.out
       have HPR := Lib.hid (pledgeX_any HX2.out ⟨pt, pd, pc, py, pa, ph⟩ HL.out)
       simp only [Pg.cells] at HPR z0 z1 z2 z3 z4 z5 z6 z7
       rw [← HQ.out.1, ← HQ.out.2] at HPR)
    | ((with_reducible refine HPR.out.mono ?_); rintro e w3 ⟨F', rfl, hx3, hf3, hk3⟩; have H3 := Lib.hid (And.intro hx3 (And.intro hf3 hk3)); clear hx3 hf3 hk3)
    | fail)
  go_ret2
  exact doneP_of (HB1.out.trans (HB2.out.mono HB1.out.size)) H3.out.1 H3.out.2.1 H3.out.2.2 HS2.out.1 (off_l HS2.out.2) (off_r HS2.out.2)

theorem doneA2 (p : Pg) (sm : Int) {w : World} {F O : Nat → Prop} {bk bm : Nat} {l : List Pg} {v : Value} (h : Lx w F bk bm l) (hs : Sl w 6 v (l.map Pg.row)) (hoff : Off F v ∨ l = []) (hoO : Off O v ∨ l = []) (hltO : ∀ k, O k → k < w.heap.size) (hl : l.length ≤ 4000) (hm1 : p.thing.size ≤ 9223372036854775807) (hm2 : p.debtor.size ≤ 9223372036854775807) (hm3 : p.cred.size ≤ 9223372036854775807) :
    Calls Try.prog 22 #[.pointer (some ⟨bk, 0, none⟩), v, .agg (Dd.mk 2 p sm).cells] w (DoneP w F bk bm O (pledgeL l p)) := by
  obtain ⟨w1, hw1⟩ : ∃ x, x = w.alloc (.cells (Dd.mk 2 p sm).cells 40) := ⟨_, rfl⟩
  have HB1 : Hid (Below w.heap.size w w1) := Lib.hid (by rw [hw1]; exact one_below _ _)
  have HBX : Hid (DdBox w1 w.heap.size (Dd.mk 2 p sm)) := Lib.hid (by rw [hw1]; exact ddBox_of (heap_alloc_new _ _))
  have HLT : Hid (w.heap.size < w1.heap.size) := Lib.hid (by rw [hw1]; simp)
  have hk0 : Keep F w w1 := Keep.of_below HB1.out
  have HX1 := Lib.hid (h.below HB1.out)
  have HREF := Lib.hid (refPledge_any l p v w1 (fun k => F k ∨ O k) (sl_keepP hs hk0 hoff) (off_or hoff hoO) (fun k hk => Nat.lt_of_lt_of_le (hk.elim (h.lt k) (hltO k)) HB1.out.size) hl hm1 hm2 hm3)
  have HL := Lib.hid hl
  have y := HBX.out
  obtain ⟨pt, pd, pc, py, pa, ph⟩ := p
  obtain ⟨y0, y1, y2, y3, y4, y5, y6, y7⟩ := y
  simp only [Dd.cells, Pg.cells] at *
  obtain ⟨q, hq⟩ : ∃ q, q = pledgeC l ⟨pt, pd, pc, py, pa, ph⟩ := ⟨_, rfl⟩
  obtain ⟨l', hl'⟩ : ∃ q, q = (pledgeL l ⟨pt, pd, pc, py, pa, ph⟩) := ⟨_, rfl⟩
  rw [← hq, ← hl'] at HREF
  rw [← hl']
  have HQ := Lib.hid (And.intro hq hl')
  clear hl hs hoff hoO hltO hm1 hm2 hm3 h hk0 hq hl'
  go_enter Try.func22, Try.ntmps22
  go_upto_region 1 with fail
  rw [← hw1]
  clear hw1
  go_wp2_with (first
    | ((with_reducible refine HREF.out.mono ?_); rintro e w2 ⟨v2, rfl, hs2, ho2, hb2⟩; have HB2 := Lib.hid hb2; have HS2 := Lib.hid (And.intro hs2 ho2); have HX2 := Lib.hid (HX1.out.below hb2); have HBX2 := Lib.hid (HBX.out.below HLT.out hb2); clear hs2 ho2 hb2
       obtain ⟨z0, z1, z2, z3, z4, z5, z6, z7⟩ := HBX2.out
       have HPR := Lib.hid (pledgeX_any HX2.out ⟨pt, pd, pc, py, pa, ph⟩ HL.out)
       simp only [Pg.cells] at HPR z0 z1 z2 z3 z4 z5 z6 z7
       rw [← HQ.out.1, ← HQ.out.2] at HPR)
    | ((with_reducible refine HPR.out.mono ?_); rintro e w3 ⟨F', rfl, hx3, hf3, hk3⟩; have H3 := Lib.hid (And.intro hx3 (And.intro hf3 hk3)); clear hx3 hf3 hk3)
    | fail)
  go_ret2
  exact doneP_of (HB1.out.trans (HB2.out.mono HB1.out.size)) H3.out.1 H3.out.2.1 H3.out.2.2 HS2.out.1 (off_l HS2.out.2) (off_r HS2.out.2)

theorem doneB (p : Pg) (sm : Int) {w : World} {F O : Nat → Prop} {bk bm : Nat} {l : List Pg} {v : Value} (h : Lx w F bk bm l) (hs : Sl w 6 v (l.map Pg.row)) (hoff : Off F v ∨ l = []) (hoO : Off O v ∨ l = []) (hltO : ∀ k, O k → k < w.heap.size) (hl : l.length ≤ 4000) (hm1 : p.thing.size ≤ 9223372036854775807) (hm2 : p.debtor.size ≤ 9223372036854775807) (hm3 : p.cred.size ≤ 9223372036854775807) :
    Calls Try.prog 22 #[.pointer (some ⟨bk, 0, none⟩), v, .agg (Dd.mk 3 p sm).cells] w (DoneP w F bk bm O (relL l p.thing p.cred)) := by
  obtain ⟨w1, hw1⟩ : ∃ x, x = w.alloc (.cells (Dd.mk 3 p sm).cells 40) := ⟨_, rfl⟩
  have HB1 : Hid (Below w.heap.size w w1) := Lib.hid (by rw [hw1]; exact one_below _ _)
  have HBX : Hid (DdBox w1 w.heap.size (Dd.mk 3 p sm)) := Lib.hid (by rw [hw1]; exact ddBox_of (heap_alloc_new _ _))
  have HLT : Hid (w.heap.size < w1.heap.size) := Lib.hid (by rw [hw1]; simp)
  have hk0 : Keep F w w1 := Keep.of_below HB1.out
  have HX1 := Lib.hid (h.below HB1.out)
  have HREF := Lib.hid (refRelease_any l p.thing p.cred v w1 (fun k => F k ∨ O k) (sl_keepP hs hk0 hoff) (off_or hoff hoO) (fun k hk => Nat.lt_of_lt_of_le (hk.elim (h.lt k) (hltO k)) HB1.out.size) hl)
  have HL := Lib.hid hl
  have y := HBX.out
  obtain ⟨pt, pd, pc, py, pa, ph⟩ := p
  obtain ⟨y0, y1, y2, y3, y4, y5, y6, y7⟩ := y
  simp only [Dd.cells] at *
  obtain ⟨q, hq⟩ : ∃ q, q = relC l pt pc := ⟨_, rfl⟩
  obtain ⟨l', hl'⟩ : ∃ q, q = (relL l pt pc) := ⟨_, rfl⟩
  rw [← hq, ← hl'] at HREF
  rw [← hl']
  have HQ := Lib.hid (And.intro hq hl')
  clear hl hs hoff hoO hltO hm1 hm2 hm3 h hk0 hq hl'
  go_enter Try.func22, Try.ntmps22
  go_upto_region 1 with fail
  rw [← hw1]
  clear hw1
  go_wp2_with (first
    | ((with_reducible refine HREF.out.mono ?_); rintro e w2 ⟨v2, rfl, hs2, ho2, hb2⟩; have HB2 := Lib.hid hb2; have HS2 := Lib.hid (And.intro hs2 ho2); have HX2 := Lib.hid (HX1.out.below hb2); have HBX2 := Lib.hid (HBX.out.below HLT.out hb2); clear hs2 ho2 hb2
       obtain ⟨z0, z1, z2, z3, z4, z5, z6, z7⟩ := HBX2.out
       have HPR := Lib.hid (releaseX_any HX2.out pt pc HL.out)
       dsimp only at z0 z1 z2 z3 z4 z5 z6 z7
       rw [← HQ.out.1, ← HQ.out.2] at HPR)
    | ((with_reducible refine HPR.out.mono ?_); rintro e w3 ⟨F', rfl, hx3, hf3, hk3⟩; have H3 := Lib.hid (And.intro hx3 (And.intro hf3 hk3)); clear hx3 hf3 hk3)
    | fail)
  go_ret2
  exact doneP_of (HB1.out.trans (HB2.out.mono HB1.out.size)) H3.out.1 H3.out.2.1 H3.out.2.2 HS2.out.1 (off_l HS2.out.2) (off_r HS2.out.2)

end Go.Proofs.Ytnlfhncbnfmccaa.Sc
